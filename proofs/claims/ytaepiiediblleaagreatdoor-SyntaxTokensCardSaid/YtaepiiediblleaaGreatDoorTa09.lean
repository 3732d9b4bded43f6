/-
  Texts of the claim, joined: Level10, Tokens, Parse5, Text2.
-/
import Derived.Test.YtaepiiediblleaaGreatDoorTa07
import Derived.Test.YtaepiiediblleaaGreatDoorTa08
namespace Go.Proofs.YtaepiiediblleaaGreatDoor
open Go.RowKit

theorem operand_ps {toks : List Tok} {ta : Option Addr} {tn tc : Nat} {w0 w : World} {bp k : Nat} {li : List Lvl} {t : Lvl} {M X : List Nat} (h : PS toks ta tn tc w0 w bp k li t M X) (ho : HasOps w0) :
    Calls Tryz.prog 39 #[.pointer (some ⟨bp, 0, none⟩)] w (fun e w' => ∃ v : PartV, e = .returned (.tuple #[v.val, .int .i64 (operandF toks k).2.1]) ∧ PartR (mask w' (X ++ M)) (operandF toks k).1 v ∧ PS toks ta tn tc w0 w' bp (operandF toks k).2.2 li t M X ∧ Chg M w w') := by
  obtain ⟨vl, l, x, hI, hll⟩ := h
  refine (operand_calls hI.pc ho).mono ?_
  rintro e w' ⟨v, he, h1, h2, h3⟩
  exact ⟨v, he, h1 (X ++ M) hI.hKlt, ⟨vl, l, x, hI.step h2 h3 (operandF_ge0 toks k), hll⟩, h2.mono (by rw [hI.hM]; simp)⟩

theorem PS.pot {toks : List Tok} {ta : Option Addr} {tn tc : Nat} {w0 w : World} {bp k : Nat} {li : List Lvl} {t : Lvl} {M X : List Nat} (h : PS toks ta tn tc w0 w bp k li t M X) : potAll (li ++ [t]) ≤ 2 * k ∧ k ≤ tn ∧ tn ≤ 1000000 ∧ (Tidy t.ands ∧ Tidy t.ors) ∧ (∀ y ∈ M, y < w.heap.size) ∧ bp ∈ M ∧ bp < w.heap.size := by
  obtain ⟨vl, l, x, hI, hll⟩ := h
  have hbM : bp ∈ M := by rw [hI.hM]; simp
  exact ⟨hI.pot, hI.pc.hk, hI.small, hI.tidy t (by simp), fun y hy => hI.hKlt y (hI.hK y hy), hbM, hI.hKlt bp (hI.hK bp hbM)⟩
theorem PS.ext {toks : List Tok} {ta : Option Addr} {tn tc : Nat} {w0 w : World} {bp k : Nat} {li : List Lvl} {t : Lvl} {M X : List Nat} (h : PS toks ta tn tc w0 w bp k li t M X) {w' : World} (hx : Ext w w') : PS toks ta tn tc w0 w' bp k li t M X := by
  obtain ⟨vl, l, x, hI, hll⟩ := h
  exact ⟨vl, l, x, hI.ext hx, hll⟩

theorem PS.more {toks : List Tok} {ta : Option Addr} {tn tc : Nat} {w0 w : World} {bp k : Nat} {li : List Lvl} {t : Lvl} {M X : List Nat} (h : PS toks ta tn tc w0 w bp k li t M X) {w' : World} (hx : Ext w w') (hs : w.heap.size < w'.heap.size) : PS toks ta tn tc w0 w' bp k li t M (w.heap.size :: X) := by
  obtain ⟨vl, l, x, hI, hll⟩ := h
  refine ⟨vl, l, x, hI.chg (hx.chg []) (by simp) (by simp) (mask_sub_mask fun y hy hn => ⟨?_, hx.block y hy⟩) (fun y hy => List.mem_append_right _ hy) (fun y hy => ?_), hll⟩
  · rw [List.cons_append, List.mem_cons, not_or]; exact ⟨by omega, hn⟩
  · rw [List.cons_append] at hy
    rcases List.mem_cons.1 hy with rfl | hy
    · exact hs
    · have := hI.hKlt y hy; omega

theorem PS.acceptY {toks : List Tok} {ta : Option Addr} {tn tc : Nat} {w0 w : World} {bp k : Nat} {li : List Lvl} {t : Lvl} {M X : List Nat} (h : PS toks ta tn tc w0 w bp k li t M X) {kind : Int} {text : ByteArray} (ha : acceptB toks k kind text = true) :
    Calls Tryz.prog 43 #[.pointer (some ⟨bp, 0, none⟩), .int .i64 kind, .string text] w (fun e w' => e = .returned (.bool true) ∧ Chg [bp] w w' ∧ PS toks ta tn tc w0 w' bp (k + 1) li t M X ∧ k + 1 ≤ tn) := by
  obtain ⟨vl, l, x, hI, hll⟩ := h
  refine (hI.pc.acceptY ha).mono ?_
  rintro e w' ⟨he, h1, h2⟩
  exact ⟨he, h1, ⟨vl, l, x, hI.step h1 h2 (by omega), hll⟩, h2.hk⟩

/-- closed: the levels that stay. -/
theorem closed_ps {toks : List Tok} {ta : Option Addr} {tn tc : Nat} {w0 w : World} {bp k : Nat} {li : List Lvl} {t : Lvl} {M X : List Nat} (h : PS toks ta tn tc w0 w bp k li t M X) :
    Calls Tryz.prog 42 #[.pointer (some ⟨bp, 0, none⟩)] w (fun e w' => ∃ (v : PartV) (a : Option Addr) (cap : Nat) (M' : List Nat) (vl' : Value), e = .returned v.val ∧ vl' = .slice a li.length cap ∧ PC toks ta tn tc w0 w' bp k vl' ∧ PartR (mask w' (X ++ M')) (wholeF t) v ∧ Chg M w w' ∧ (∀ y ∈ M', y ∈ M) ∧ bp ∈ M' ∧
      (∀ li' t', li = li' ++ [t'] → PS toks ta tn tc w0 w' bp k li' t' M' X)) := by
  obtain ⟨vl, l, x, hI, hll⟩ := h
  refine (closed_calls hI hll).mono ?_
  rintro e w' ⟨v, vl', M', he, h1, h2, h3, h4⟩
  obtain ⟨a, cap, e2, -⟩ := IsRows.of_owns (f := LvlV.cells) (fun _ => rfl) h1.own
  rw [← h1.len] at e2
  refine ⟨v, a, cap, M', vl', he, e2, h1.pc, h2, h3, h4, by rw [h1.hM]; simp, fun li' t' e1 => ?_⟩
  subst e1
  have hl0 : 0 < l.length := by rw [← hll]; simp
  obtain ⟨l', x', rfl⟩ : ∃ l' x', l = l' ++ [x'] := ⟨l.dropLast, l.getLast (by intro e; simp [e] at hl0), (List.dropLast_concat_getLast _).symm⟩
  exact ⟨_, l', x', h1, by simpa using hll⟩

/-- What expression hands back. -/
def ExprQ (R : Part × Int × Nat) (ta : Option Addr) (tn tc : Nat) (w : World) (bp : Nat) (M X : List Nat) (e : Ending) (w' : World) : Prop :=
  ∃ (v : PartV) (vl' : Value), e = .returned (.tuple #[v.val, .int .i64 R.2.1]) ∧ PartR (mask w' X) R.1 v ∧ PB w' bp ta tn tc R.2.2 vl' ∧ Chg M w w'

def OuterI (R : Part × Int × Nat) (toks : List Tok) (ta : Option Addr) (tn tc : Nat) (w0 wb : World) (bp : Nat) (M X : List Nat) (m : Nat) (_ : Value) (wr : World) : Prop :=
  ∃ k li t M' f, PS toks ta tn tc w0 wr bp k li t M' X ∧ Chg M wb wr ∧ (∀ y ∈ M', y ∈ M ∨ wb.heap.size ≤ y) ∧ m = tn - k ∧ 2 * (tn - k) + 2 ≤ f ∧ runF toks tn f true k li t = R
def InnerI (R : Part × Int × Nat) (toks : List Tok) (ta : Option Addr) (tn tc : Nat) (w0 wb : World) (bp : Nat) (M X : List Nat) (k0 m : Nat) (_ : Value) (wr : World) : Prop :=
  ∃ k li t M' f, PS toks ta tn tc w0 wr bp k li t M' X ∧ Chg M wb wr ∧ (∀ y ∈ M', y ∈ M ∨ wb.heap.size ≤ y) ∧ m = tn - k ∧ 2 * (tn - k) + 1 ≤ f ∧ runF toks tn f false k li t = R ∧ t.ands ≠ [] ∧ k0 < k

theorem Moves.on {toks : List Tok} {ta : Option Addr} {tn tc : Nat} {w0 wb w : World} {bp k : Nat} {li : List Lvl} {t : Lvl} {M M1 X : List Nat} {w' : World} (h : Moves toks ta tn tc w0 w bp k li t M1 X w') (hc : Chg M wb w) (hM : ∀ y ∈ M1, y ∈ M ∨ wb.heap.size ≤ y) : ∃ M', PS toks ta tn tc w0 w' bp k li t M' X ∧ Chg M wb w' ∧ ∀ y ∈ M', y ∈ M ∨ wb.heap.size ≤ y := by
  obtain ⟨M', h1, h2, h3⟩ := h
  refine ⟨M', h1, hc.trans h2 hM, fun y hy => ?_⟩
  rcases h3 y hy with h | h
  · exact hM y h
  · exact Or.inr (Nat.le_trans hc.size h)

theorem exprQ_mk {R : Part × Int × Nat} {ta : Option Addr} {tn tc : Nat} {w w2 W : World} {bp k : Nat} {M X : List Nat} {q : Part} {er : Int} {v : PartV} {vl : Value} (hcw : Chg M w w2) (hcW : Chg [w.heap.size] w2 W) (hb : PB w2 bp ta tn tc k vl) (hbp : bp < w.heap.size) (hR : R = (q, er, k)) (hv : PartR (mask W X) q v) :
    ExprQ R ta tn tc w bp M X (.returned (.tuple #[v.val, .int .i64 er])) W := by
  subst hR
  exact ⟨v, vl, rfl, hv, hcW.blk hb (by simp; omega), hcw.trans hcW (by simp)⟩

set_option maxRecDepth 100000 in
set_option maxHeartbeats 4000000 in
theorem expression_calls {toks : List Tok} {ta : Option Addr} {tn tc : Nat} {w0 w : World} {bp k : Nat} {li : List Lvl} {t : Lvl} {M X : List Nat} (h : PS toks ta tn tc w0 w bp k li t M X) (ho : HasOps w0) :
    Calls Tryz.prog 20 #[.pointer (some ⟨bp, 0, none⟩)] w (ExprQ (runF toks tn (2 * (tn - k) + 2) true k li t) ta tn tc w bp M X) := by
  obtain ⟨R, hR⟩ : ∃ R, R = runF toks tn (2 * (tn - k) + 2) true k li t := ⟨_, rfl⟩
  rw [← hR]
  have HS := Lib.hid h
  have HO := Lib.hid ho
  have HR := Lib.hid hR
  have HB := Lib.hid (show ∀ o, Ext w (w.alloc o) from fun o => (Ext.refl w).alloc o)
  clear h ho hR
  go_enter Tryz.func20, Tryz.ntmps20
  go_wp2_with fail
  have hBR := Lib.hid (alloc_new w (.cells #[.int .i64 0, .string ⟨#[]⟩, .slice none 0 0, .int .i64 0, .int .i64 0, .slice none 0 0, .int .i64 0, .int .i64 0] 56))
  have hEB := Lib.hid (HB.out (.cells #[.int .i64 0, .string ⟨#[]⟩, .slice none 0 0, .int .i64 0, .int .i64 0, .slice none 0 0, .int .i64 0, .int .i64 0] 56))
  have hML := Lib.hid HS.out.pot.2.2.2.2.1
  have hbw := HS.out.pot.2.2.2.2.2.2
  have hwb : (w.alloc (.cells #[.int .i64 0, .string ⟨#[]⟩, .slice none 0 0, .int .i64 0, .int .i64 0, .slice none 0 0, .int .i64 0, .int .i64 0] 56)).heap.size = w.heap.size + 1 := by simp
  have HWB := Lib.hid hwb
  clear hwb
  generalize w.alloc (.cells #[.int .i64 0, .string ⟨#[]⟩, .slice none 0 0, .int .i64 0, .int .i64 0, .slice none 0 0, .int .i64 0, .int .i64 0] 56) = wb at *
  go_loopg [3] (tn - k) (OuterI R toks ta tn tc w0 wb bp M (w.heap.size :: X))
  case atStart => exact ⟨k, li, t, M, _, HS.out.more hEB.out (by have := HWB.out; omega), Chg.refl _ _, fun y hy => Or.inl hy, rfl, Nat.le_refl _, HR.out.symm⟩
  case round =>
    clear HS HR HB
    obtain ⟨k1, l1, t1, M1, f1, hps, hc, hMM, hm, hf, hrun⟩ := hrel
    have HS := Lib.hid hps
    have HC := Lib.hid hc
    have HMM := Lib.hid hMM
    have HM := Lib.hid hm
    have HRUN := Lib.hid hrun
    have hkt := hps.pot.2.1
    clear hps hc hMM hm hrun
    go_wp2_with fail
    refine (prefix_calls HS.out HO.out).mono ?_
    rintro r w1 ⟨rfl, hmv⟩
    have hpg := prefixF_ge toks (tn - k1 + 1) k1 l1 t1
    obtain ⟨f, rfl⟩ : ∃ f, f1 = f + 1 := ⟨f1 - 1, by omega⟩
    have HRUN2 := Lib.hid (show (if (operandF toks (prefixF toks (tn - k1 + 1) k1 l1 t1).1).2.1 ≠ 0 then (⟨ex0, 0, 0⟩, (operandF toks (prefixF toks (tn - k1 + 1) k1 l1 t1).1).2.1, (operandF toks (prefixF toks (tn - k1 + 1) k1 l1 t1).1).2.2) else runF toks tn f false (operandF toks (prefixF toks (tn - k1 + 1) k1 l1 t1).1).2.2 (prefixF toks (tn - k1 + 1) k1 l1 t1).2.1 (withPart (prefixF toks (tn - k1 + 1) k1 l1 t1).2.2 (operandF toks (prefixF toks (tn - k1 + 1) k1 l1 t1).1).1)) = R from HRUN.out)
    clear HRUN
    generalize prefixF toks (tn - k1 + 1) k1 l1 t1 = A at *
    obtain ⟨k2, l2, t2⟩ := A
    obtain ⟨M2, hps2, hc2, hMM2⟩ := Moves.on (M1 := M1) (show Moves toks ta tn tc w0 _ bp k2 l2 t2 M1 (w.heap.size :: X) w1 from hmv) HC.out HMM.out
    have HS2 := Lib.hid hps2
    have HC2 := Lib.hid hc2
    have HMM2 := Lib.hid hMM2
    clear HS HC HMM hmv hps2 hc2 hMM2
    simp only at HRUN2 hpg
    go_wp2_with fail
    refine (operand_ps HS2.out HO.out).mono ?_
    rintro r w2 ⟨v, rfl, hpv, hps3, hc3⟩
    have hpt2 := HS2.out.pot
    have HC3 := Lib.hid (HC2.out.trans hc3 HMM2.out)
    have hB2 := HC3.out.blk hBR.out (fun h' => Nat.lt_irrefl _ (hML.out _ h'))
    have HOK := Lib.hid (operandF_ok toks k2)
    generalize operandF toks k2 = O at *
    obtain ⟨pp, er, k3⟩ := O
    simp only at hpv hps3 HRUN2
    have HV := Lib.hid hpv
    have HS3 := Lib.hid hps3
    obtain ⟨p0, p1, p2, p3, p4, p5, p6, p7, pf⟩ := blk8 hB2
    have hz2 := blk_lt hB2
    have HB2 := Lib.hid hB2
    clear hpv hps3 hc3 hB2 HS2 HC2
    by_cases her : er = 0
    · subst her
      obtain ⟨hsz, hdp, hkk⟩ := HOK.out rfl
      have HSZ := Lib.hid hsz
      have HDP := Lib.hid hdp
      have HR3 := Lib.hid (show runF toks tn f false k3 l2 (withPart t2 pp) = R by have := HRUN2.out; simpa using this)
      have HPT := Lib.hid hpt2
      clear HRUN2 hsz hdp hpt2 p0 p1 p2 p3 p4 p5 p6 p7 pf
      unfold PartV.val
      go_wp2_with fail
      refine (add_ps (HS3.out.ext ((Ext.refl w2).alloc _)) pp v (HV.out.mono (mask_ext _ ((Ext.refl w2).alloc _))) (by rw [HSZ.out, HDP.out]; exact Nat.le_refl _) (by have := HPT.out.1; rw [HSZ.out]; omega)).mono ?_
      rintro r w3 ⟨rfl, hmv⟩
      obtain ⟨M4, hps4, hc4, hMM4⟩ := hmv.on (HC3.out.alloc _) HMM2.out
      have HS4 := Lib.hid hps4
      have HC4 := Lib.hid hc4
      have HMM4 := Lib.hid hMM4
      clear hmv hps4 hc4 hMM4 HC3 HS3 HV HB2
      go_wp2_with fail
      go_loopg [3] (tn - k3) (InnerI R toks ta tn tc w0 wb bp M (w.heap.size :: X) k1)
      case atStart => exact ⟨k3, l2, withPart t2 pp, M4, f, HS4.out, HC4.out, HMM4.out, rfl, by omega, HR3.out, by simp [withPart], by omega⟩
      case round =>
        clear HS4 HC4 HMM4 HR3
        obtain ⟨k5, l5, t5, M5, f5, hps, hc, hMM, hm, hf5, hrun, hne5, hk15⟩ := hrel
        have HS := Lib.hid hps
        have HC := Lib.hid hc
        have HMM := Lib.hid hMM
        have HM5 := Lib.hid hm
        have hpt := hps.pot
        have HPT5 := Lib.hid hpt
        have hkt5 := hpt.2.1
        obtain ⟨f6, rfl⟩ : ∃ f6, f5 = f6 + 1 := ⟨f5 - 1, by omega⟩
        have HRUN := Lib.hid hrun
        have HNE := Lib.hid hne5
        clear hps hc hMM hm hpt hrun hne5
        go_wp2_with fail
        refine (another_ps HS.out HO.out HNE.out).mono ?_
        rintro r w4 ⟨rfl, hmv⟩
        cases h1 : acceptB toks k5 1 wAnd
        · cases h2 : acceptB toks k5 1 wOr
          · rw [h1, h2] at hmv
            simp only [Bool.or_self, Bool.false_eq_true, if_false] at hmv ⊢
            have HRUN6 := Lib.hid (show (match l5.getLast? with
                | none => (wholeF t5, 0, k5)
                | some t' => if acceptB toks k5 4 ⟨#[41]⟩ = true then runF toks tn f6 false (k5 + 1) l5.dropLast (withPart t' (wholeF t5)) else (⟨ex0, 0, 0⟩, 5, k5)) = R by
              have := HRUN.out
              rw [runF, if_neg (by simp [h1]), if_neg (by simp [h2])] at this
              exact this)
            obtain ⟨M6, hps6, hc6, hMM6⟩ := hmv.on HC.out HMM.out
            have HS6 := Lib.hid hps6
            have HC6 := Lib.hid hc6
            have HMM6 := Lib.hid hMM6
            clear hmv hps6 hc6 hMM6 h1 h2 HS HC HMM HRUN
            go_wp2_with fail
            refine (closed_ps HS6.out).mono ?_
            rintro r w7 ⟨v7, a7, cap7, M7, vl7, rfl, rfl, hpc7, hpv7, hc7, hM7, hbM7, hrest⟩
            have HC7 := Lib.hid (HC6.out.trans hc7 HMM6.out)
            have HP7 := Lib.hid hpc7
            have HV7 := Lib.hid hpv7
            have HMM7 := Lib.hid (fun y hy => HMM6.out y (hM7 y hy))
            have HREST := Lib.hid hrest
            have hb7 := HC7.out.blk hBR.out (fun h' => Nat.lt_irrefl _ (hML.out _ h'))
            obtain ⟨p0, p1, p2, p3, p4, p5, p6, p7, pf⟩ := blk8 hb7
            have hz7 := blk_lt hb7
            obtain ⟨c0, c1, c2, cf, hbw7⟩ := hpc7.cells
            clear hpc7 hpv7 hc7 hM7 hrest hb7 HS6 HC6 HMM6
            rcases hlast : l5.getLast? with _ | t6
            · have hl0 : l5 = [] := List.getLast?_eq_none_iff.1 hlast
              have HR7 := Lib.hid (show R = (wholeF t5, 0, k5) by rw [← HRUN6.out, hlast])
              have tl : ((l5.length : Int) == 0) = true := by simp [hl0]
              clear HRUN6 hlast hl0
              unfold PartV.val
              go_wp2_with fail
              refine bodyPost_ret (v := .tuple #[v7.val, .int .i64 0]) (by simp [results, Tryz.results20, go_sem, PartV.val, p0, p1, p2, p3, p4, p5, p6, p7, hz7]) rfl ?_
              refine exprQ_mk ((hEB.out.chg M).then HC7.out) ?_ HP7.out.hb hbw HR7.out ?_
              · refine Chg.alloc ?_ _
                repeat (with_reducible (refine Chg.setCell ?_ ?_ _))
                exact Chg.refl _ _
                all_goals (refine Or.inl ?_; simp)
              · refine HV7.out.mono (mask_sub_mask fun y hy hn => ⟨fun h => hn (by simp [h]), ?_⟩)
                refine Chg.block (N := [w.heap.size]) ?_ y hy (by simp; intro e; subst e; exact hn (by simp))
                refine Chg.alloc ?_ _
                repeat (with_reducible (refine Chg.setCell ?_ ?_ _))
                exact Chg.refl _ _
                all_goals (refine Or.inl ?_; simp)
            · have hl5 : l5 = l5.dropLast ++ [t6] := by
                obtain ⟨ys, rfl⟩ := List.getLast?_eq_some_iff.1 hlast
                simp
              have HL5 := Lib.hid hl5
              have hl0 : l5 ≠ [] := by intro e; simp [e] at hlast
              have tl : ((l5.length : Int) == 0) = false := by
                have : 0 < l5.length := List.length_pos_iff.2 hl0
                simp; omega
              have HRUN7 := Lib.hid (show (if acceptB toks k5 4 ⟨#[41]⟩ = true then runF toks tn f6 false (k5 + 1) l5.dropLast (withPart t6 (wholeF t5)) else (⟨ex0, 0, 0⟩, 5, k5)) = R by
                have := HRUN6.out
                rw [hlast] at this
                exact this)
              clear HRUN6 hlast hl5 hl0
              cases h3 : acceptB toks k5 4 ⟨#[41]⟩
              · have HR7 := Lib.hid (show R = (⟨ex0, 0, 0⟩, 5, k5) by rw [← HRUN7.out, if_neg (by simp [h3])])
                have H3 := Lib.hid h3
                clear h3 HRUN7
                unfold PartV.val
                go_wp2_with fail
                refine ((HP7.out.ext ((Ext.refl w7).alloc _)).acceptN H3.out).mono ?_
                rintro r w8 ⟨rfl, hc8, hp8⟩
                have HC8 := Lib.hid (HC7.out.trans (((Chg.refl [bp] w7).alloc _).then hc8) (by simpa using HMM7.out bp hbM7))
                have HP8 := Lib.hid hp8
                have hb8 := HC8.out.blk hBR.out (fun h' => Nat.lt_irrefl _ (hML.out _ h'))
                have hz8 := blk_lt hb8
                clear p0 p1 p2 p3 p4 p5 p6 p7 pf c0 c1 c2 cf
                obtain ⟨p0, p1, p2, p3, p4, p5, p6, p7, pf⟩ := blk8 hb8
                clear hc8 hp8 hb8
                go_wp2_with fail
                refine bodyPost_ret (v := .tuple #[(PartV.mk ⟨0, ⟨#[]⟩, none, 0, 0, 0, 0, none, 0, 0⟩ 0 0).val, .int .i64 5]) (by simp [results, Tryz.results20, go_sem, PartV.val, p0, p1, p2, p3, p4, p5, p6, p7]) rfl ?_
                refine exprQ_mk ((hEB.out.chg M).then HC8.out) ?_ HP8.out.hb hbw HR7.out ⟨rfl, rfl, isEx0 _⟩
                repeat (with_reducible (refine Chg.setCell ?_ ?_ _))
                exact Chg.refl _ _
                all_goals (refine Or.inl ?_; simp)
              · have HR7 := Lib.hid (show runF toks tn f6 false (k5 + 1) l5.dropLast (withPart t6 (wholeF t5)) = R by rw [← HRUN7.out, if_pos h3])
                have H3 := Lib.hid h3
                clear h3 HRUN7
                have HPS7 := Lib.hid (HREST.out l5.dropLast t6 HL5.out)
                unfold PartV.val
                go_wp2_with fail
                refine ((HPS7.out.ext ((Ext.refl w7).alloc _)).acceptY H3.out).mono ?_
                rintro r w8 ⟨rfl, hc8, hps8, hk8⟩
                have HC8 := Lib.hid (HC7.out.trans (((Chg.refl [bp] w7).alloc _).then hc8) (by simpa using HMM7.out bp hbM7))
                have hbx := hc8.blk (alloc_new w7 _) (by simp; omega)
                have HPS8 := Lib.hid hps8
                have HV8 : Hid (PartR (mask w8 ((w.heap.size :: X) ++ M7)) (wholeF t5) v7) := by
                  refine HV7.out.mono (mask_sub_mask fun y hy hn => ⟨hn, ?_⟩)
                  exact (((Chg.refl [bp] w7).alloc _).then hc8).block y hy (by simp; intro e; subst e; exact hn (List.mem_append_right _ hbM7))
                clear p0 p1 p2 p3 p4 p5 p6 p7 pf c0 c1 c2 cf
                obtain ⟨p0, p1, p2, p3, p4, p5, p6, p7, pf⟩ := blk8 hbx
                clear hc8 hps8 hbx
                go_wp2_with fail
                refine (add_ps HPS8.out (wholeF t5) v7 HV8.out (wholeF_tidy t5 HPT5.out.2.2.2.1) ?_).mono ?_
                · have h1 := HPT5.out.1
                  have h2 : potAll l5 = potAll (l5.dropLast ++ [t6]) := congrArg potAll HL5.out
                  have h3 := wholeF_size t5
                  have h4 : 0 < t5.ands.length := List.length_pos_iff.2 HNE.out
                  rw [potAll_snoc, h2] at h1
                  have h5 := sumPot_eq t5.ands
                  have h6 := sumPot_eq t5.ors
                  unfold Lvl.pot at h1
                  omega
                rintro r w9 ⟨rfl, hmv⟩
                obtain ⟨M9, hps9, hc9, hMM9⟩ := hmv.on HC8.out HMM7.out
                have HS9 := Lib.hid hps9
                have HC9 := Lib.hid hc9
                have HMM9 := Lib.hid hMM9
                clear hmv hps9 hc9 hMM9
                go_wp2_with fail
                go_roundg (tn - (k5 + 1))
                case measure => have := HM5.out; omega
                case rel => exact ⟨k5 + 1, l5.dropLast, _, M9, f6, HS9.out, HC9.out, HMM9.out, rfl, by omega, HR7.out, by simp [withPart], by omega⟩
          · have HR6 := Lib.hid (show runF toks tn f6 true (k5 + 1) l5 ⟨t5.nots, [], t5.ors ++ [joinedF 7 t5.ands]⟩ = R by have := HRUN.out; rw [runF, if_neg (by simp [h1]), if_pos h2] at this; exact this)
            rw [h1, h2] at hmv
            simp only [Bool.false_or, if_true, Bool.false_eq_true, if_false] at hmv ⊢
            obtain ⟨M6, hps6, hc6, hMM6⟩ := hmv.on HC.out HMM.out
            have HS6 := Lib.hid hps6
            have HC6 := Lib.hid hc6
            have HMM6 := Lib.hid hMM6
            have hk6 := hps6.pot.2.1
            clear hmv hps6 hc6 hMM6 h1 h2
            go_wp2_with fail
            go_roundg (tn - (k5 + 1))
            case measure => have := HM.out; omega
            case rel => exact ⟨k5 + 1, l5, _, M6, f6, HS6.out, HC6.out, HMM6.out, rfl, by omega, HR6.out⟩
        · have HR6 := Lib.hid (show runF toks tn f6 true (k5 + 1) l5 t5 = R by have := HRUN.out; rw [runF, if_pos h1] at this; exact this)
          rw [h1] at hmv
          simp only [Bool.true_or, if_true] at hmv ⊢
          obtain ⟨M6, hps6, hc6, hMM6⟩ := hmv.on HC.out HMM.out
          have HS6 := Lib.hid hps6
          have HC6 := Lib.hid hc6
          have HMM6 := Lib.hid hMM6
          have hk6 := hps6.pot.2.1
          clear hmv hps6 hc6 hMM6 h1
          go_wp2_with fail
          go_roundg (tn - (k5 + 1))
          case measure => have := HM.out; omega
          case rel => exact ⟨k5 + 1, l5, t5, M6, f6, HS6.out, HC6.out, HMM6.out, rfl, by omega, HR6.out⟩
    · have HR3 := Lib.hid (show R = (⟨ex0, 0, 0⟩, er, k3) by rw [← HRUN2.out, if_pos her])
      have t1 : (er == 0) = false := by simpa using her
      clear HRUN2 her hpt2
      unfold PartV.val
      go_wp2_with fail
      refine bodyPost_ret (v := .tuple #[(PartV.mk ⟨0, ⟨#[]⟩, none, 0, 0, 0, 0, none, 0, 0⟩ 0 0).val, .int .i64 er]) (by simp [results, Tryz.results20, go_sem, PartV.val, p0, p1, p2, p3, p4, p5, p6, p7, hz2]) rfl ?_
      obtain ⟨vl3, _, _, hI3, _⟩ := HS3.out
      refine exprQ_mk ((hEB.out.chg M).then HC3.out) ?_ hI3.pc.hb hbw HR3.out ⟨rfl, rfl, isEx0 _⟩
      refine Chg.alloc ?_ _
      repeat (with_reducible (refine Chg.setCell ?_ ?_ _))
      exact Chg.refl _ _
      all_goals (refine Or.inl ?_; simp)
end Go.Proofs.YtaepiiediblleaaGreatDoor

namespace Go.Proofs.YtaepiiediblleaaGreatDoor
open Go.RowKit

/-- What Tokens hands back: the expression, the next index, the index of an error, the error. -/
def tokensF (toks : List Tok) (i : Int) : Ex × Int × Int × Int :=
  if i < 0 ∨ (toks.length : Int) < i then (ex0, 0, 0, 1) else
  if (run toks true i.toNat [] lvl0).2.1 ≠ 0 then (ex0, 0, (run toks true i.toNat [] lvl0).2.2, (run toks true i.toNat [] lvl0).2.1) else
  if 300 < (run toks true i.toNat [] lvl0).1.size ∨ 16 < (run toks true i.toNat [] lvl0).1.depth then (ex0, 0, i, 4) else
  ((run toks true i.toNat [] lvl0).1.ex, (run toks true i.toNat [] lvl0).2.2, 0, 0)
def TokensQ (R : Ex × Int × Int × Int) (M : List Nat) (w : World) (e : Ending) (w' : World) : Prop :=
  ∃ x : ExV, e = .returned (.tuple #[x.val, .int .i64 R.2.1, .int .i64 R.2.2.1, .int .i64 R.2.2.2]) ∧ IsEx (mask w' M) R.1 x.val ∧ Ext w w'

def exV0 : ExV := ⟨0, ⟨#[]⟩, none, 0, 0, 0, 0, none, 0, 0⟩
theorem tokensQ_err {R : Ex × Int × Int × Int} {M : List Nat} {a b c : Int} {w w' : World} (h : R = (ex0, a, b, c)) (hx : Ext w w') : TokensQ R M w (.returned (.tuple #[exV0.val, .int .i64 a, .int .i64 b, .int .i64 c])) w' := by
  subst h; exact ⟨exV0, rfl, isEx0 _, hx⟩

theorem Chg.sub {N : List Nat} {w w' : World} (h : Chg N w w') : Sub (mask w N) (mask w' N) := mask_sub_mask fun k hk hn => ⟨hn, h.block k hk hn⟩
theorem mask_less {M N : List Nat} (w : World) (h : ∀ y ∈ M, y ∈ N) : Sub (mask w N) (mask w M) := mask_sub_mask fun k _ hn => ⟨fun h' => hn (h k h'), rfl⟩
/-- The parser, as Tokens makes it. -/
theorem start_ps {toks : List Tok} {ta : Option Addr} {tn tc k : Nat} {w : World} {c0 : Array Value} {t0 : TypeId} (ht : IsToks w toks ta tn tc) (htn : tn ≤ 1000000) (hk : k ≤ tn) (hsz : ∀ t ∈ toks, t.text.size ≤ 1000000000000000) (M : List Nat) (hM : ∀ y ∈ M, y < w.heap.size) :
    PS toks ta tn tc w (((w.alloc (.cells c0 t0)).alloc (.cells #[.int .i64 0, .slice none 0 0, .slice none 0 0] 51)).alloc (.cells #[.slice ta tn tc, .int .i64 k, .slice (some ⟨w.heap.size + 1, 0, none⟩) 1 1] 54)) (w.heap.size + 2) k [] lvl0
      [w.heap.size + 2, w.heap.size + 1] (w.heap.size :: M) := by
  have hx : Ext w (((w.alloc (.cells c0 t0)).alloc (.cells #[.int .i64 0, .slice none 0 0, .slice none 0 0] 51)).alloc (.cells #[.slice ta tn tc, .int .i64 k, .slice (some ⟨w.heap.size + 1, 0, none⟩) 1 1] 54)) := (((Ext.refl w).alloc _).alloc _).alloc _
  have hp := alloc_new ((w.alloc (.cells c0 t0)).alloc (.cells #[.int .i64 0, .slice none 0 0, .slice none 0 0] 51)) (.cells #[.slice ta tn tc, .int .i64 k, .slice (some ⟨w.heap.size + 1, 0, none⟩) 1 1] 54)
  have hl := blk_alloc (o' := .cells #[.slice ta tn tc, .int .i64 k, .slice (some ⟨w.heap.size + 1, 0, none⟩) 1 1] 54) (alloc_new (w.alloc (.cells c0 t0)) (.cells #[.int .i64 0, .slice none 0 0, .slice none 0 0] 51))
  have hs : (((w.alloc (.cells c0 t0)).alloc (.cells #[.int .i64 0, .slice none 0 0, .slice none 0 0] 51)).alloc (.cells #[.slice ta tn tc, .int .i64 k, .slice (some ⟨w.heap.size + 1, 0, none⟩) 1 1] 54)).heap.size = w.heap.size + 3 := by simp
  have e1 : (w.alloc (.cells c0 t0)).heap.size = w.heap.size + 1 := by simp
  have e2 : ((w.alloc (.cells c0 t0)).alloc (.cells #[.int .i64 0, .slice none 0 0, .slice none 0 0] 51)).heap.size = w.heap.size + 2 := by simp
  rw [e2] at hp
  rw [e1] at hl
  generalize (((w.alloc (.cells c0 t0)).alloc (.cells #[.int .i64 0, .slice none 0 0, .slice none 0 0] 51)).alloc (.cells #[.slice ta tn tc, .int .i64 k, .slice (some ⟨w.heap.size + 1, 0, none⟩) 1 1] 54)) = W at *
  have nilOwn : OwnParts W w.heap.size ((w.heap.size :: M) ++ [w.heap.size + 2, w.heap.size + 1]) [] (.slice none 0 0) := ⟨[], World.ownsRow_nil _ _ _ _, rfl, fun i h => by simp at h⟩
  refine ⟨.slice (some ⟨w.heap.size + 1, 0, none⟩) 1 1, [], lvlV0, ⟨⟨ht, hx, hp, by omega, hk, by omega, hsz⟩, ?_, rfl, ?_, ?_, ?_, ?_, ?_, ?_, ?_, ?_, htn⟩, rfl⟩
  · exact ⟨rfl, Or.inr ⟨w.heap.size + 1, 1, #[.int .i64 0, .slice none 0 0, .slice none 0 0], rfl, by omega, hl, by simp, by unfold maxLen; omega, rfl, rfl⟩⟩
  · intro i h1 h2
    obtain rfl : i = 0 := by simp at h1; exact h1
    exact ⟨rfl, nilOwn, nilOwn⟩
  · rfl
  · simp
  · intro x hx; exact List.mem_append_right _ hx
  · intro x hx
    rw [hs]
    rcases List.mem_append.1 hx with hx | hx
    · rcases List.mem_cons.1 hx with rfl | hx
      · omega
      · have := hM x hx; omega
    · simp at hx; omega
  · simp [potAll, Lvl.pot, lvl0, sumPot]
  · simp
  · intro l hl; simp at hl; subst hl; exact ⟨fun p hp => by simp [lvl0] at hp, fun p hp => by simp [lvl0] at hp⟩

set_option maxRecDepth 100000 in
set_option maxHeartbeats 2000000 in
theorem Tokens_calls (toks : List Tok) (ta : Option Addr) (tn tc : Nat) (i : Int) (w : World) (ht : IsToks w toks ta tn tc) (ho : HasOps w) (htn : tn ≤ 1000000) (hsz : ∀ t ∈ toks, t.text.size ≤ 1000000000000000) (M : List Nat) (hM : ∀ y ∈ M, y < w.heap.size) :
    Calls Tryz.prog 7 #[.slice ta tn tc, .int .i64 i] w (TokensQ (tokensF toks i) M w) := by
  have HT := Lib.hid ht
  have HO := Lib.hid ho
  have HZ := Lib.hid hsz
  have HN := Lib.hid ht.1
  have HMM := Lib.hid hM
  clear ht ho hsz hM
  by_cases h1 : i < 0
  · have HR := Lib.hid (show tokensF toks i = (ex0, 0, 0, 1) by rw [tokensF, if_pos (Or.inl h1)])
    generalize tokensF toks i = R at *
    have t1 : decide (i < 0) = true := by simpa using h1
    go_enter Tryz.func7, Tryz.ntmps7
    go_wp2_with fail
    refine bodyPost_ret (v := .tuple #[exV0.val, .int .i64 0, .int .i64 0, .int .i64 1]) (by simp [results, Tryz.results7, go_sem, exV0, ExV.val, exV]) rfl ?_
    exact tokensQ_err HR.out ((Ext.refl w).alloc _)
  by_cases h2 : (tn : Int) < i
  · have HR := Lib.hid (show tokensF toks i = (ex0, 0, 0, 1) by rw [tokensF, if_pos (Or.inr (by rw [← HN.out]; exact h2))])
    generalize tokensF toks i = R at *
    have t1 : decide (i < 0) = false := by simpa using h1
    have t2 : decide ((tn : Int) < i) = true := by simpa using h2
    go_enter Tryz.func7, Tryz.ntmps7
    go_wp2_with fail
    refine bodyPost_ret (v := .tuple #[exV0.val, .int .i64 0, .int .i64 0, .int .i64 1]) (by simp [results, Tryz.results7, go_sem, exV0, ExV.val, exV]) rfl ?_
    exact tokensQ_err HR.out ((Ext.refl w).alloc _)
  obtain ⟨k, rfl⟩ : ∃ k : Nat, i = (k : Int) := ⟨i.toNat, by omega⟩
  have hk : k ≤ tn := by omega
  have HR := Lib.hid (show tokensF toks k = if (run toks true k [] lvl0).2.1 ≠ 0 then (ex0, 0, ((run toks true k [] lvl0).2.2 : Int), (run toks true k [] lvl0).2.1) else
      if 300 < (run toks true k [] lvl0).1.size ∨ 16 < (run toks true k [] lvl0).1.depth then (ex0, 0, (k : Int), 4) else
      ((run toks true k [] lvl0).1.ex, ((run toks true k [] lvl0).2.2 : Int), 0, 0) by
    rw [tokensF, if_neg (by rw [← HN.out]; omega), Int.toNat_natCast])
  generalize tokensF toks k = R at *
  have t1 : decide ((k : Int) < 0) = false := by simp
  have t2 : decide ((tn : Int) < (k : Int)) = false := by simp; omega
  have t3 : decide (tn < k) = false := by simp; omega
  clear h1 h2
  have HP := Lib.hid (fun (c0 : Array Value) (t0 : TypeId) => start_ps (c0 := c0) (t0 := t0) HT.out htn hk HZ.out M HMM.out)
  have HE := Lib.hid (show ∀ a b c, Ext w (((w.alloc a).alloc b).alloc c) from fun a b c => (((Ext.refl w).alloc _).alloc _).alloc _)
  have HRU := Lib.hid (show runF toks tn (2 * (tn - k) + 2) true k [] lvl0 = run toks true k [] lvl0 by rw [HN.out]; rfl)
  go_enter Tryz.func7, Tryz.ntmps7
  go_wp2_with fail
  refine (expression_calls (HP.out _ _) HO.out).mono ?_
  rw [HRU.out]
  generalize run toks true k [] lvl0 = RR at *
  obtain ⟨q, er, k1⟩ := RR
  rintro r w1 ⟨v, vl, rfl, hv, hpb, hc⟩
  have hb0 := hc.blk (blk_alloc (o' := .cells #[.slice ta tn tc, .int .i64 k, .slice (some ⟨w.heap.size + 1, 0, none⟩) 1 1] 54) (blk_alloc (o' := .cells #[.int .i64 0, .slice none 0 0, .slice none 0 0] 51) (alloc_new w (.cells #[.int .i64 0, .string ⟨#[]⟩, .slice none 0 0, .int .i64 0, .int .i64 0, .slice none 0 0] 28)))) (by simp)
  have HX1 := Lib.hid (hc.ext (HE.out _ _ _) (by simp))
  have HV := Lib.hid hv
  unfold PB at hpb
  have hltp := blk_lt hpb
  have hlt0 := blk_lt hb0
  obtain ⟨c0, c1, c2, cf⟩ := blk3 hpb
  obtain ⟨b0, b1, b2, b3, b4, b5, bf⟩ := blk6 hb0
  clear hc hv hpb hb0
  simp only at HR HV c1
  by_cases her : er = 0
  · subst her
    simp only [ne_eq, not_true_eq_false, if_false] at HR
    unfold PartV.val
    go_wp2_with fail
    refine (beyond_calls _ _ _ _ _ _ _ _ _).mono ?_
    rintro r w2 ⟨rfl, hx2⟩
    have hC2 := Lib.hid (show Chg (w.heap.size :: M) w1 w2 from ((Chg.refl _ w1).alloc _).then (hx2.chg _))
    have hp2 := hx2.blk (alloc_new w1 (.cells #[.int .i64 v.x.op, .string v.x.name, .slice v.x.aw v.x.nw v.x.cw, .int .i64 v.x.lo, .int .i64 v.x.hi, .slice v.x.aa v.x.na v.x.ca, .int .i64 v.size, .int .i64 v.depth] 56))
    have hE2 : Ext w1 w2 := ((Ext.refl w1).alloc _).trans hx2
    have hz2 := hE2.size
    have hq2 := blk_lt hp2
    obtain ⟨p0, p1, p2, p3, p4, p5, p6, p7, pf⟩ := blk8 hp2
    replace b0 := hE2.cell b0
    replace b1 := hE2.cell b1
    replace b2 := hE2.cell b2
    replace b3 := hE2.cell b3
    replace b4 := hE2.cell b4
    replace b5 := hE2.cell b5
    replace c1 := hE2.cell c1
    have bf2 : ∀ j, w2.frozen? ⟨w.heap.size, j, none⟩ = false := fun j => by rw [World.frozen?_of_block (hE2.block _ hlt0)]; exact bf j
    have HX2 := Lib.hid (HX1.out.trans hE2)
    have hlt2 : w.heap.size < w2.heap.size := by omega
    clear hx2 hp2 hE2 bf cf c0 c2 HX1
    by_cases hbig : 300 < q.size ∨ 16 < q.depth
    · have HR1 := Lib.hid (show R = (ex0, 0, (k : Int), 4) by rw [HR.out, if_pos hbig])
      have tb : (decide (300 < (v.size : Int)) || decide (16 < (v.depth : Int))) = true := by have h1 := HV.out.1; have h2 := HV.out.2.1; rw [h1, h2]; simp; omega
      rw [tb]
      clear HR hbig tb
      go_wp2_with fail
      refine bodyPost_ret (v := .tuple #[exV0.val, .int .i64 0, .int .i64 k, .int .i64 4]) (by simp [results, Tryz.results7, go_sem, exV0, ExV.val, exV, b0, b1, b2, b3, b4, b5]) rfl ?_
      refine tokensQ_err HR1.out ?_
      repeat (with_reducible (refine Ext.setAbove ?_ ?_ _))
      exact HX2.out
      all_goals simp
    · have HR1 := Lib.hid (show R = (q.ex, (k1 : Int), 0, 0) by rw [HR.out, if_neg hbig])
      have tb : (decide (300 < (v.size : Int)) || decide (16 < (v.depth : Int))) = false := by have h1 := HV.out.1; have h2 := HV.out.2.1; rw [h1, h2]; simp; omega
      rw [tb]
      clear HR hbig tb
      go_wp2_with fail
      go_region
      all_goals
        go_wp2_with fail
        refine bodyPost_ret (v := .tuple #[v.x.val, .int .i64 k1, .int .i64 0, .int .i64 0]) (by simp [results, Tryz.results7, go_sem, ExV.val, exV, b0, b1, b2, b3, b4, b5]) rfl ?_
        rw [HR1.out]
        refine ⟨v.x, rfl, HV.out.2.2.mono ((Chg.sub ?_).trans (mask_less _ (fun y hy => List.mem_cons_of_mem _ hy))), ?_⟩
        · refine Chg.then hC2.out ?_
          repeat (with_reducible (first | refine Chg.setCell ?_ ?_ _ | refine Chg.drew ?_ | refine Chg.drewN ?_ _))
          exact Chg.refl _ _
          all_goals (refine Or.inl ?_; simp)
        · repeat (with_reducible (first | refine Ext.setAbove ?_ ?_ _ | refine Ext.drew ?_ | refine Ext.drewN ?_ _))
          exact HX2.out
          all_goals simp
  · have HR1 := Lib.hid (show R = (ex0, 0, (k1 : Int), er) by rw [HR.out, if_pos her])
    have te : (er == 0) = false := by simpa using her
    have te2 : (er != 0) = true := by simpa using her
    clear HR her
    unfold PartV.val
    go_wp2_with fail
    go_region
    all_goals
      go_wp2_with fail
      refine bodyPost_ret (v := .tuple #[exV0.val, .int .i64 0, .int .i64 k1, .int .i64 er]) (by simp [results, Tryz.results7, go_sem, exV0, ExV.val, exV, b0, b1, b2, b3, b4, b5, hlt0]) rfl ?_
      refine tokensQ_err HR1.out ?_
      repeat (with_reducible (first | refine Ext.setAbove ?_ ?_ _ | refine Ext.drew ?_ | refine Ext.drewN ?_ _ | refine Ext.alloc ?_ _))
      exact HX1.out
      all_goals simp
end Go.Proofs.YtaepiiediblleaaGreatDoor

namespace Go.Proofs.YtaepiiediblleaaGreatDoor
open Go.RowKit

/-- What the scanner makes of a text. -/
def scanAll (s : ByteArray) : List Tok × Int × Int := if 16384 < s.size then ([], 0, 4) else scanF s s.size 0 []
def ParseQ (e : Ex) (er : Int) (M : List Nat) (w : World) (r : Ending) (w' : World) : Prop := ∃ (x : ExV) (off : Int), r = .returned (.tuple #[x.val, .int .i64 off, .int .i64 er]) ∧ IsEx (mask w' M) e x.val ∧ (er = 0 → off = 0) ∧ Ext w w'

set_option maxRecDepth 100000 in
set_option maxHeartbeats 2000000 in
theorem Parse_ok (s : ByteArray) (toks : List Tok) (e : Ex) (w : World) (ho : HasOps w) (hs : s.size ≤ 1000000000000000) (h64 : ∀ i, i < s.size → byteAt s i ≠ 64) (hS : scanAll s = (toks, 0, 0)) (htn : toks.length ≤ 1000000) (hsz : ∀ t ∈ toks, t.text.size ≤ 1000000000000000)
    (hT : tokensF toks 0 = (e, (toks.length : Int), 0, 0)) (M : List Nat) (hM : ∀ y ∈ M, y < w.heap.size) : Calls Tryz.prog 18 #[.string s] w (ParseQ e 0 M w) := by
  have HO := Lib.hid ho
  have HSC := Lib.hid (scan_calls s)
  have HS := Lib.hid hS
  have HT := Lib.hid hT
  have HZ := Lib.hid hsz
  have H64 := Lib.hid h64
  have HMM := Lib.hid hM
  clear ho hS hT hsz h64 hM HSC
  go_enter Tryz.func18, Tryz.ntmps18
  go_wp2_with fail
  refine (scan_calls s _ hs H64.out).mono ?_
  rw [show (if 16384 < s.size then (([], 0, 4) : List Tok × Int × Int) else scanF s s.size 0 []) = (toks, 0, 0) from HS.out]
  rintro r w1 ⟨a, n, c, rfl, hl, hx⟩
  have hb := hx.blk (alloc_new w (.cells #[.int .i64 0, .string ⟨#[]⟩, .slice none 0 0, .int .i64 0, .int .i64 0, .slice none 0 0] 28))
  have HX1 := Lib.hid (((Ext.refl w).alloc _).trans hx)
  have HL := Lib.hid hl
  have HN := Lib.hid hl.1
  have HB := Lib.hid hb
  have hn1 : n ≤ 1000000 := by have := hl.1; simp only at this; omega
  have HM1 := Lib.hid (show ∀ y ∈ w.heap.size :: M, y < w1.heap.size from fun y hy => by
    have h1 := blk_lt hb
    rcases List.mem_cons.1 hy with rfl | hy
    · exact h1
    · have := HMM.out y hy; omega)
  clear hx hl hb
  simp only at HL HN
  go_wp2_with fail
  refine (Tokens_calls toks a n c 0 w1 HL.out (HO.out.ext HX1.out) hn1 HZ.out (w.heap.size :: M) HM1.out).mono ?_
  rw [HT.out]
  rintro r w2 ⟨x, rfl, hix, hx2⟩
  have hb := hx2.blk HB.out
  have hlt := blk_lt hb
  obtain ⟨b0, b1, b2, b3, b4, b5, bf⟩ := blk6 hb
  have HX2 := Lib.hid (HX1.out.trans hx2)
  have HIX := Lib.hid hix
  have tn : decide ((toks.length : Int) < (n : Int)) = false := by have := HN.out; simp; omega
  have tn2 : decide (toks.length < n) = false := by have := HN.out; simp; omega
  clear hix hx2 hb HX1 HB
  unfold ExV.val exV
  simp only
  go_wp2_with fail
  refine bodyPost_ret (v := .tuple #[x.val, .int .i64 0, .int .i64 0]) (by simp [results, Tryz.results18, go_sem, ExV.val, exV, b0, b1, b2, b3, b4, b5, hlt]) rfl ?_
  refine ⟨x, 0, rfl, HIX.out.mono ((Chg.sub ?_).trans (mask_less _ (fun y hy => List.mem_cons_of_mem _ hy))), fun _ => rfl, ?_⟩
  · repeat (with_reducible (first | refine Chg.alloc ?_ _ | refine Chg.setCell ?_ ?_ _ | refine Chg.drew ?_ | refine Chg.drewN ?_ _))
    exact Chg.refl _ _
    all_goals (refine Or.inl ?_; simp)
  · repeat (with_reducible (first | refine Ext.alloc ?_ _ | refine Ext.setAbove ?_ ?_ _ | refine Ext.drew ?_ | refine Ext.drewN ?_ _))
    exact HX2.out
    all_goals simp
end Go.Proofs.YtaepiiediblleaaGreatDoor

namespace Go.Proofs.YtaepiiediblleaaGreatDoor

/-- A piece of a text: a blank, or a token. -/
inductive Pc where
  | sp
  | tk (t : Tok)
def tokB (t : Tok) : List UInt8 := if t.kind = 2 then decB t.num else t.text.data.toList
def Pc.bytes : Pc → List UInt8
  | .sp => [32]
  | .tk t => tokB t
def pcsB (l : List Pc) : List UInt8 := l.flatMap Pc.bytes
def toksOf : List Pc → List Tok
  | [] => []
  | .sp :: r => toksOf r
  | .tk t :: r => t :: toksOf r
theorem pcsB_append (a b : List Pc) : pcsB (a ++ b) = pcsB a ++ pcsB b := by simp [pcsB]
theorem toksOf_append : (a b : List Pc) → toksOf (a ++ b) = toksOf a ++ toksOf b
  | [], b => rfl
  | .sp :: r, b => by simp [toksOf, toksOf_append r b]
  | .tk t :: r, b => by simp [toksOf, toksOf_append r b]
/-- A token that can be written. -/
def goodT (t : Tok) : Prop := t.pos = 0 ∧ ((t.kind = 1 ∧ wordB t.text = true ∧ t.num = 0) ∨ (t.kind = 2 ∧ t.text = ⟨#[]⟩ ∧ -17592186044416 ≤ t.num ∧ t.num ≤ 17592186044416) ∨ (t.kind = 4 ∧ t.num = 0 ∧ ∃ c : UInt8, t.text = ⟨#[c]⟩ ∧ markB (c.toNat : Int) = true))
/-- Between two tokens of which none is a mark there is a blank. -/
def sepA : Bool → List Pc → Bool
  | _, [] => true
  | _, .sp :: r => sepA false r
  | p, .tk t :: r => (!p || t.kind == 4) && sepA (t.kind != 4) r
def endA : Bool → List Pc → Bool
  | p, [] => p
  | _, .sp :: r => endA false r
  | _, .tk t :: r => endA (t.kind != 4) r
theorem sepA_append : (a b : List Pc) → (p : Bool) → sepA p (a ++ b) = (sepA p a && sepA (endA p a) b)
  | [], b, p => by simp [sepA, endA]
  | .sp :: r, b, p => by simp [sepA, endA, sepA_append r b]
  | .tk t :: r, b, p => by simp [sepA, endA, sepA_append r b, Bool.and_assoc]
theorem sepA_false {l : List Pc} {p : Bool} (h : sepA p l = true) : sepA false l = true := by
  cases l with
  | nil => rfl
  | cons x r =>
    cases x with
    | sp => simpa [sepA] using h
    | tk t => simp only [sepA, Bool.and_eq_true] at h ⊢; exact ⟨by simp, h.2⟩
theorem goodT_ne {t : Tok} (h : goodT t) : ∃ c r, tokB t = c :: r ∧ (c.toNat : Int) ≠ 32 ∧ (c.toNat : Int) ≠ 10 ∧ (c.toNat : Int) ≠ 35 ∧ (t.kind = 4 → inWordB (c.toNat : Int) = false) := by
  obtain ⟨_, ⟨h1, h2, _⟩ | ⟨h1, h2, h3, h4⟩ | ⟨h1, _, c, h2, h3⟩⟩ := h
  · have hw := h2
    simp only [wordB, Bool.and_eq_true, bne_iff_ne] at hw
    obtain ⟨⟨⟨⟨h0, _⟩, h5⟩, _⟩, _⟩ := hw
    have h0' : 0 < t.text.size := by omega
    rw [byteAt_lt h0'] at h5
    have e : tokB t = t.text.data.toList := by rw [tokB, if_neg (by omega)]
    cases hb : t.text.data.toList with
    | nil =>
      have : t.text.data.toList.length = 0 := by rw [hb]; rfl
      rw [Array.length_toList] at this
      have e2 : t.text.data.size = t.text.size := rfl
      omega
    | cons c r =>
      have hc : t.text[0] = c := by
        rw [ByteArray.getElem_eq_getElem_data, ← Array.getElem_toList]
        simp only [hb, List.getElem_cons_zero]
      rw [hc] at h5
      simp [letterB] at h5
      exact ⟨c, r, by rw [e, hb], by omega, by omega, by omega, fun h => by omega⟩
  · have e : tokB t = decB t.num := by rw [tokB, if_pos h1]
    rw [e, decB]
    split
    · exact ⟨45, _, rfl, by decide, by decide, by decide, fun h => by omega⟩
    · cases hb : digs 20 t.num.natAbs with
      | nil => exact absurd hb (digs_ne 19 _)
      | cons c r =>
        have := digs_all 20 t.num.natAbs c (by rw [hb]; simp)
        unfold isDig at this
        exact ⟨c, r, rfl, by omega, by omega, by omega, fun h => by omega⟩
  · have e : tokB t = [c] := by rw [tokB, if_neg (by omega), h2]
    have hc : c.toNat = 59 ∨ c.toNat = 58 ∨ c.toNat = 44 ∨ c.toNat = 40 ∨ c.toNat = 41 := by simp [markB] at h3; omega
    exact ⟨c, [], e, by omega, by omega, by omega, fun _ => by simp [inWordB, letterB, digitB]; omega⟩
theorem tokenF_good {s : ByteArray} {t : Tok} {i : Nat} (h : goodT t) (ha : AtB s i (tokB t)) (hi : i ≤ s.size) (hn : t.kind ≠ 4 → inWordB (byteAt s (i + (tokB t).length)) = false) : tokenF s i = (⟨t.kind, t.text, t.num, i⟩, ((i + (tokB t).length : Nat) : Int), 0) := by
  obtain ⟨_, ⟨h1, h2, h3⟩ | ⟨h1, h2, h3, h4⟩ | ⟨h1, h4, c, h2, h3⟩⟩ := h
  · have e : tokB t = t.text.data.toList := by rw [tokB, if_neg (by omega)]
    rw [e] at ha hn ⊢
    rw [tokenF_word h2 ha hi (hn (by omega)), h1, h3]
  · have e : tokB t = decB t.num := by rw [tokB, if_pos h1]
    rw [e] at ha hn ⊢
    rw [tokenF_number h3 h4 ha hi (hn (by omega)), h1, h2]
  · have e : tokB t = [c] := by rw [tokB, if_neg (by omega), h2]
    rw [e] at ha ⊢
    rw [tokenF_mark h3 ha hi, h1, h2, h4]; rfl
/-- A token without its place. -/
def zp (t : Tok) : Tok := ⟨t.kind, t.text, t.num, 0⟩
/-- A text of pieces is divided into their tokens. -/
theorem scan_pcs {s : ByteArray} : (l : List Pc) → (i : Nat) → (acc : List Tok) → (f : Nat) → i ≤ s.size → AtB s i (pcsB l) → i + (pcsB l).length = s.size → sepA false l = true → (∀ t ∈ toksOf l, goodT t) → acc.length + (toksOf l).length ≤ 4000 → s.size - i ≤ f →
    ∃ ts, scanF s f i acc = (acc ++ ts, 0, 0) ∧ ts.map zp = toksOf l
  | [], i, acc, f, hi, _, hl, _, _, _, hf => by
    refine ⟨[], ?_, rfl⟩
    simp [pcsB] at hl
    cases f with
    | zero => simp [scanF]
    | succ f => rw [scanF, if_pos (by omega)]; simp
  | .sp :: r, i, acc, f, hi, ha, hl, hs, hg, hn, hf => by
    have e : pcsB (.sp :: r) = 32 :: pcsB r := rfl
    rw [e] at ha hl
    have hb := ha.byte
    obtain ⟨h1, _⟩ := ha.1
    obtain ⟨g, rfl⟩ : ∃ g, f = g + 1 := ⟨f - 1, by omega⟩
    obtain ⟨ts, h2, h3⟩ := scan_pcs r (i + 1) acc g h1 ha.2 (by simp at hl; omega) (by simpa [sepA] using hs) hg hn (by omega)
    refine ⟨ts, ?_, h3⟩
    rw [scanF, if_neg (by omega), if_pos (by rw [hb]; rfl), h2]
  | .tk t :: r, i, acc, f, hi, ha, hl, hs, hg, hn, hf => by
    have e : pcsB (.tk t :: r) = tokB t ++ pcsB r := rfl
    rw [e] at ha hl
    rw [AtB.append] at ha
    have hgt := hg t (by simp [toksOf])
    obtain ⟨c, q, hc, c1, c2, c3, _⟩ := goodT_ne hgt
    have hb : byteAt s i = (c.toNat : Int) := by have := ha.1; rw [hc] at this; exact this.byte
    have h1 : i < s.size := by have := ha.1; rw [hc] at this; exact this.1.1
    obtain ⟨g, rfl⟩ : ∃ g, f = g + 1 := ⟨f - 1, by omega⟩
    have hle := AtB.le _ i hi ha.1
    have hsr : sepA (t.kind != 4) r = true := by simp only [sepA, Bool.and_eq_true] at hs; exact hs.2
    have hnext : t.kind ≠ 4 → inWordB (byteAt s (i + (tokB t).length)) = false := by
      intro hk
      have hp : (t.kind != 4) = true := by simpa using hk
      rw [hp] at hsr
      cases r with
      | nil =>
        have : ¬ i + (tokB t).length < s.size := by simp [pcsB] at hl; omega
        rw [byteAt, dif_neg this]; decide
      | cons x r' =>
        cases x with
        | sp => have h2 : AtB s (i + (tokB t).length) (32 :: pcsB r') := ha.2; rw [h2.byte]; decide
        | tk u =>
          have h2 : AtB s (i + (tokB t).length) (tokB u ++ pcsB r') := ha.2
          rw [AtB.append] at h2
          simp only [sepA, Bool.and_eq_true, Bool.not_true, Bool.false_or, beq_iff_eq] at hsr
          obtain ⟨c', q', hc', _, _, _, h4⟩ := goodT_ne (hg u (by simp [toksOf]))
          have h3 := h2.1
          rw [hc'] at h3
          rw [h3.byte]; exact h4 hsr.1
    have htok := tokenF_good hgt ha.1 hi hnext
    obtain ⟨ts, h2, h3⟩ := scan_pcs r (i + (tokB t).length) (acc ++ [⟨t.kind, t.text, t.num, i⟩]) g hle ha.2 (by rw [List.length_append] at hl; omega) (sepA_false hsr) (fun u hu => hg u (by simp [toksOf, hu])) (by simp [toksOf] at hn ⊢; omega) (by rw [hc]; simp; omega)
    refine ⟨⟨t.kind, t.text, t.num, i⟩ :: ts, ?_, ?_⟩
    · rw [scanF_tok h1 (by rw [hb]; simpa using c1) (by rw [hb]; simpa using c2) (by rw [hb]; simpa using c3), htok, tokStep_go (by simp [toksOf] at hn; omega), h2]
      · simp
      · by_cases hk2 : t.kind = 2
        · refine Or.inr ?_
          have h5 := hnext (by omega)
          by_cases hlt : i + (tokB t).length < s.size
          · refine Or.inr ⟨hlt, ?_⟩
            rw [byteAt_lt hlt] at h5
            simp only [inWordB, Bool.or_eq_false_iff] at h5
            exact ⟨h5.1.1, h5.2⟩
          · exact Or.inl hlt
        · exact Or.inl (by simpa using hk2)
    · have hp := hgt.1
      simp only [List.map_cons, toksOf, h3, zp]
      cases t; simp at hp; subst hp; rfl
theorem pcs_no64 : (l : List Pc) → (∀ t ∈ toksOf l, goodT t) → ∀ c ∈ pcsB l, (c.toNat : Int) ≠ 64
  | [], _, c, h => by simp [pcsB] at h
  | .sp :: r, hg, c, h => by
    have e : pcsB (.sp :: r) = 32 :: pcsB r := rfl
    rw [e] at h
    rcases List.mem_cons.1 h with rfl | h
    · decide
    · exact pcs_no64 r hg c h
  | .tk t :: r, hg, c, h => by
    have e : pcsB (.tk t :: r) = tokB t ++ pcsB r := rfl
    rw [e] at h
    rcases List.mem_append.1 h with h | h
    · obtain ⟨_, ⟨h1, h2, h3⟩ | ⟨h1, h2, h3, h4⟩ | ⟨h1, h4, d, h2, h3⟩⟩ := hg t (by simp [toksOf])
      · rw [tokB, if_neg (by omega)] at h
        simp only [wordB, Bool.and_eq_true, beq_iff_eq] at h2
        obtain ⟨j, hj, rfl⟩ := List.getElem_of_mem h
        have hj' : j < t.text.size := by simpa using hj
        have := spanF_all inWordB t.text t.text.size 0 j hj' (by omega) (by rw [h2.2]; exact hj')
        simp only [ByteArray.getElem_eq_getElem_data] at this
        simp only [Array.getElem_toList]
        intro h64
        rw [h64] at this
        revert this; decide
      · rw [tokB, if_pos h1, decB] at h
        have key : ∀ x ∈ digs 20 t.num.natAbs, (x.toNat : Int) ≠ 64 := fun x hx => by have := digs_all _ _ x hx; unfold isDig at this; omega
        split at h
        · rcases List.mem_cons.1 h with rfl | h
          · decide
          · exact key c h
        · exact key c h
      · rw [tokB, if_neg (by omega), h2] at h
        simp at h; subst h
        intro h64; rw [h64] at h3; revert h3; decide
    · exact pcs_no64 r (fun u hu => hg u (by simp [toksOf, hu])) c h
theorem scanAll_pcs {l : List Pc} (hs : sepA false l = true) (hg : ∀ t ∈ toksOf l, goodT t) (hn : (toksOf l).length ≤ 4000) (hb : (pcsB l).length ≤ 16384) : ∃ ts, scanAll ⟨(pcsB l).toArray⟩ = (ts, 0, 0) ∧ ts.map zp = toksOf l := by
  have hsz : (⟨(pcsB l).toArray⟩ : ByteArray).size = (pcsB l).length := by simp [ByteArray.size]
  obtain ⟨ts, h1, h2⟩ := scan_pcs (s := ⟨(pcsB l).toArray⟩) l 0 [] (⟨(pcsB l).toArray⟩ : ByteArray).size (by omega) (atB_self _) (by omega) hs hg (by simpa using hn) (by omega)
  refine ⟨ts, ?_, h2⟩
  rw [scanAll, if_neg (by omega), h1]; rfl
theorem no64_pcs {l : List Pc} (hg : ∀ t ∈ toksOf l, goodT t) : ∀ i, i < (⟨(pcsB l).toArray⟩ : ByteArray).size → byteAt ⟨(pcsB l).toArray⟩ i ≠ 64 := by
  intro i hi
  rw [byteAt_lt hi]
  refine pcs_no64 l hg _ ?_
  rw [ByteArray.getElem_eq_getElem_data]
  simp
theorem atT_of_map {ts : List Tok} : (l : List Tok) → (k : Nat) → (∀ t ∈ l, t.pos = 0) → (ts.drop k).map zp = l ++ (ts.drop (k + l.length)).map zp → AtT ts k l
  | [], _, _, _ => trivial
  | x :: r, k, hp, h => by
    cases hd : ts.drop k with
    | nil => rw [hd] at h; simp at h
    | cons y q =>
      rw [hd] at h
      simp only [List.map_cons, List.cons_append, List.cons.injEq] at h
      have hk : ts[k]? = some y := by rw [← List.head?_drop, hd]; rfl
      refine ⟨⟨y.pos, ?_⟩, atT_of_map r (k + 1) (fun t ht => hp t (List.mem_cons_of_mem _ ht)) ?_⟩
      · rw [hk, ← h.1]; rfl
      · have e : ts.drop (k + 1) = q := by rw [← List.drop_drop, hd]; rfl
        rw [e, h.2, show k + 1 + r.length = k + (x :: r).length by simp; omega]
theorem atT_all {ts l : List Tok} (h : ts.map zp = l) : AtT ts 0 l ∧ ts.length = l.length := by
  have hl : ts.length = l.length := by rw [← h]; simp
  refine ⟨atT_of_map l 0 (fun t ht => by rw [← h] at ht; obtain ⟨u, _, rfl⟩ := List.mem_map.1 ht; rfl) ?_, hl⟩
  simp [h, ← hl]

/-- How Join puts tokens one after the other. -/
def closes (b : List UInt8) : Bool := b == [59] || b == [58] || b == [44] || b == [41]
def joinPc : Bool → List Tok → List Pc
  | _, [] => []
  | g, t :: r => (if !g && !closes (tokB t) then [.sp, .tk t] else [.tk t]) ++ joinPc (tokB t == [40]) r
def gluedA : Bool → List Tok → Bool
  | g, [] => g
  | _, t :: r => gluedA (tokB t == [40]) r
theorem joinPc_append : (a b : List Tok) → (g : Bool) → joinPc g (a ++ b) = joinPc g a ++ joinPc (gluedA g a) b
  | [], b, g => by simp [joinPc, gluedA]
  | t :: r, b, g => by simp [joinPc, gluedA, joinPc_append r b]
theorem gluedA_snoc : (a : List Tok) → (g : Bool) → (t : Tok) → gluedA g (a ++ [t]) = (tokB t == [40])
  | [], g, t => by simp [gluedA]
  | x :: r, g, t => by simp [gluedA, gluedA_snoc r]
theorem toksOf_joinPc : (l : List Tok) → (g : Bool) → toksOf (joinPc g l) = l
  | [], g => rfl
  | t :: r, g => by
    rw [joinPc, toksOf_append, toksOf_joinPc r]
    split <;> rfl
theorem good_mark {t : Tok} (h : goodT t) {c : UInt8} (hc : tokB t = [c]) (hm : markB (c.toNat : Int) = true) : t.kind = 4 := by
  obtain ⟨_, ⟨h1, h2, h3⟩ | ⟨h1, h2, h3, h4⟩ | ⟨h1, h4, d, h2, h3⟩⟩ := h
  · exfalso
    simp only [wordB, Bool.and_eq_true, bne_iff_ne] at h2
    obtain ⟨⟨⟨⟨h0, _⟩, h5⟩, _⟩, _⟩ := h2
    have h0' : 0 < t.text.size := by omega
    rw [byteAt_lt h0', ByteArray.getElem_eq_getElem_data] at h5
    rw [tokB, if_neg (by omega)] at hc
    have : t.text.data[0]'h0' = c := by rw [← Array.getElem_toList]; simp only [hc, List.getElem_cons_zero]
    rw [this] at h5
    simp [letterB] at h5
    simp [markB] at hm
    omega
  · exfalso
    rw [tokB, if_pos h1, decB] at hc
    have hm' : c.toNat = 59 ∨ c.toNat = 58 ∨ c.toNat = 44 ∨ c.toNat = 40 ∨ c.toNat = 41 := by simp [markB] at hm; omega
    split at hc
    · simp only [List.cons.injEq] at hc
      exact digs_ne 19 _ hc.2
    · have := digs_all 20 t.num.natAbs c (by rw [hc]; simp)
      unfold isDig at this
      omega
  · exact h1
theorem sepA_joinPc : (l : List Tok) → (g p : Bool) → (∀ t ∈ l, goodT t) → (g = true → p = false) → sepA p (joinPc g l) = true
  | [], g, p, _, _ => rfl
  | t :: r, g, p, hg, hp => by
    have hgt := hg t (by simp)
    have ih := sepA_joinPc r (tokB t == [40]) (t.kind != 4) (fun u hu => hg u (List.mem_cons_of_mem _ hu)) (fun h => by
      have := good_mark hgt (c := 40) (by simpa using h) (by decide)
      simp [this])
    rw [joinPc]
    split
    · simp only [List.cons_append, List.nil_append, sepA, ih, Bool.not_false, Bool.true_or, Bool.and_true]
    · rename_i hc
      simp only [List.cons_append, List.nil_append, sepA, ih, Bool.and_true, Bool.or_eq_true, Bool.not_eq_true', beq_iff_eq]
      cases hgg : g with
      | true => exact Or.inl (hp hgg)
      | false =>
        right
        rw [hgg] at hc
        have hcl : closes (tokB t) = true := by simpa using hc
        simp only [closes, Bool.or_eq_true, beq_iff_eq] at hcl
        rcases hcl with ((h | h) | h) | h
        · exact good_mark hgt h (by decide)
        · exact good_mark hgt h (by decide)
        · exact good_mark hgt h (by decide)
        · exact good_mark hgt h (by decide)
/-- The bytes of an expression's text, as pieces. -/
def fmtPc (e : Ex) : List Pc := joinPc true (tokE e)
def fmtB (e : Ex) : List UInt8 := pcsB (fmtPc e)
end Go.Proofs.YtaepiiediblleaaGreatDoor
