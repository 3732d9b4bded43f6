/-
  Texts of the claim, joined: Level10, Tokens, Exs, Ref2, Ref3.
-/
import Derived.Test.YtaepiiediblleaaGreatDoorBa08
import Derived.Test.YtaepiiediblleaaGreatDoorBa06
import Derived.Test.YtaepiiediblleaaGreatDoorBa02
namespace Go.Proofs.YtaepiiediblleaaGreatDoor
open Go.RowKit

theorem operand_ps {toks : List Tok} {ta : Option Addr} {tn tc : Nat} {w0 w : World} {bp k : Nat} {li : List Lvl} {t : Lvl} {M X : List Nat} (h : PS toks ta tn tc w0 w bp k li t M X) (ho : HasOps w0) :
    Calls Tryz.prog 39 #[.pointer (some ⟨bp, 0, none⟩)] w (fun e w' => ∃ v : PartV, e = .returned (.tuple #[v.val, .int .i64 (operandF toks k).2.1]) ∧ PartR (mask w' (X ++ M)) (operandF toks k).1 v ∧ PS toks ta tn tc w0 w' bp (operandF toks k).2.2 li t M X ∧ Chg M w w') := by
  obtain ⟨vl, l, x, hI, hll⟩ := h
  refine (operand_calls hI.pc ho).mono ?_
  rintro e w' ⟨v, he, h1, h2, h3⟩
  exact ⟨v, he, h1 (X ++ M) hI.hKlt, ⟨vl, l, x, hI.step h2 h3 (operandF_ge0 toks k), hll⟩, h2.mono (by rw [hI.hM]; simp)⟩

theorem PS.pot {toks : List Tok} {ta : Option Addr} {tn tc : Nat} {w0 w : World} {bp k : Nat} {li : List Lvl} {t : Lvl} {M X : List Nat} (h : PS toks ta tn tc w0 w bp k li t M X) : potAll (li ++ [t]) ≤ 2 * k ∧ k ≤ tn ∧ tn ≤ 1000000 ∧ (Tidy t.ands ∧ Tidy t.ors) ∧ (∀ y ∈ M, y < w.heap.size) ∧ bp ∈ M ∧ bp < w.heap.size := by
  obtain ⟨vl, l, x, hI, hll⟩ := h
  have hbM : bp ∈ M := by rw [hI.hM]; simp
  exact ⟨hI.pot, hI.pc.hk, hI.small, hI.tidy t (by simp), fun y hy => hI.hKlt y (hI.hK y hy), hbM, hI.hKlt bp (hI.hK bp hbM)⟩
theorem PS.ext {toks : List Tok} {ta : Option Addr} {tn tc : Nat} {w0 w : World} {bp k : Nat} {li : List Lvl} {t : Lvl} {M X : List Nat} (h : PS toks ta tn tc w0 w bp k li t M X) {w' : World} (hx : Ext w w') : PS toks ta tn tc w0 w' bp k li t M X := by
  obtain ⟨vl, l, x, hI, hll⟩ := h
  exact ⟨vl, l, x, hI.ext hx, hll⟩

theorem PS.more {toks : List Tok} {ta : Option Addr} {tn tc : Nat} {w0 w : World} {bp k : Nat} {li : List Lvl} {t : Lvl} {M X : List Nat} (h : PS toks ta tn tc w0 w bp k li t M X) {w' : World} (hx : Ext w w') (hs : w.heap.size < w'.heap.size) : PS toks ta tn tc w0 w' bp k li t M (w.heap.size :: X) := by
  obtain ⟨vl, l, x, hI, hll⟩ := h
  refine ⟨vl, l, x, hI.chg (hx.chg []) (by simp) (by simp) (mask_sub_mask fun y hy hn => ⟨?_, hx.block y hy⟩) (fun y hy => List.mem_append_right _ hy) (fun y hy => ?_), hll⟩
  · rw [List.cons_append, List.mem_cons, not_or]; exact ⟨by omega, hn⟩
  · rw [List.cons_append] at hy
    rcases List.mem_cons.1 hy with rfl | hy
    · exact hs
    · have := hI.hKlt y hy; omega

theorem PS.acceptY {toks : List Tok} {ta : Option Addr} {tn tc : Nat} {w0 w : World} {bp k : Nat} {li : List Lvl} {t : Lvl} {M X : List Nat} (h : PS toks ta tn tc w0 w bp k li t M X) {kind : Int} {text : ByteArray} (ha : acceptB toks k kind text = true) :
    Calls Tryz.prog 43 #[.pointer (some ⟨bp, 0, none⟩), .int .i64 kind, .string text] w (fun e w' => e = .returned (.bool true) ∧ Chg [bp] w w' ∧ PS toks ta tn tc w0 w' bp (k + 1) li t M X ∧ k + 1 ≤ tn) := by
  obtain ⟨vl, l, x, hI, hll⟩ := h
  refine (hI.pc.acceptY ha).mono ?_
  rintro e w' ⟨he, h1, h2⟩
  exact ⟨he, h1, ⟨vl, l, x, hI.step h1 h2 (by omega), hll⟩, h2.hk⟩

/-- closed: the levels that stay. -/
theorem closed_ps {toks : List Tok} {ta : Option Addr} {tn tc : Nat} {w0 w : World} {bp k : Nat} {li : List Lvl} {t : Lvl} {M X : List Nat} (h : PS toks ta tn tc w0 w bp k li t M X) :
    Calls Tryz.prog 42 #[.pointer (some ⟨bp, 0, none⟩)] w (fun e w' => ∃ (v : PartV) (a : Option Addr) (cap : Nat) (M' : List Nat) (vl' : Value), e = .returned v.val ∧ vl' = .slice a li.length cap ∧ PC toks ta tn tc w0 w' bp k vl' ∧ PartR (mask w' (X ++ M')) (wholeF t) v ∧ Chg M w w' ∧ (∀ y ∈ M', y ∈ M) ∧ bp ∈ M' ∧
      (∀ li' t', li = li' ++ [t'] → PS toks ta tn tc w0 w' bp k li' t' M' X)) := by
  obtain ⟨vl, l, x, hI, hll⟩ := h
  refine (closed_calls hI hll).mono ?_
  rintro e w' ⟨v, vl', M', he, h1, h2, h3, h4⟩
  obtain ⟨a, cap, e2, -⟩ := IsRows.of_owns (f := LvlV.cells) (fun _ => rfl) h1.own
  rw [← h1.len] at e2
  refine ⟨v, a, cap, M', vl', he, e2, h1.pc, h2, h3, h4, by rw [h1.hM]; simp, fun li' t' e1 => ?_⟩
  subst e1
  have hl0 : 0 < l.length := by rw [← hll]; simp
  obtain ⟨l', x', rfl⟩ : ∃ l' x', l = l' ++ [x'] := ⟨l.dropLast, l.getLast (by intro e; simp [e] at hl0), (List.dropLast_concat_getLast _).symm⟩
  exact ⟨_, l', x', h1, by simpa using hll⟩

/-- What expression hands back. -/
def ExprQ (R : Part × Int × Nat) (ta : Option Addr) (tn tc : Nat) (w : World) (bp : Nat) (M X : List Nat) (e : Ending) (w' : World) : Prop :=
  ∃ (v : PartV) (vl' : Value), e = .returned (.tuple #[v.val, .int .i64 R.2.1]) ∧ PartR (mask w' X) R.1 v ∧ PB w' bp ta tn tc R.2.2 vl' ∧ Chg M w w'

def OuterI (R : Part × Int × Nat) (toks : List Tok) (ta : Option Addr) (tn tc : Nat) (w0 wb : World) (bp : Nat) (M X : List Nat) (m : Nat) (_ : Value) (wr : World) : Prop :=
  ∃ k li t M' f, PS toks ta tn tc w0 wr bp k li t M' X ∧ Chg M wb wr ∧ (∀ y ∈ M', y ∈ M ∨ wb.heap.size ≤ y) ∧ m = tn - k ∧ 2 * (tn - k) + 2 ≤ f ∧ runF toks tn f true k li t = R
def InnerI (R : Part × Int × Nat) (toks : List Tok) (ta : Option Addr) (tn tc : Nat) (w0 wb : World) (bp : Nat) (M X : List Nat) (k0 m : Nat) (_ : Value) (wr : World) : Prop :=
  ∃ k li t M' f, PS toks ta tn tc w0 wr bp k li t M' X ∧ Chg M wb wr ∧ (∀ y ∈ M', y ∈ M ∨ wb.heap.size ≤ y) ∧ m = tn - k ∧ 2 * (tn - k) + 1 ≤ f ∧ runF toks tn f false k li t = R ∧ t.ands ≠ [] ∧ k0 < k

theorem Moves.on {toks : List Tok} {ta : Option Addr} {tn tc : Nat} {w0 wb w : World} {bp k : Nat} {li : List Lvl} {t : Lvl} {M M1 X : List Nat} {w' : World} (h : Moves toks ta tn tc w0 w bp k li t M1 X w') (hc : Chg M wb w) (hM : ∀ y ∈ M1, y ∈ M ∨ wb.heap.size ≤ y) : ∃ M', PS toks ta tn tc w0 w' bp k li t M' X ∧ Chg M wb w' ∧ ∀ y ∈ M', y ∈ M ∨ wb.heap.size ≤ y := by
  obtain ⟨M', h1, h2, h3⟩ := h
  refine ⟨M', h1, hc.trans h2 hM, fun y hy => ?_⟩
  rcases h3 y hy with h | h
  · exact hM y h
  · exact Or.inr (Nat.le_trans hc.size h)

theorem exprQ_mk {R : Part × Int × Nat} {ta : Option Addr} {tn tc : Nat} {w w2 W : World} {bp k : Nat} {M X : List Nat} {q : Part} {er : Int} {v : PartV} {vl : Value} (hcw : Chg M w w2) (hcW : Chg [w.heap.size] w2 W) (hb : PB w2 bp ta tn tc k vl) (hbp : bp < w.heap.size) (hR : R = (q, er, k)) (hv : PartR (mask W X) q v) :
    ExprQ R ta tn tc w bp M X (.returned (.tuple #[v.val, .int .i64 er])) W := by
  subst hR
  exact ⟨v, vl, rfl, hv, hcW.blk hb (by simp; omega), hcw.trans hcW (by simp)⟩

set_option maxRecDepth 100000 in
set_option maxHeartbeats 4000000 in
theorem expression_calls {toks : List Tok} {ta : Option Addr} {tn tc : Nat} {w0 w : World} {bp k : Nat} {li : List Lvl} {t : Lvl} {M X : List Nat} (h : PS toks ta tn tc w0 w bp k li t M X) (ho : HasOps w0) :
    Calls Tryz.prog 20 #[.pointer (some ⟨bp, 0, none⟩)] w (ExprQ (runF toks tn (2 * (tn - k) + 2) true k li t) ta tn tc w bp M X) := by
  obtain ⟨R, hR⟩ : ∃ R, R = runF toks tn (2 * (tn - k) + 2) true k li t := ⟨_, rfl⟩
  rw [← hR]
  have HS := Lib.hid h
  have HO := Lib.hid ho
  have HR := Lib.hid hR
  have HB := Lib.hid (show ∀ o, Ext w (w.alloc o) from fun o => (Ext.refl w).alloc o)
  clear h ho hR
  go_enter Tryz.func20, Tryz.ntmps20
  go_wp2_with fail
  have hBR := Lib.hid (alloc_new w (.cells #[.int .i64 0, .string ⟨#[]⟩, .slice none 0 0, .int .i64 0, .int .i64 0, .slice none 0 0, .int .i64 0, .int .i64 0] 56))
  have hEB := Lib.hid (HB.out (.cells #[.int .i64 0, .string ⟨#[]⟩, .slice none 0 0, .int .i64 0, .int .i64 0, .slice none 0 0, .int .i64 0, .int .i64 0] 56))
  have hML := Lib.hid HS.out.pot.2.2.2.2.1
  have hbw := HS.out.pot.2.2.2.2.2.2
  have hwb : (w.alloc (.cells #[.int .i64 0, .string ⟨#[]⟩, .slice none 0 0, .int .i64 0, .int .i64 0, .slice none 0 0, .int .i64 0, .int .i64 0] 56)).heap.size = w.heap.size + 1 := by simp
  have HWB := Lib.hid hwb
  clear hwb
  generalize w.alloc (.cells #[.int .i64 0, .string ⟨#[]⟩, .slice none 0 0, .int .i64 0, .int .i64 0, .slice none 0 0, .int .i64 0, .int .i64 0] 56) = wb at *
  go_loopg [3] (tn - k) (OuterI R toks ta tn tc w0 wb bp M (w.heap.size :: X))
  case atStart => exact ⟨k, li, t, M, _, HS.out.more hEB.out (by have := HWB.out; omega), Chg.refl _ _, fun y hy => Or.inl hy, rfl, Nat.le_refl _, HR.out.symm⟩
  case round =>
    clear HS HR HB
    obtain ⟨k1, l1, t1, M1, f1, hps, hc, hMM, hm, hf, hrun⟩ := hrel
    have HS := Lib.hid hps
    have HC := Lib.hid hc
    have HMM := Lib.hid hMM
    have HM := Lib.hid hm
    have HRUN := Lib.hid hrun
    have hkt := hps.pot.2.1
    clear hps hc hMM hm hrun
    go_wp2_with fail
    refine (prefix_calls HS.out HO.out).mono ?_
    rintro r w1 ⟨rfl, hmv⟩
    have hpg := prefixF_ge toks (tn - k1 + 1) k1 l1 t1
    obtain ⟨f, rfl⟩ : ∃ f, f1 = f + 1 := ⟨f1 - 1, by omega⟩
    have HRUN2 := Lib.hid (show (if (operandF toks (prefixF toks (tn - k1 + 1) k1 l1 t1).1).2.1 ≠ 0 then (⟨ex0, 0, 0⟩, (operandF toks (prefixF toks (tn - k1 + 1) k1 l1 t1).1).2.1, (operandF toks (prefixF toks (tn - k1 + 1) k1 l1 t1).1).2.2) else runF toks tn f false (operandF toks (prefixF toks (tn - k1 + 1) k1 l1 t1).1).2.2 (prefixF toks (tn - k1 + 1) k1 l1 t1).2.1 (withPart (prefixF toks (tn - k1 + 1) k1 l1 t1).2.2 (operandF toks (prefixF toks (tn - k1 + 1) k1 l1 t1).1).1)) = R from HRUN.out)
    clear HRUN
    generalize prefixF toks (tn - k1 + 1) k1 l1 t1 = A at *
    obtain ⟨k2, l2, t2⟩ := A
    obtain ⟨M2, hps2, hc2, hMM2⟩ := Moves.on (M1 := M1) (show Moves toks ta tn tc w0 _ bp k2 l2 t2 M1 (w.heap.size :: X) w1 from hmv) HC.out HMM.out
    have HS2 := Lib.hid hps2
    have HC2 := Lib.hid hc2
    have HMM2 := Lib.hid hMM2
    clear HS HC HMM hmv hps2 hc2 hMM2
    simp only at HRUN2 hpg
    go_wp2_with fail
    refine (operand_ps HS2.out HO.out).mono ?_
    rintro r w2 ⟨v, rfl, hpv, hps3, hc3⟩
    have hpt2 := HS2.out.pot
    have HC3 := Lib.hid (HC2.out.trans hc3 HMM2.out)
    have hB2 := HC3.out.blk hBR.out (fun h' => Nat.lt_irrefl _ (hML.out _ h'))
    have HOK := Lib.hid (operandF_ok toks k2)
    generalize operandF toks k2 = O at *
    obtain ⟨pp, er, k3⟩ := O
    simp only at hpv hps3 HRUN2
    have HV := Lib.hid hpv
    have HS3 := Lib.hid hps3
    obtain ⟨p0, p1, p2, p3, p4, p5, p6, p7, pf⟩ := blk8 hB2
    have hz2 := blk_lt hB2
    have HB2 := Lib.hid hB2
    clear hpv hps3 hc3 hB2 HS2 HC2
    by_cases her : er = 0
    · subst her
      obtain ⟨hsz, hdp, hkk⟩ := HOK.out rfl
      have HSZ := Lib.hid hsz
      have HDP := Lib.hid hdp
      have HR3 := Lib.hid (show runF toks tn f false k3 l2 (withPart t2 pp) = R by have := HRUN2.out; simpa using this)
      have HPT := Lib.hid hpt2
      clear HRUN2 hsz hdp hpt2 p0 p1 p2 p3 p4 p5 p6 p7 pf
      unfold PartV.val
      go_wp2_with fail
      refine (add_ps (HS3.out.ext ((Ext.refl w2).alloc _)) pp v (HV.out.mono (mask_ext _ ((Ext.refl w2).alloc _))) (by rw [HSZ.out, HDP.out]; exact Nat.le_refl _) (by have := HPT.out.1; rw [HSZ.out]; omega)).mono ?_
      rintro r w3 ⟨rfl, hmv⟩
      obtain ⟨M4, hps4, hc4, hMM4⟩ := hmv.on (HC3.out.alloc _) HMM2.out
      have HS4 := Lib.hid hps4
      have HC4 := Lib.hid hc4
      have HMM4 := Lib.hid hMM4
      clear hmv hps4 hc4 hMM4 HC3 HS3 HV HB2
      go_wp2_with fail
      go_loopg [3] (tn - k3) (InnerI R toks ta tn tc w0 wb bp M (w.heap.size :: X) k1)
      case atStart => exact ⟨k3, l2, withPart t2 pp, M4, f, HS4.out, HC4.out, HMM4.out, rfl, by omega, HR3.out, by simp [withPart], by omega⟩
      case round =>
        clear HS4 HC4 HMM4 HR3
        obtain ⟨k5, l5, t5, M5, f5, hps, hc, hMM, hm, hf5, hrun, hne5, hk15⟩ := hrel
        have HS := Lib.hid hps
        have HC := Lib.hid hc
        have HMM := Lib.hid hMM
        have HM5 := Lib.hid hm
        have hpt := hps.pot
        have HPT5 := Lib.hid hpt
        have hkt5 := hpt.2.1
        obtain ⟨f6, rfl⟩ : ∃ f6, f5 = f6 + 1 := ⟨f5 - 1, by omega⟩
        have HRUN := Lib.hid hrun
        have HNE := Lib.hid hne5
        clear hps hc hMM hm hpt hrun hne5
        go_wp2_with fail
        refine (another_ps HS.out HO.out HNE.out).mono ?_
        rintro r w4 ⟨rfl, hmv⟩
        cases h1 : acceptB toks k5 1 wAnd
        · cases h2 : acceptB toks k5 1 wOr
          · rw [h1, h2] at hmv
            simp only [Bool.or_self, Bool.false_eq_true, if_false] at hmv ⊢
            have HRUN6 := Lib.hid (show (match l5.getLast? with
                | none => (wholeF t5, 0, k5)
                | some t' => if acceptB toks k5 4 ⟨#[41]⟩ = true then runF toks tn f6 false (k5 + 1) l5.dropLast (withPart t' (wholeF t5)) else (⟨ex0, 0, 0⟩, 5, k5)) = R by
              have := HRUN.out
              rw [runF, if_neg (by simp [h1]), if_neg (by simp [h2])] at this
              exact this)
            obtain ⟨M6, hps6, hc6, hMM6⟩ := hmv.on HC.out HMM.out
            have HS6 := Lib.hid hps6
            have HC6 := Lib.hid hc6
            have HMM6 := Lib.hid hMM6
            clear hmv hps6 hc6 hMM6 h1 h2 HS HC HMM HRUN
            go_wp2_with fail
            refine (closed_ps HS6.out).mono ?_
            rintro r w7 ⟨v7, a7, cap7, M7, vl7, rfl, rfl, hpc7, hpv7, hc7, hM7, hbM7, hrest⟩
            have HC7 := Lib.hid (HC6.out.trans hc7 HMM6.out)
            have HP7 := Lib.hid hpc7
            have HV7 := Lib.hid hpv7
            have HMM7 := Lib.hid (fun y hy => HMM6.out y (hM7 y hy))
            have HREST := Lib.hid hrest
            have hb7 := HC7.out.blk hBR.out (fun h' => Nat.lt_irrefl _ (hML.out _ h'))
            obtain ⟨p0, p1, p2, p3, p4, p5, p6, p7, pf⟩ := blk8 hb7
            have hz7 := blk_lt hb7
            obtain ⟨c0, c1, c2, cf, hbw7⟩ := hpc7.cells
            clear hpc7 hpv7 hc7 hM7 hrest hb7 HS6 HC6 HMM6
            rcases hlast : l5.getLast? with _ | t6
            · have hl0 : l5 = [] := List.getLast?_eq_none_iff.1 hlast
              have HR7 := Lib.hid (show R = (wholeF t5, 0, k5) by rw [← HRUN6.out, hlast])
              have tl : ((l5.length : Int) == 0) = true := by simp [hl0]
              clear HRUN6 hlast hl0
              unfold PartV.val
              go_wp2_with fail
              refine bodyPost_ret (v := .tuple #[v7.val, .int .i64 0]) (by simp [results, Tryz.results20, go_sem, PartV.val, p0, p1, p2, p3, p4, p5, p6, p7, hz7]) rfl ?_
              refine exprQ_mk ((hEB.out.chg M).then HC7.out) ?_ HP7.out.hb hbw HR7.out ?_
              · refine Chg.alloc ?_ _
                repeat (with_reducible (refine Chg.setCell ?_ ?_ _))
                exact Chg.refl _ _
                all_goals (refine Or.inl ?_; simp)
              · refine HV7.out.mono (mask_sub_mask fun y hy hn => ⟨fun h => hn (by simp [h]), ?_⟩)
                refine Chg.block (N := [w.heap.size]) ?_ y hy (by simp; intro e; subst e; exact hn (by simp))
                refine Chg.alloc ?_ _
                repeat (with_reducible (refine Chg.setCell ?_ ?_ _))
                exact Chg.refl _ _
                all_goals (refine Or.inl ?_; simp)
            · have hl5 : l5 = l5.dropLast ++ [t6] := by
                obtain ⟨ys, rfl⟩ := List.getLast?_eq_some_iff.1 hlast
                simp
              have HL5 := Lib.hid hl5
              have hl0 : l5 ≠ [] := by intro e; simp [e] at hlast
              have tl : ((l5.length : Int) == 0) = false := by
                have : 0 < l5.length := List.length_pos_iff.2 hl0
                simp; omega
              have HRUN7 := Lib.hid (show (if acceptB toks k5 4 ⟨#[41]⟩ = true then runF toks tn f6 false (k5 + 1) l5.dropLast (withPart t6 (wholeF t5)) else (⟨ex0, 0, 0⟩, 5, k5)) = R by
                have := HRUN6.out
                rw [hlast] at this
                exact this)
              clear HRUN6 hlast hl5 hl0
              cases h3 : acceptB toks k5 4 ⟨#[41]⟩
              · have HR7 := Lib.hid (show R = (⟨ex0, 0, 0⟩, 5, k5) by rw [← HRUN7.out, if_neg (by simp [h3])])
                have H3 := Lib.hid h3
                clear h3 HRUN7
                unfold PartV.val
                go_wp2_with fail
                refine ((HP7.out.ext ((Ext.refl w7).alloc _)).acceptN H3.out).mono ?_
                rintro r w8 ⟨rfl, hc8, hp8⟩
                have HC8 := Lib.hid (HC7.out.trans (((Chg.refl [bp] w7).alloc _).then hc8) (by simpa using HMM7.out bp hbM7))
                have HP8 := Lib.hid hp8
                have hb8 := HC8.out.blk hBR.out (fun h' => Nat.lt_irrefl _ (hML.out _ h'))
                have hz8 := blk_lt hb8
                clear p0 p1 p2 p3 p4 p5 p6 p7 pf c0 c1 c2 cf
                obtain ⟨p0, p1, p2, p3, p4, p5, p6, p7, pf⟩ := blk8 hb8
                clear hc8 hp8 hb8
                go_wp2_with fail
                refine bodyPost_ret (v := .tuple #[(PartV.mk ⟨0, ⟨#[]⟩, none, 0, 0, 0, 0, none, 0, 0⟩ 0 0).val, .int .i64 5]) (by simp [results, Tryz.results20, go_sem, PartV.val, p0, p1, p2, p3, p4, p5, p6, p7]) rfl ?_
                refine exprQ_mk ((hEB.out.chg M).then HC8.out) ?_ HP8.out.hb hbw HR7.out ⟨rfl, rfl, isEx0 _⟩
                repeat (with_reducible (refine Chg.setCell ?_ ?_ _))
                exact Chg.refl _ _
                all_goals (refine Or.inl ?_; simp)
              · have HR7 := Lib.hid (show runF toks tn f6 false (k5 + 1) l5.dropLast (withPart t6 (wholeF t5)) = R by rw [← HRUN7.out, if_pos h3])
                have H3 := Lib.hid h3
                clear h3 HRUN7
                have HPS7 := Lib.hid (HREST.out l5.dropLast t6 HL5.out)
                unfold PartV.val
                go_wp2_with fail
                refine ((HPS7.out.ext ((Ext.refl w7).alloc _)).acceptY H3.out).mono ?_
                rintro r w8 ⟨rfl, hc8, hps8, hk8⟩
                have HC8 := Lib.hid (HC7.out.trans (((Chg.refl [bp] w7).alloc _).then hc8) (by simpa using HMM7.out bp hbM7))
                have hbx := hc8.blk (alloc_new w7 _) (by simp; omega)
                have HPS8 := Lib.hid hps8
                have HV8 : Hid (PartR (mask w8 ((w.heap.size :: X) ++ M7)) (wholeF t5) v7) := by
                  refine HV7.out.mono (mask_sub_mask fun y hy hn => ⟨hn, ?_⟩)
                  exact (((Chg.refl [bp] w7).alloc _).then hc8).block y hy (by simp; intro e; subst e; exact hn (List.mem_append_right _ hbM7))
                clear p0 p1 p2 p3 p4 p5 p6 p7 pf c0 c1 c2 cf
                obtain ⟨p0, p1, p2, p3, p4, p5, p6, p7, pf⟩ := blk8 hbx
                clear hc8 hps8 hbx
                go_wp2_with fail
                refine (add_ps HPS8.out (wholeF t5) v7 HV8.out (wholeF_tidy t5 HPT5.out.2.2.2.1) ?_).mono ?_
                · have h1 := HPT5.out.1
                  have h2 : potAll l5 = potAll (l5.dropLast ++ [t6]) := congrArg potAll HL5.out
                  have h3 := wholeF_size t5
                  have h4 : 0 < t5.ands.length := List.length_pos_iff.2 HNE.out
                  rw [potAll_snoc, h2] at h1
                  have h5 := sumPot_eq t5.ands
                  have h6 := sumPot_eq t5.ors
                  unfold Lvl.pot at h1
                  omega
                rintro r w9 ⟨rfl, hmv⟩
                obtain ⟨M9, hps9, hc9, hMM9⟩ := hmv.on HC8.out HMM7.out
                have HS9 := Lib.hid hps9
                have HC9 := Lib.hid hc9
                have HMM9 := Lib.hid hMM9
                clear hmv hps9 hc9 hMM9
                go_wp2_with fail
                go_roundg (tn - (k5 + 1))
                case measure => have := HM5.out; omega
                case rel => exact ⟨k5 + 1, l5.dropLast, _, M9, f6, HS9.out, HC9.out, HMM9.out, rfl, by omega, HR7.out, by simp [withPart], by omega⟩
          · have HR6 := Lib.hid (show runF toks tn f6 true (k5 + 1) l5 ⟨t5.nots, [], t5.ors ++ [joinedF 7 t5.ands]⟩ = R by have := HRUN.out; rw [runF, if_neg (by simp [h1]), if_pos h2] at this; exact this)
            rw [h1, h2] at hmv
            simp only [Bool.false_or, if_true, Bool.false_eq_true, if_false] at hmv ⊢
            obtain ⟨M6, hps6, hc6, hMM6⟩ := hmv.on HC.out HMM.out
            have HS6 := Lib.hid hps6
            have HC6 := Lib.hid hc6
            have HMM6 := Lib.hid hMM6
            have hk6 := hps6.pot.2.1
            clear hmv hps6 hc6 hMM6 h1 h2
            go_wp2_with fail
            go_roundg (tn - (k5 + 1))
            case measure => have := HM.out; omega
            case rel => exact ⟨k5 + 1, l5, _, M6, f6, HS6.out, HC6.out, HMM6.out, rfl, by omega, HR6.out⟩
        · have HR6 := Lib.hid (show runF toks tn f6 true (k5 + 1) l5 t5 = R by have := HRUN.out; rw [runF, if_pos h1] at this; exact this)
          rw [h1] at hmv
          simp only [Bool.true_or, if_true] at hmv ⊢
          obtain ⟨M6, hps6, hc6, hMM6⟩ := hmv.on HC.out HMM.out
          have HS6 := Lib.hid hps6
          have HC6 := Lib.hid hc6
          have HMM6 := Lib.hid hMM6
          have hk6 := hps6.pot.2.1
          clear hmv hps6 hc6 hMM6 h1
          go_wp2_with fail
          go_roundg (tn - (k5 + 1))
          case measure => have := HM.out; omega
          case rel => exact ⟨k5 + 1, l5, t5, M6, f6, HS6.out, HC6.out, HMM6.out, rfl, by omega, HR6.out⟩
    · have HR3 := Lib.hid (show R = (⟨ex0, 0, 0⟩, er, k3) by rw [← HRUN2.out, if_pos her])
      have t1 : (er == 0) = false := by simpa using her
      clear HRUN2 her hpt2
      unfold PartV.val
      go_wp2_with fail
      refine bodyPost_ret (v := .tuple #[(PartV.mk ⟨0, ⟨#[]⟩, none, 0, 0, 0, 0, none, 0, 0⟩ 0 0).val, .int .i64 er]) (by simp [results, Tryz.results20, go_sem, PartV.val, p0, p1, p2, p3, p4, p5, p6, p7, hz2]) rfl ?_
      obtain ⟨vl3, _, _, hI3, _⟩ := HS3.out
      refine exprQ_mk ((hEB.out.chg M).then HC3.out) ?_ hI3.pc.hb hbw HR3.out ⟨rfl, rfl, isEx0 _⟩
      refine Chg.alloc ?_ _
      repeat (with_reducible (refine Chg.setCell ?_ ?_ _))
      exact Chg.refl _ _
      all_goals (refine Or.inl ?_; simp)
end Go.Proofs.YtaepiiediblleaaGreatDoor

namespace Go.Proofs.YtaepiiediblleaaGreatDoor
open Go.RowKit

/-- What Tokens hands back: the expression, the next index, the index of an error, the error. -/
def tokensF (toks : List Tok) (i : Int) : Ex × Int × Int × Int :=
  if i < 0 ∨ (toks.length : Int) < i then (ex0, 0, 0, 1) else
  if (run toks true i.toNat [] lvl0).2.1 ≠ 0 then (ex0, 0, (run toks true i.toNat [] lvl0).2.2, (run toks true i.toNat [] lvl0).2.1) else
  if 300 < (run toks true i.toNat [] lvl0).1.size ∨ 16 < (run toks true i.toNat [] lvl0).1.depth then (ex0, 0, i, 4) else
  ((run toks true i.toNat [] lvl0).1.ex, (run toks true i.toNat [] lvl0).2.2, 0, 0)
def TokensQ (R : Ex × Int × Int × Int) (M : List Nat) (w : World) (e : Ending) (w' : World) : Prop :=
  ∃ x : ExV, e = .returned (.tuple #[x.val, .int .i64 R.2.1, .int .i64 R.2.2.1, .int .i64 R.2.2.2]) ∧ IsEx (mask w' M) R.1 x.val ∧ Ext w w'

def exV0 : ExV := ⟨0, ⟨#[]⟩, none, 0, 0, 0, 0, none, 0, 0⟩
theorem tokensQ_err {R : Ex × Int × Int × Int} {M : List Nat} {a b c : Int} {w w' : World} (h : R = (ex0, a, b, c)) (hx : Ext w w') : TokensQ R M w (.returned (.tuple #[exV0.val, .int .i64 a, .int .i64 b, .int .i64 c])) w' := by
  subst h; exact ⟨exV0, rfl, isEx0 _, hx⟩

theorem Chg.sub {N : List Nat} {w w' : World} (h : Chg N w w') : Sub (mask w N) (mask w' N) := mask_sub_mask fun k hk hn => ⟨hn, h.block k hk hn⟩
theorem mask_less {M N : List Nat} (w : World) (h : ∀ y ∈ M, y ∈ N) : Sub (mask w N) (mask w M) := mask_sub_mask fun k _ hn => ⟨fun h' => hn (h k h'), rfl⟩
/-- The parser, as Tokens makes it. -/
theorem start_ps {toks : List Tok} {ta : Option Addr} {tn tc k : Nat} {w : World} {c0 : Array Value} {t0 : TypeId} (ht : IsToks w toks ta tn tc) (htn : tn ≤ 1000000) (hk : k ≤ tn) (hsz : ∀ t ∈ toks, t.text.size ≤ 1000000000000000) (M : List Nat) (hM : ∀ y ∈ M, y < w.heap.size) :
    PS toks ta tn tc w (((w.alloc (.cells c0 t0)).alloc (.cells #[.int .i64 0, .slice none 0 0, .slice none 0 0] 51)).alloc (.cells #[.slice ta tn tc, .int .i64 k, .slice (some ⟨w.heap.size + 1, 0, none⟩) 1 1] 54)) (w.heap.size + 2) k [] lvl0
      [w.heap.size + 2, w.heap.size + 1] (w.heap.size :: M) := by
  have hx : Ext w (((w.alloc (.cells c0 t0)).alloc (.cells #[.int .i64 0, .slice none 0 0, .slice none 0 0] 51)).alloc (.cells #[.slice ta tn tc, .int .i64 k, .slice (some ⟨w.heap.size + 1, 0, none⟩) 1 1] 54)) := (((Ext.refl w).alloc _).alloc _).alloc _
  have hp := alloc_new ((w.alloc (.cells c0 t0)).alloc (.cells #[.int .i64 0, .slice none 0 0, .slice none 0 0] 51)) (.cells #[.slice ta tn tc, .int .i64 k, .slice (some ⟨w.heap.size + 1, 0, none⟩) 1 1] 54)
  have hl := blk_alloc (o' := .cells #[.slice ta tn tc, .int .i64 k, .slice (some ⟨w.heap.size + 1, 0, none⟩) 1 1] 54) (alloc_new (w.alloc (.cells c0 t0)) (.cells #[.int .i64 0, .slice none 0 0, .slice none 0 0] 51))
  have hs : (((w.alloc (.cells c0 t0)).alloc (.cells #[.int .i64 0, .slice none 0 0, .slice none 0 0] 51)).alloc (.cells #[.slice ta tn tc, .int .i64 k, .slice (some ⟨w.heap.size + 1, 0, none⟩) 1 1] 54)).heap.size = w.heap.size + 3 := by simp
  have e1 : (w.alloc (.cells c0 t0)).heap.size = w.heap.size + 1 := by simp
  have e2 : ((w.alloc (.cells c0 t0)).alloc (.cells #[.int .i64 0, .slice none 0 0, .slice none 0 0] 51)).heap.size = w.heap.size + 2 := by simp
  rw [e2] at hp
  rw [e1] at hl
  generalize (((w.alloc (.cells c0 t0)).alloc (.cells #[.int .i64 0, .slice none 0 0, .slice none 0 0] 51)).alloc (.cells #[.slice ta tn tc, .int .i64 k, .slice (some ⟨w.heap.size + 1, 0, none⟩) 1 1] 54)) = W at *
  have nilOwn : OwnParts W w.heap.size ((w.heap.size :: M) ++ [w.heap.size + 2, w.heap.size + 1]) [] (.slice none 0 0) := ⟨[], World.ownsRow_nil _ _ _ _, rfl, fun i h => by simp at h⟩
  refine ⟨.slice (some ⟨w.heap.size + 1, 0, none⟩) 1 1, [], lvlV0, ⟨⟨ht, hx, hp, by omega, hk, by omega, hsz⟩, ?_, rfl, ?_, ?_, ?_, ?_, ?_, ?_, ?_, ?_, htn⟩, rfl⟩
  · exact ⟨rfl, Or.inr ⟨w.heap.size + 1, 1, #[.int .i64 0, .slice none 0 0, .slice none 0 0], rfl, by omega, hl, by simp, by unfold maxLen; omega, rfl, rfl⟩⟩
  · intro i h1 h2
    obtain rfl : i = 0 := by simp at h1; exact h1
    exact ⟨rfl, nilOwn, nilOwn⟩
  · rfl
  · simp
  · intro x hx; exact List.mem_append_right _ hx
  · intro x hx
    rw [hs]
    rcases List.mem_append.1 hx with hx | hx
    · rcases List.mem_cons.1 hx with rfl | hx
      · omega
      · have := hM x hx; omega
    · simp at hx; omega
  · simp [potAll, Lvl.pot, lvl0, sumPot]
  · simp
  · intro l hl; simp at hl; subst hl; exact ⟨fun p hp => by simp [lvl0] at hp, fun p hp => by simp [lvl0] at hp⟩

set_option maxRecDepth 100000 in
set_option maxHeartbeats 2000000 in
theorem Tokens_calls (toks : List Tok) (ta : Option Addr) (tn tc : Nat) (i : Int) (w : World) (ht : IsToks w toks ta tn tc) (ho : HasOps w) (htn : tn ≤ 1000000) (hsz : ∀ t ∈ toks, t.text.size ≤ 1000000000000000) (M : List Nat) (hM : ∀ y ∈ M, y < w.heap.size) :
    Calls Tryz.prog 7 #[.slice ta tn tc, .int .i64 i] w (TokensQ (tokensF toks i) M w) := by
  have HT := Lib.hid ht
  have HO := Lib.hid ho
  have HZ := Lib.hid hsz
  have HN := Lib.hid ht.1
  have HMM := Lib.hid hM
  clear ht ho hsz hM
  by_cases h1 : i < 0
  · have HR := Lib.hid (show tokensF toks i = (ex0, 0, 0, 1) by rw [tokensF, if_pos (Or.inl h1)])
    generalize tokensF toks i = R at *
    have t1 : decide (i < 0) = true := by simpa using h1
    go_enter Tryz.func7, Tryz.ntmps7
    go_wp2_with fail
    refine bodyPost_ret (v := .tuple #[exV0.val, .int .i64 0, .int .i64 0, .int .i64 1]) (by simp [results, Tryz.results7, go_sem, exV0, ExV.val, exV]) rfl ?_
    exact tokensQ_err HR.out ((Ext.refl w).alloc _)
  by_cases h2 : (tn : Int) < i
  · have HR := Lib.hid (show tokensF toks i = (ex0, 0, 0, 1) by rw [tokensF, if_pos (Or.inr (by rw [← HN.out]; exact h2))])
    generalize tokensF toks i = R at *
    have t1 : decide (i < 0) = false := by simpa using h1
    have t2 : decide ((tn : Int) < i) = true := by simpa using h2
    go_enter Tryz.func7, Tryz.ntmps7
    go_wp2_with fail
    refine bodyPost_ret (v := .tuple #[exV0.val, .int .i64 0, .int .i64 0, .int .i64 1]) (by simp [results, Tryz.results7, go_sem, exV0, ExV.val, exV]) rfl ?_
    exact tokensQ_err HR.out ((Ext.refl w).alloc _)
  obtain ⟨k, rfl⟩ : ∃ k : Nat, i = (k : Int) := ⟨i.toNat, by omega⟩
  have hk : k ≤ tn := by omega
  have HR := Lib.hid (show tokensF toks k = if (run toks true k [] lvl0).2.1 ≠ 0 then (ex0, 0, ((run toks true k [] lvl0).2.2 : Int), (run toks true k [] lvl0).2.1) else
      if 300 < (run toks true k [] lvl0).1.size ∨ 16 < (run toks true k [] lvl0).1.depth then (ex0, 0, (k : Int), 4) else
      ((run toks true k [] lvl0).1.ex, ((run toks true k [] lvl0).2.2 : Int), 0, 0) by
    rw [tokensF, if_neg (by rw [← HN.out]; omega), Int.toNat_natCast])
  generalize tokensF toks k = R at *
  have t1 : decide ((k : Int) < 0) = false := by simp
  have t2 : decide ((tn : Int) < (k : Int)) = false := by simp; omega
  have t3 : decide (tn < k) = false := by simp; omega
  clear h1 h2
  have HP := Lib.hid (fun (c0 : Array Value) (t0 : TypeId) => start_ps (c0 := c0) (t0 := t0) HT.out htn hk HZ.out M HMM.out)
  have HE := Lib.hid (show ∀ a b c, Ext w (((w.alloc a).alloc b).alloc c) from fun a b c => (((Ext.refl w).alloc _).alloc _).alloc _)
  have HRU := Lib.hid (show runF toks tn (2 * (tn - k) + 2) true k [] lvl0 = run toks true k [] lvl0 by rw [HN.out]; rfl)
  go_enter Tryz.func7, Tryz.ntmps7
  go_wp2_with fail
  refine (expression_calls (HP.out _ _) HO.out).mono ?_
  rw [HRU.out]
  generalize run toks true k [] lvl0 = RR at *
  obtain ⟨q, er, k1⟩ := RR
  rintro r w1 ⟨v, vl, rfl, hv, hpb, hc⟩
  have hb0 := hc.blk (blk_alloc (o' := .cells #[.slice ta tn tc, .int .i64 k, .slice (some ⟨w.heap.size + 1, 0, none⟩) 1 1] 54) (blk_alloc (o' := .cells #[.int .i64 0, .slice none 0 0, .slice none 0 0] 51) (alloc_new w (.cells #[.int .i64 0, .string ⟨#[]⟩, .slice none 0 0, .int .i64 0, .int .i64 0, .slice none 0 0] 28)))) (by simp)
  have HX1 := Lib.hid (hc.ext (HE.out _ _ _) (by simp))
  have HV := Lib.hid hv
  unfold PB at hpb
  have hltp := blk_lt hpb
  have hlt0 := blk_lt hb0
  obtain ⟨c0, c1, c2, cf⟩ := blk3 hpb
  obtain ⟨b0, b1, b2, b3, b4, b5, bf⟩ := blk6 hb0
  clear hc hv hpb hb0
  simp only at HR HV c1
  by_cases her : er = 0
  · subst her
    simp only [ne_eq, not_true_eq_false, if_false] at HR
    unfold PartV.val
    go_wp2_with fail
    refine (beyond_calls _ _ _ _ _ _ _ _ _).mono ?_
    rintro r w2 ⟨rfl, hx2⟩
    have hC2 := Lib.hid (show Chg (w.heap.size :: M) w1 w2 from ((Chg.refl _ w1).alloc _).then (hx2.chg _))
    have hp2 := hx2.blk (alloc_new w1 (.cells #[.int .i64 v.x.op, .string v.x.name, .slice v.x.aw v.x.nw v.x.cw, .int .i64 v.x.lo, .int .i64 v.x.hi, .slice v.x.aa v.x.na v.x.ca, .int .i64 v.size, .int .i64 v.depth] 56))
    have hE2 : Ext w1 w2 := ((Ext.refl w1).alloc _).trans hx2
    have hz2 := hE2.size
    have hq2 := blk_lt hp2
    obtain ⟨p0, p1, p2, p3, p4, p5, p6, p7, pf⟩ := blk8 hp2
    replace b0 := hE2.cell b0
    replace b1 := hE2.cell b1
    replace b2 := hE2.cell b2
    replace b3 := hE2.cell b3
    replace b4 := hE2.cell b4
    replace b5 := hE2.cell b5
    replace c1 := hE2.cell c1
    have bf2 : ∀ j, w2.frozen? ⟨w.heap.size, j, none⟩ = false := fun j => by rw [World.frozen?_of_block (hE2.block _ hlt0)]; exact bf j
    have HX2 := Lib.hid (HX1.out.trans hE2)
    have hlt2 : w.heap.size < w2.heap.size := by omega
    clear hx2 hp2 hE2 bf cf c0 c2 HX1
    by_cases hbig : 300 < q.size ∨ 16 < q.depth
    · have HR1 := Lib.hid (show R = (ex0, 0, (k : Int), 4) by rw [HR.out, if_pos hbig])
      have tb : (decide (300 < (v.size : Int)) || decide (16 < (v.depth : Int))) = true := by have h1 := HV.out.1; have h2 := HV.out.2.1; rw [h1, h2]; simp; omega
      rw [tb]
      clear HR hbig tb
      go_wp2_with fail
      refine bodyPost_ret (v := .tuple #[exV0.val, .int .i64 0, .int .i64 k, .int .i64 4]) (by simp [results, Tryz.results7, go_sem, exV0, ExV.val, exV, b0, b1, b2, b3, b4, b5]) rfl ?_
      refine tokensQ_err HR1.out ?_
      repeat (with_reducible (refine Ext.setAbove ?_ ?_ _))
      exact HX2.out
      all_goals simp
    · have HR1 := Lib.hid (show R = (q.ex, (k1 : Int), 0, 0) by rw [HR.out, if_neg hbig])
      have tb : (decide (300 < (v.size : Int)) || decide (16 < (v.depth : Int))) = false := by have h1 := HV.out.1; have h2 := HV.out.2.1; rw [h1, h2]; simp; omega
      rw [tb]
      clear HR hbig tb
      go_wp2_with fail
      go_region
      all_goals
        go_wp2_with fail
        refine bodyPost_ret (v := .tuple #[v.x.val, .int .i64 k1, .int .i64 0, .int .i64 0]) (by simp [results, Tryz.results7, go_sem, ExV.val, exV, b0, b1, b2, b3, b4, b5]) rfl ?_
        rw [HR1.out]
        refine ⟨v.x, rfl, HV.out.2.2.mono ((Chg.sub ?_).trans (mask_less _ (fun y hy => List.mem_cons_of_mem _ hy))), ?_⟩
        · refine Chg.then hC2.out ?_
          repeat (with_reducible (first | refine Chg.setCell ?_ ?_ _ | refine Chg.drew ?_ | refine Chg.drewN ?_ _))
          exact Chg.refl _ _
          all_goals (refine Or.inl ?_; simp)
        · repeat (with_reducible (first | refine Ext.setAbove ?_ ?_ _ | refine Ext.drew ?_ | refine Ext.drewN ?_ _))
          exact HX2.out
          all_goals simp
  · have HR1 := Lib.hid (show R = (ex0, 0, (k1 : Int), er) by rw [HR.out, if_pos her])
    have te : (er == 0) = false := by simpa using her
    have te2 : (er != 0) = true := by simpa using her
    clear HR her
    unfold PartV.val
    go_wp2_with fail
    go_region
    all_goals
      go_wp2_with fail
      refine bodyPost_ret (v := .tuple #[exV0.val, .int .i64 0, .int .i64 k1, .int .i64 er]) (by simp [results, Tryz.results7, go_sem, exV0, ExV.val, exV, b0, b1, b2, b3, b4, b5, hlt0]) rfl ?_
      refine tokensQ_err HR1.out ?_
      repeat (with_reducible (first | refine Ext.setAbove ?_ ?_ _ | refine Ext.drew ?_ | refine Ext.drewN ?_ _ | refine Ext.alloc ?_ _))
      exact HX1.out
      all_goals simp
end Go.Proofs.YtaepiiediblleaaGreatDoor

namespace Go.Proofs.YtaepiiediblleaaGreatDoor
open Go.RowKit

def ExsR (w : World) (l : List Ex) (xs : List ExV) : Prop := l.length = xs.length ∧ ∀ i (h1 : i < l.length) (h2 : i < xs.length), IsEx w l[i] xs[i].val
theorem ExsR.mono {w w' : World} {l : List Ex} {xs : List ExV} (h : ExsR w l xs) (hs : Sub w w') : ExsR w' l xs := ⟨h.1, fun i h1 h2 => (h.2 i h1 h2).mono hs⟩
theorem ExsR.nil (w : World) : ExsR w [] [] := ⟨rfl, fun i h => by simp at h⟩
theorem ExsR.snoc {w : World} {l : List Ex} {xs : List ExV} {e : Ex} {x : ExV} (h : ExsR w l xs) (hx : IsEx w e x.val) : ExsR w (l ++ [e]) (xs ++ [x]) := by
  refine ⟨by simp [h.1], fun i h1 h2 => ?_⟩
  by_cases hi : i < l.length
  · have hi2 : i < xs.length := by rw [← h.1]; exact hi
    simp only [List.getElem_append_left hi, List.getElem_append_left hi2]
    exact h.2 i hi hi2
  · have e1 : i = l.length := by simp at h1; omega
    subst e1
    simp only [List.getElem_append_right (Nat.le_refl _), List.getElem_append_right (show xs.length ≤ l.length by rw [h.1]; exact Nat.le_refl _), Nat.sub_self, List.getElem_cons_zero]
    simpa [h.1] using hx
theorem exV_len (x : ExV) : x.cells.length = 6 := rfl

/-- Expressions in a row that the call owns. -/
theorem exs_owns {w : World} {M : List Nat} {base : Nat} {v : Value} {l : List Ex} {xs : List ExV} (h : w.ownsRow base 28 6 v l.length (xs.flatMap ExV.cells)) (hM : ∀ k, v.ownBlock = some k → k ∉ M) (hR : ExsR (mask w M) l xs) :
    ∃ a c, v = .slice a l.length c ∧ l.length ≤ c ∧ OkAddr a c ∧ ExsD (mask w M) l a := by
  rw [hR.1] at h
  obtain ⟨a, c, rfl, hr⟩ := IsRows.of_owns exV_len h
  refine ⟨a, c, by rw [hR.1], by rw [hR.1]; exact hr.2.1, hr.2.2.1, ?_⟩
  match l, hR with
  | [], _ => unfold ExsD; trivial
  | e :: r, hR =>
    obtain ⟨b, off, rfl, h1⟩ := hr.2.2.2 0 (by rw [← hR.1]; simp)
    refine ExsD.of (e :: r) off xs hR.1 fun i h3 h4 => ⟨fun j hj => ?_, hR.2 i h3 h4⟩
    obtain ⟨b', off', e1, h5⟩ := hr.2.2.2 i h4
    simp only [Option.some.injEq, Addr.mk.injEq, and_true] at e1
    obtain ⟨rfl, rfl⟩ := e1
    rw [mask_cell, if_neg (hM _ rfl), h5 j (by rw [exV_len]; exact hj), List.getElem?_eq_getElem (by rw [exV_len]; exact hj)]

/-- One expression in a block of its own. -/
theorem exs_one {w : World} {M : List Nat} {g : Nat} {e : Ex} {x : ExV} {t : TypeId} (h : w.heap[g]? = some (.cells x.cells.toArray t (0, 0))) (hM : g ∉ M) (hx : IsEx (mask w M) e x.val) : ExsD (mask w M) [e] (some ⟨g, 0, none⟩) := by
  refine ExsD.of [e] 0 [x] rfl fun i h1 h2 => ?_
  obtain rfl : i = 0 := by simp at h1; exact h1
  refine ⟨fun j hj => ?_, hx⟩
  rw [mask_cell, if_neg hM, blk_cell h]
  simp
theorem isEx_not {w : World} {M : List Nat} {g : Nat} {e : Ex} {x : ExV} {t : TypeId} (h : w.heap[g]? = some (.cells x.cells.toArray t (0, 0))) (hM : g ∉ M) (hx : IsEx (mask w M) e x.val) :
    IsEx (mask w M) (.mk 6 ⟨#[]⟩ [] 0 0 [e]) (exV 6 ⟨#[]⟩ none 0 0 0 0 (some ⟨g, 0, none⟩) 1 1) :=
  IsEx.mk ⟨rfl, by omega, Or.inl ⟨rfl, rfl⟩, fun i hi => by simp at hi⟩ rfl (by simp) (Or.inr ⟨g, 0, rfl⟩) (exs_one h hM hx)
/-- An expression is stored into a box. -/
def put6 (w : World) (B : Nat) (x : ExV) : World := (((((w.setCell ⟨B, 0, none⟩ (.int .i64 x.op)).setCell ⟨B, 1, none⟩ (.string x.name)).setCell ⟨B, 2, none⟩ (.slice x.aw x.nw x.cw)).setCell ⟨B, 3, none⟩ (.int .i64 x.lo)).setCell ⟨B, 4, none⟩ (.int .i64 x.hi)).setCell ⟨B, 5, none⟩ (.slice x.aa x.na x.ca)
theorem put6_blk {w : World} {B : Nat} {y : ExV} {t : TypeId} (h : w.heap[B]? = some (.cells y.cells.toArray t (0, 0))) (x : ExV) : (put6 w B x).heap[B]? = some (.cells x.cells.toArray t (0, 0)) := by
  unfold put6
  rw [heap_setCell_same _ _ _ _ _ _ (heap_setCell_same _ _ _ _ _ _ (heap_setCell_same _ _ _ _ _ _ (heap_setCell_same _ _ _ _ _ _ (heap_setCell_same _ _ _ _ _ _ (heap_setCell_same _ _ _ _ _ _ h)))))]
  rfl
theorem put6_chg (w : World) (B : Nat) (x : ExV) {N : List Nat} (h : B ∈ N) : Chg N w (put6 w B x) := by
  unfold put6
  repeat (with_reducible (refine Chg.setCell ?_ ?_ _))
  exact Chg.refl _ _
  all_goals exact Or.inl h
theorem put6_size (w : World) (B : Nat) (x : ExV) : (put6 w B x).heap.size = w.heap.size := by simp [put6]
end Go.Proofs.YtaepiiediblleaaGreatDoor

namespace Go.Proofs.YtaepiiediblleaaGreatDoor
open Go.RowKit

theorem size_pos (e : Ex) : 1 ≤ e.size := by rw [e.size_eq]; omega

/-- Size of the reference: at most 301. -/
def refSize (e : Ex) : Nat := min e.size 301
def refSizes : List Ex → Nat
  | [] => 0
  | e :: r => refSize e + refSizes r
theorem refSizes_le (l : List Ex) : refSizes l ≤ sizes l ∧ l.length ≤ refSizes l ∧ min (1 + refSizes l) 301 = min (1 + sizes l) 301 := by
  induction l with
  | nil => simp [refSizes, sizes]
  | cons e r ih => have := size_pos e; simp only [refSizes, sizes, refSize, List.length_cons]; omega
theorem refSizes_take_succ (l : List Ex) (k : Nat) (hk : k < l.length) : refSizes (l.take (k + 1)) = refSizes (l.take k) + refSize l[k] := by
  induction l generalizing k with
  | nil => simp at hk
  | cons e r ih =>
    cases k with
    | zero => simp [refSizes]
    | succ k => have := ih k (by simpa using hk); simp only [List.take_succ_cons, refSizes, this, List.getElem_cons_succ]; omega
theorem refSize_of {e : Ex} {k : Nat} (hs : k = e.args.length ∨ 300 < 1 + refSizes (e.args.take k)) : min (1 + refSizes (e.args.take k)) 301 = refSize e := by
  have h1 := e.size_eq
  have h2 := refSizes_le (e.args.take k)
  have h3 := sizes_take_le e.args k
  have h4 := refSizes_le e.args
  unfold refSize
  rcases hs with hs | hs
  · rw [hs, List.take_length]; omega
  · omega

set_option maxRecDepth 100000 in
set_option maxHeartbeats 1000000 in
theorem rsize_calls (m : Nat) : ∀ (e : Ex) (v : Value) (w : World), e.size ≤ m → IsEx w e v → Calls Tryz.prog 32 #[v] w (GivesE (.int .i64 (refSize e)) w) := by
  induction m with
  | zero => intro e v w h; have := size_pos e; omega
  | succ m ih =>
    intro e v w hm he
    obtain ⟨aw, nw, cw, aa, na, ca, rfl, hw, hna, hca, ha, hx⟩ := he.parts
    have HX := Lib.hid hx
    have HN := Lib.hid hna
    have hS : e.size = 1 + sizes e.args := e.size_eq
    have hb2 : sizes e.args ≤ m := by omega
    have H : Hid (∀ (e : Ex) (v : Value) (w : World), e.size ≤ m → IsEx w e v → Calls Tryz.prog 32 #[v] w (GivesE (.int .i64 (refSize e)) w)) := ih
    clear ih hx hna hw hca ha he hS hm
    unfold exV
    go_enter Tryz.func32, Tryz.ntmps32
    go_wp2_with fail
    go_loopw [3, 4] (fun s i wr => ∃ k : Nat, k ≤ na ∧ i = .int .i64 k ∧ s = .int .i64 (1 + (refSizes (e.args.take k) : Int)) ∧ refSizes (e.args.take k) ≤ 601 ∧ wr.heap[w.heap.size]? = some (.cells #[.int .i64 e.op, .string e.name, .slice aw nw cw, .int .i64 e.lo, .int .i64 e.hi, .slice aa na ca] 28 (0, 0)) ∧ Ext w wr) (fun _ i _ => na - (intOf i).toNat)
    case atStart => exact ⟨0, by omega, rfl, by simp [refSizes], by simp [refSizes], alloc_new w _, (Ext.refl w).alloc _⟩
    case round =>
      obtain ⟨k, hk, rfl, rfl, hb6, hbx, hb⟩ := hrel
      have HBX := Lib.hid hbx
      have HB := Lib.hid hb
      have hlt0 := blk_lt hbx
      obtain ⟨b0, b1, b2, b3, b4, b5, bf⟩ := blk6 hbx
      have hkl : k ≤ refSizes (e.args.take k) := by have := (refSizes_le (e.args.take k)).2.1; have hl := HN.out; rw [List.length_take] at this; omega
      clear hbx hb
      by_cases hlt : k < na
      · have hlt' : k < e.args.length := by have := HN.out; omega
        by_cases hc : refSizes (e.args.take k) ≤ 299
        · have t1 : decide ((k : Int) < (na : Int)) = true := by simp; omega
          have t2 : decide (1 + (refSizes (e.args.take k) : Int) ≤ 300) = true := by simp; omega
          obtain ⟨b, off, rfl, aw1, nw1, cw1, aa1, na1, ca1, h0, h1, h2, h3, h4, h5, h6⟩ := ExsD.at e.args _ (ExsD.ext HB.out e.args _ HX.out) k hlt'
          have H6 := Lib.hid h6
          have hs1 := Lib.hid (refSizes_take_succ e.args k hlt')
          have hsz := sizes_take_succ e.args k hlt'
          have hsl := sizes_take_le e.args (k + 1)
          have hk1 : e.args[k].size ≤ m := by omega
          have hr : refSize e.args[k] ≤ 301 := by unfold refSize; omega
          clear h6 hsz hsl
          go_wp2_with fail
          refine (H.out e.args[k] _ _ hk1 H6.out).mono ?_
          rintro r w1 ⟨rfl, hb1⟩
          have HE1 := Lib.hid hb1
          clear b0 b1 b2 b3 b4 b5 bf hb1
          go_wp2_with fail
          go_roundw
          case rel => exact ⟨k + 1, by omega, by go_num, by rw [hs1.out]; go_num, by rw [hs1.out]; omega, HE1.out.blk HBX.out, HB.out.trans HE1.out⟩
          case measure => simp [intOf]; omega
        · have t1 : decide ((k : Int) < (na : Int)) = true := by simp; omega
          have t2 : decide (1 + (refSizes (e.args.take k) : Int) ≤ 300) = false := by simp; omega
          have H1 := Lib.hid (refSize_of (e := e) (k := k) (Or.inr (by omega)))
          go_wp2_with fail
          all_goals (go_ret; exact givesE_int (by rw [← H1.out]; omega) HB.out)
      · have t1 : decide ((k : Int) < (na : Int)) = false := by simp; omega
        have H1 := Lib.hid (refSize_of (e := e) (k := k) (Or.inl (by have := HN.out; omega)))
        go_wp2_with fail
        all_goals (go_ret; exact givesE_int (by rw [← H1.out]; omega) HB.out)
set_option maxRecDepth 100000 in
set_option maxHeartbeats 1000000 in
theorem deeper_calls (m : Nat) : ∀ (e : Ex) (v : Value) (w : World) (n : Nat), e.size ≤ m → m ≤ 1000000000000000 → n ≤ 1000 → IsEx w e v → Calls Tryz.prog 45 #[v, .int .i64 n] w (GivesE (.bool (decide (n < e.depth))) w) := by
  induction m with
  | zero => intro e v w n h; have := size_pos e; omega
  | succ m ih =>
    intro e v w n hm hMM hn he
    obtain ⟨aw, nw, cw, aa, na, ca, rfl, hw, hna, hca, ha, hx⟩ := he.parts
    have HX := Lib.hid hx
    have HN := Lib.hid hna
    have HD := Lib.hid e.depth_eq
    have hS : e.size = 1 + sizes e.args := e.size_eq
    have hb2 : sizes e.args ≤ m := by omega
    have hla := length_le_sizes e.args
    have H : Hid (∀ (e : Ex) (v : Value) (w : World) (n : Nat), e.size ≤ m → n ≤ 1000 → IsEx w e v → Calls Tryz.prog 45 #[v, .int .i64 n] w (GivesE (.bool (decide (n < e.depth))) w)) := fun e v w n h1 h2 h3 => ih e v w n h1 (by omega) h2 h3
    clear ih hx hna hw hca ha he hS hm
    unfold exV
    by_cases hn0 : n = 0
    · have t1 : ((n : Int) == 0) = true := by simp [hn0]
      have H1 := Lib.hid (show decide (n < e.depth) = true by rw [decide_eq_true_eq, HD.out]; omega)
      generalize decide (n < e.depth) = B at *
      go_enter Tryz.func45, Tryz.ntmps45
      go_wp2_with fail
      go_ret
      exact givesE_bool (by rw [H1.out]) ((Ext.refl w).alloc _)
    · have hn1 : 1 ≤ n := by omega
      have t1 : ((n : Int) == 0) = false := by simp; omega
      obtain ⟨B, hB⟩ : ∃ B, B = decide (n < e.depth) := ⟨_, rfl⟩
      rw [← hB]
      have HBQ := Lib.hid hB
      clear hB
      go_enter Tryz.func45, Tryz.ntmps45
      go_wp2_with fail
      go_loopw [5] (fun i wr => ∃ k : Nat, k ≤ na ∧ i = .int .i64 k ∧ (∀ j (hj : j < e.args.length), j < k → ¬ n - 1 < e.args[j].depth) ∧ wr.heap[w.heap.size]? = some (.cells #[.int .i64 e.op, .string e.name, .slice aw nw cw, .int .i64 e.lo, .int .i64 e.hi, .slice aa na ca] 28 (0, 0)) ∧ Ext w wr) (fun i _ => na - (intOf i).toNat)
      case atStart => exact ⟨0, by omega, rfl, fun j _ h => by omega, alloc_new w _, (Ext.refl w).alloc _⟩
      case round =>
        obtain ⟨k, hk, rfl, hall, hbx, hb⟩ := hrel
        have HA := Lib.hid hall
        have HBX := Lib.hid hbx
        have HB := Lib.hid hb
        have hlt0 := blk_lt hbx
        obtain ⟨b0, b1, b2, b3, b4, b5, bf⟩ := blk6 hbx
        clear hbx hb hall
        by_cases hlt : k < na
        · have hlt' : k < e.args.length := by have := HN.out; omega
          obtain ⟨b, off, rfl, aw1, nw1, cw1, aa1, na1, ca1, h0, h1, h2, h3, h4, h5, h6⟩ := ExsD.at e.args _ (ExsD.ext HB.out e.args _ HX.out) k hlt'
          have H6 := Lib.hid h6
          have hsz := sizes_take_succ e.args k hlt'
          have hsl := sizes_take_le e.args (k + 1)
          have hk1 : e.args[k].size ≤ m := by omega
          have HM1 := Lib.hid (depths_mem (List.getElem_mem hlt'))
          clear h6 hsz hsl
          have HCA := Lib.hid (show (n : Int) - 1 = ((n - 1 : Nat) : Int) by omega)
          go_wp2_with fail
          rw [HCA.out]
          refine (H.out e.args[k] _ _ (n - 1) hk1 (by omega) H6.out).mono ?_
          rintro r w1 ⟨rfl, hb1⟩
          have HE1 := Lib.hid hb1
          clear b0 b1 b2 b3 b4 b5 bf hb1
          by_cases hdp : n - 1 < e.args[k].depth
          · rw [decide_eq_true hdp]
            have H1 := Lib.hid (show B = true by rw [HBQ.out, decide_eq_true_eq, HD.out]; have := HM1.out; omega)
            clear hdp
            go_wp2_with fail
            go_ret
            exact givesE_bool (by rw [H1.out]) (HB.out.trans HE1.out)
          · rw [decide_eq_false hdp]
            have HND := Lib.hid hdp
            clear hdp
            go_wp2_with fail
            go_roundw
            case rel =>
              refine ⟨k + 1, by omega, by go_num, fun j hj hjk => ?_, HE1.out.blk HBX.out, HB.out.trans HE1.out⟩
              by_cases ej : j = k
              · subst ej; exact HND.out
              · exact HA.out j hj (by omega)
            case measure => simp [intOf]; omega
        · have H1 := Lib.hid (show B = false by
            rw [HBQ.out, decide_eq_false_iff_not, HD.out]
            have : ∀ l : List Ex, (∀ x ∈ l, ¬ n - 1 < x.depth) → depths l ≤ n - 1 := by
              intro l
              induction l with
              | nil => intro _; simp [depths]
              | cons y r ih =>
                intro h
                have h1 := h y (by simp)
                have h2 := ih (fun x hx => h x (List.mem_cons_of_mem _ hx))
                simp only [depths]; omega
            have := this e.args (fun x hx => by
              obtain ⟨j, hj, rfl⟩ := List.getElem_of_mem hx
              exact HA.out j hj (by have := HN.out; omega))
            omega)
          go_wp2_with fail
          go_ret
          exact givesE_bool (by rw [H1.out]) HB.out

set_option maxRecDepth 100000 in
theorem sameWords_calls (l1 l2 : List ByteArray) (a1 a2 : Option Addr) (n1 c1 n2 c2 : Nat) (w : World) (h1 : IsStrs w l1 a1 n1 c1) (h2 : IsStrs w l2 a2 n2 c2) (hn : n1 ≤ 1000000000000000) :
    Calls Tryz.prog 23 #[.slice a1 n1 c1, .slice a2 n2 c2] w (GivesD (.bool (decide (l1 = l2))) w) := by
  have HL1 := Lib.hid h1
  have HL2 := Lib.hid h2
  have hn1 := Lib.hid h1.1
  have hn2 := Lib.hid h2.1
  obtain ⟨B, hB⟩ : ∃ B, B = decide (l1 = l2) := ⟨_, rfl⟩
  rw [← hB]
  have HBQ := Lib.hid hB
  clear h1 h2 hB
  by_cases he : n1 = n2
  · have t1 : ((n1 : Int) != (n2 : Int)) = false := by simp [he]
    have t2 : (n1 != n2) = false := by simp [he]
    have hle : n1 ≤ n2 := by omega
    have HEQ := Lib.hid he
    clear he
    go_enter Tryz.func23, Tryz.ntmps23
    go_wp2_with fail
    go_loopw [5] (fun t wr => ∃ k : Nat, t = .int .i64 k ∧ k ≤ n1 ∧ (∀ j (hj : j < l1.length) (hj2 : j < l2.length), j < k → l1[j] = l2[j]) ∧ ∃ q, wr = w.drewN q) (fun t _ => n1 - (intOf t).toNat)
    case atStart => exact ⟨0, rfl, by omega, fun j _ _ h => by omega, 0, rfl⟩
    case round =>
      obtain ⟨k, rfl, hk, hal, q, rfl⟩ := hrel
      have HA := Lib.hid hal
      clear hal
      by_cases hlt : k < n1
      · have hk1 : k < l1.length := by have := hn1.out; omega
        have hk2 : k < l2.length := by have := hn2.out; omega
        obtain ⟨b, off, rfl, hc1⟩ := HL1.out.2.2.2 k hk1
        obtain ⟨b', off', rfl, hc2⟩ := HL2.out.2.2.2 k hk2
        have ti0 : (0 : Int) ≤ (k : Int) := by omega
        have ti1 : (k : Int) < (n1 : Int) := by omega
        have tj1 : (k : Int) < (n2 : Int) := by omega
        have tj2 : k < n2 := by omega
        cases hx : (l1[k].toList == l2[k].toList)
        · have H1 := Lib.hid (show B = false by
            rw [HBQ.out, decide_eq_false_iff_not]
            intro e
            subst e
            simp at hx)
          have hx2 : (l1[k].toList != l2[k].toList) = true := by simp only [bne, hx]; rfl
          go_wp2_with fail
          go_quiet (fail)
          go_wp2_with fail
          go_ret
          exact givesD_bool (by rw [H1.out]) ⟨_, drewN_drewN _ _ _⟩
        · have HQ := Lib.hid hx
          have hx2 : (l1[k].toList != l2[k].toList) = false := by simp only [bne, hx]; rfl
          go_wp2_with fail
          go_quiet (fail)
          go_wp2_with fail
          go_roundw
          case rel =>
            refine ⟨k + 1, by go_num, by omega, fun j hj hj2 hjk => ?_, _, rfl⟩
            by_cases e : j = k
            · subst e; exact toList_inj (beq_iff_eq.1 HQ.out)
            · exact HA.out j hj hj2 (by omega)
          case measure => simp [intOf]; omega
      · have H1 := Lib.hid (show B = true by
          rw [HBQ.out, decide_eq_true_eq]
          have e1 := hn1.out
          have e2 := hn2.out
          have e3 := HEQ.out
          exact List.ext_getElem (by omega) (fun j hj hj2 => HA.out j hj hj2 (by omega)))
        go_wp2_with fail
        go_ret
        exact givesD_bool (by rw [H1.out]) ⟨q, rfl⟩
  · have t1 : ((n1 : Int) != (n2 : Int)) = true := by simp [bne_iff_ne]; omega
    have t2 : (n1 != n2) = true := by simp [bne_iff_ne]; omega
    have H1 := Lib.hid (show B = false by
      rw [HBQ.out, decide_eq_false_iff_not]
      intro e
      have e1 := hn1.out
      have e2 := hn2.out
      rw [e] at e1
      omega)
    go_enter Tryz.func23, Tryz.ntmps23
    go_wp2_with fail
    go_ret
    exact givesD_bool (by rw [H1.out]) ⟨0, rfl⟩
end Go.Proofs.YtaepiiediblleaaGreatDoor

namespace Go.Proofs.YtaepiiediblleaaGreatDoor
open Go.RowKit

/-- The reference's look at one node; na, nw: the numbers of arguments and of words. -/
def refNode (op : Int) (name : ByteArray) (words : List ByteArray) (lo hi : Int) (na nw : Nat) : Bool :=
  decide (1 ≤ op ∧ op ≤ 8) && (if op == 3 || op == 4 || op == 5 then nameB name else name.toList.isEmpty) && (if op == 4 then decide (1 ≤ nw) && decide (nw ≤ 12) && words.all nameB && decide words.Nodup else decide (nw = 0)) &&
  (if op == 5 then numberB lo && numberB hi && decide (lo ≤ hi) else (lo == 0) && (hi == 0)) && (if op == 6 then decide (na = 1) else if op == 7 || op == 8 then decide (2 ≤ na) else decide (na = 0))
def refNodeB (e : Ex) : Bool := refNode e.op e.name e.words e.lo e.hi e.args.length e.words.length

theorem int_beq0 (n : Nat) : ((n : Int) == 0) = decide (n = 0) := by rw [Bool.eq_iff_iff]; simp
theorem int_beq1 (n : Nat) : ((n : Int) == 1) = decide (n = 1) := by rw [Bool.eq_iff_iff]; simp; omega
set_option maxRecDepth 100000 in
set_option maxHeartbeats 4000000 in
theorem rnode_calls (e : Ex) (v : Value) (w : World) (he : IsEx w e v) (hs : e.name.size ≤ 1000000000000000) (hws : ∀ x ∈ e.words, x.size ≤ 1000000000000000) (hnw : e.words.length ≤ 1000000000000000) :
    Calls Tryz.prog 84 #[v] w (GivesE (.bool (refNodeB e)) w) := by
  obtain ⟨aw, nw, cw, aa, na, ca, rfl, hw, hna, hca, ha, hx⟩ := he.parts
  clear he hx ha hca
  have HW := Lib.hid hw
  have HS := Lib.hid hws
  have hnw' : nw ≤ 1000000000000000 := by have := hw.1; omega
  have HB := Lib.hid (show refNodeB e = refNode e.op e.name e.words e.lo e.hi na nw by unfold refNodeB; rw [hna, hw.1])
  generalize refNodeB e = B at *
  clear hw hws hna hnw
  obtain ⟨op, name, words, lo, hi, args⟩ := e
  simp only [Ex.op, Ex.name, Ex.words, Ex.lo, Ex.hi] at *
  unfold exV
  by_cases h1 : 1 ≤ op
  · by_cases h8 : op ≤ 8
    · have hk : op = 1 ∨ op = 2 ∨ op = 3 ∨ op = 4 ∨ op = 5 ∨ op = 6 ∨ op = 7 ∨ op = 8 := by omega
      clear h1 h8
      rcases hk with rfl | rfl | rfl | rfl | rfl | rfl | rfl | rfl
      case inr.inr.inr.inl =>
        obtain ⟨P, hP⟩ : ∃ P, P = words.all nameB := ⟨_, rfl⟩
        obtain ⟨Q, hQ⟩ : ∃ Q, Q = decide words.Nodup := ⟨_, rfl⟩
        have HP := Lib.hid hP
        have HQ := Lib.hid hQ
        have HB2 := Lib.hid (show B = (nameB name && (decide (1 ≤ nw) && decide (nw ≤ 12) && P && Q) && ((lo == 0) && (hi == 0)) && decide (na = 0)) by rw [HB.out]; unfold refNode; rw [hP, hQ]; simp)
        clear hP hQ HB
        cases P
        all_goals cases Q
        all_goals
          by_cases hn1 : 1 ≤ nw
          · by_cases hn2 : nw ≤ 12
            · have t1 : decide ((nw : Int) < 1) = false := by simp; omega
              have t2 : decide ((12 : Int) < nw) = false := by simp; omega
              have HB3 := Lib.hid HB2.out
              simp only [hn1, hn2, decide_true, Bool.false_and, Bool.and_false, Bool.and_true] at HB3
              clear HB2
              go_enter Tryz.func84, Tryz.ntmps84
              go_wp2_with (first
                | (go_at_call 105; refine (rname_calls _ _ hs).mono ?_; rintro e w' ⟨rfl, rfl⟩)
                | (go_at_call 106; refine (names_calls words _ _ _ _ (HW.out.ext ((Ext.refl w).alloc _)) hnw' HS.out).mono ?_; rintro e w' ⟨rfl, rfl⟩; rw [← HP.out])
                | (go_at_call 107; refine (distinct_calls words _ _ _ _ (HW.out.ext ((Ext.refl w).alloc _)) hnw').mono ?_; rintro e w' ⟨rfl, q, rfl⟩; rw [← HQ.out]))
              all_goals (go_ret; exact givesE_bool (by first | (rw [HB3.out]; done) | (rw [HB3.out]; simp_all [int_beq0])) (by first | exact (Ext.refl w).alloc _ | exact ((Ext.refl w).alloc _).drewN _))
            · have t1 : decide ((nw : Int) < 1) = false := by simp; omega
              have t2 : decide ((12 : Int) < nw) = true := by simp; omega
              have HF := Lib.hid (show B = false by rw [HB2.out]; simp [hn2])
              clear HB2
              go_enter Tryz.func84, Tryz.ntmps84
              go_wp2_with (go_at_call 105; refine (rname_calls _ _ hs).mono ?_; rintro e w' ⟨rfl, rfl⟩)
              all_goals (go_ret; exact givesE_bool (by rw [HF.out]) ((Ext.refl w).alloc _))
          · have t1 : decide ((nw : Int) < 1) = true := by simp; omega
            have HF := Lib.hid (show B = false by rw [HB2.out]; simp [hn1])
            clear HB2
            go_enter Tryz.func84, Tryz.ntmps84
            go_wp2_with (go_at_call 105; refine (rname_calls _ _ hs).mono ?_; rintro e w' ⟨rfl, rfl⟩)
            all_goals (go_ret; exact givesE_bool (by rw [HF.out]) ((Ext.refl w).alloc _))
      all_goals
        go_enter Tryz.func84, Tryz.ntmps84
        go_wp2_with (first
          | (go_at_call 105; refine (rname_calls _ _ hs).mono ?_; rintro e w' ⟨rfl, rfl⟩)
          | (go_at_call 108; refine (far_calls _ _).mono ?_; rintro e w' ⟨rfl, rfl⟩))
        all_goals (go_ret; exact givesE_bool (by rw [HB.out]; simp_all [refNode, int_beq0, int_beq1]; try omega) ((Ext.refl w).alloc _))
    · have H := Lib.hid (show B = false by rw [HB.out]; simp [refNode, h8])
      have t1 : decide (op < 1) = false := by simp; omega
      have t2 : decide (8 < op) = true := by simp; omega
      have e3 : (op == 3) = false := by simp; omega
      have e4 : (op == 4) = false := by simp; omega
      have e5 : (op == 5) = false := by simp; omega
      go_enter Tryz.func84, Tryz.ntmps84
      go_wp2_with fail
      go_ret
      exact givesE_bool (by rw [H.out]) ((Ext.refl w).alloc _)
  · have H := Lib.hid (show B = false by rw [HB.out]; simp [refNode, h1])
    have t1 : decide (op < 1) = true := by simp; omega
    have e3 : (op == 3) = false := by simp; omega
    have e4 : (op == 4) = false := by simp; omega
    have e5 : (op == 5) = false := by simp; omega
    go_enter Tryz.func84, Tryz.ntmps84
    go_wp2_with fail
    go_ret
    exact givesE_bool (by rw [H.out]) ((Ext.refl w).alloc _)
end Go.Proofs.YtaepiiediblleaaGreatDoor
