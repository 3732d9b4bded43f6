import Derived.Test.YtaepiiediblleaaDoorLevel9
namespace Go.Proofs.YtaepiiediblleaaDoor
open Go.RowKit

theorem operand_ps {toks : List Tok} {ta : Option Addr} {tn tc : Nat} {w0 w : World} {bp k : Nat} {li : List Lvl} {t : Lvl} {M X : List Nat} (h : PS toks ta tn tc w0 w bp k li t M X) (ho : HasOps w0) :
    Calls Tryd.prog 77 #[.pointer (some ⟨bp, 0, none⟩)] w (fun e w' => ∃ v : PartV, e = .returned (.tuple #[v.val, .int .i64 (operandF toks k).2.1]) ∧ PartR (mask w' (X ++ M)) (operandF toks k).1 v ∧ PS toks ta tn tc w0 w' bp (operandF toks k).2.2 li t M X ∧ Chg M w w') := by
  obtain ⟨vl, l, x, hI, hll⟩ := h
  refine (operand_calls hI.pc ho).mono ?_
  rintro e w' ⟨v, he, h1, h2, h3⟩
  exact ⟨v, he, h1 (X ++ M) hI.hKlt, ⟨vl, l, x, hI.step h2 h3 (operandF_ge0 toks k), hll⟩, h2.mono (by rw [hI.hM]; simp)⟩

theorem PS.pot {toks : List Tok} {ta : Option Addr} {tn tc : Nat} {w0 w : World} {bp k : Nat} {li : List Lvl} {t : Lvl} {M X : List Nat} (h : PS toks ta tn tc w0 w bp k li t M X) : potAll (li ++ [t]) ≤ 2 * k ∧ k ≤ tn ∧ tn ≤ 1000000 ∧ (Tidy t.ands ∧ Tidy t.ors) ∧ (∀ y ∈ M, y < w.heap.size) ∧ bp ∈ M ∧ bp < w.heap.size := by
  obtain ⟨vl, l, x, hI, hll⟩ := h
  have hbM : bp ∈ M := by rw [hI.hM]; simp
  exact ⟨hI.pot, hI.pc.hk, hI.small, hI.tidy t (by simp), fun y hy => hI.hKlt y (hI.hK y hy), hbM, hI.hKlt bp (hI.hK bp hbM)⟩
theorem PS.ext {toks : List Tok} {ta : Option Addr} {tn tc : Nat} {w0 w : World} {bp k : Nat} {li : List Lvl} {t : Lvl} {M X : List Nat} (h : PS toks ta tn tc w0 w bp k li t M X) {w' : World} (hx : Ext w w') : PS toks ta tn tc w0 w' bp k li t M X := by
  obtain ⟨vl, l, x, hI, hll⟩ := h
  exact ⟨vl, l, x, hI.ext hx, hll⟩

theorem PS.more {toks : List Tok} {ta : Option Addr} {tn tc : Nat} {w0 w : World} {bp k : Nat} {li : List Lvl} {t : Lvl} {M X : List Nat} (h : PS toks ta tn tc w0 w bp k li t M X) {w' : World} (hx : Ext w w') (hs : w.heap.size < w'.heap.size) : PS toks ta tn tc w0 w' bp k li t M (w.heap.size :: X) := by
  obtain ⟨vl, l, x, hI, hll⟩ := h
  refine ⟨vl, l, x, hI.chg (hx.chg []) (by simp) (by simp) (mask_sub_mask fun y hy hn => ⟨?_, hx.block y hy⟩) (fun y hy => List.mem_append_right _ hy) (fun y hy => ?_), hll⟩
  · rw [List.cons_append, List.mem_cons, not_or]; exact ⟨by omega, hn⟩
  · rw [List.cons_append] at hy
    rcases List.mem_cons.1 hy with rfl | hy
    · exact hs
    · have := hI.hKlt y hy; omega

theorem PS.acceptY {toks : List Tok} {ta : Option Addr} {tn tc : Nat} {w0 w : World} {bp k : Nat} {li : List Lvl} {t : Lvl} {M X : List Nat} (h : PS toks ta tn tc w0 w bp k li t M X) {kind : Int} {text : ByteArray} (ha : acceptB toks k kind text = true) :
    Calls Tryd.prog 81 #[.pointer (some ⟨bp, 0, none⟩), .int .i64 kind, .string text] w (fun e w' => e = .returned (.bool true) ∧ Chg [bp] w w' ∧ PS toks ta tn tc w0 w' bp (k + 1) li t M X ∧ k + 1 ≤ tn) := by
  obtain ⟨vl, l, x, hI, hll⟩ := h
  refine (hI.pc.acceptY ha).mono ?_
  rintro e w' ⟨he, h1, h2⟩
  exact ⟨he, h1, ⟨vl, l, x, hI.step h1 h2 (by omega), hll⟩, h2.hk⟩

/-- closed: the levels that stay. -/
theorem closed_ps {toks : List Tok} {ta : Option Addr} {tn tc : Nat} {w0 w : World} {bp k : Nat} {li : List Lvl} {t : Lvl} {M X : List Nat} (h : PS toks ta tn tc w0 w bp k li t M X) :
    Calls Tryd.prog 80 #[.pointer (some ⟨bp, 0, none⟩)] w (fun e w' => ∃ (v : PartV) (a : Option Addr) (cap : Nat) (M' : List Nat) (vl' : Value), e = .returned v.val ∧ vl' = .slice a li.length cap ∧ PC toks ta tn tc w0 w' bp k vl' ∧ PartR (mask w' (X ++ M')) (wholeF t) v ∧ Chg M w w' ∧ (∀ y ∈ M', y ∈ M) ∧ bp ∈ M' ∧
      (∀ li' t', li = li' ++ [t'] → PS toks ta tn tc w0 w' bp k li' t' M' X)) := by
  obtain ⟨vl, l, x, hI, hll⟩ := h
  refine (closed_calls hI hll).mono ?_
  rintro e w' ⟨v, vl', M', he, h1, h2, h3, h4⟩
  obtain ⟨a, cap, e2, -⟩ := IsRows.of_owns (f := LvlV.cells) (fun _ => rfl) h1.own
  rw [← h1.len] at e2
  refine ⟨v, a, cap, M', vl', he, e2, h1.pc, h2, h3, h4, by rw [h1.hM]; simp, fun li' t' e1 => ?_⟩
  subst e1
  have hl0 : 0 < l.length := by rw [← hll]; simp
  obtain ⟨l', x', rfl⟩ : ∃ l' x', l = l' ++ [x'] := ⟨l.dropLast, l.getLast (by intro e; simp [e] at hl0), (List.dropLast_concat_getLast _).symm⟩
  exact ⟨_, l', x', h1, by simpa using hll⟩

/-- What expression hands back. -/
def ExprQ (R : Part × Int × Nat) (ta : Option Addr) (tn tc : Nat) (w : World) (bp : Nat) (M X : List Nat) (e : Ending) (w' : World) : Prop :=
  ∃ (v : PartV) (vl' : Value), e = .returned (.tuple #[v.val, .int .i64 R.2.1]) ∧ PartR (mask w' X) R.1 v ∧ PB w' bp ta tn tc R.2.2 vl' ∧ Chg M w w'

def OuterI (R : Part × Int × Nat) (toks : List Tok) (ta : Option Addr) (tn tc : Nat) (w0 wb : World) (bp : Nat) (M X : List Nat) (m : Nat) (_ : Value) (wr : World) : Prop :=
  ∃ k li t M' f, PS toks ta tn tc w0 wr bp k li t M' X ∧ Chg M wb wr ∧ (∀ y ∈ M', y ∈ M ∨ wb.heap.size ≤ y) ∧ m = tn - k ∧ 2 * (tn - k) + 2 ≤ f ∧ runF toks tn f true k li t = R
def InnerI (R : Part × Int × Nat) (toks : List Tok) (ta : Option Addr) (tn tc : Nat) (w0 wb : World) (bp : Nat) (M X : List Nat) (k0 m : Nat) (_ : Value) (wr : World) : Prop :=
  ∃ k li t M' f, PS toks ta tn tc w0 wr bp k li t M' X ∧ Chg M wb wr ∧ (∀ y ∈ M', y ∈ M ∨ wb.heap.size ≤ y) ∧ m = tn - k ∧ 2 * (tn - k) + 1 ≤ f ∧ runF toks tn f false k li t = R ∧ t.ands ≠ [] ∧ k0 < k

theorem Moves.on {toks : List Tok} {ta : Option Addr} {tn tc : Nat} {w0 wb w : World} {bp k : Nat} {li : List Lvl} {t : Lvl} {M M1 X : List Nat} {w' : World} (h : Moves toks ta tn tc w0 w bp k li t M1 X w') (hc : Chg M wb w) (hM : ∀ y ∈ M1, y ∈ M ∨ wb.heap.size ≤ y) : ∃ M', PS toks ta tn tc w0 w' bp k li t M' X ∧ Chg M wb w' ∧ ∀ y ∈ M', y ∈ M ∨ wb.heap.size ≤ y := by
  obtain ⟨M', h1, h2, h3⟩ := h
  refine ⟨M', h1, hc.trans h2 hM, fun y hy => ?_⟩
  rcases h3 y hy with h | h
  · exact hM y h
  · exact Or.inr (Nat.le_trans hc.size h)

theorem exprQ_mk {R : Part × Int × Nat} {ta : Option Addr} {tn tc : Nat} {w w2 W : World} {bp k : Nat} {M X : List Nat} {q : Part} {er : Int} {v : PartV} {vl : Value} (hcw : Chg M w w2) (hcW : Chg [w.heap.size] w2 W) (hb : PB w2 bp ta tn tc k vl) (hbp : bp < w.heap.size) (hR : R = (q, er, k)) (hv : PartR (mask W X) q v) :
    ExprQ R ta tn tc w bp M X (.returned (.tuple #[v.val, .int .i64 er])) W := by
  subst hR
  exact ⟨v, vl, rfl, hv, hcW.blk hb (by simp; omega), hcw.trans hcW (by simp)⟩

set_option maxRecDepth 100000 in
set_option maxHeartbeats 4000000 in
theorem expression_calls {toks : List Tok} {ta : Option Addr} {tn tc : Nat} {w0 w : World} {bp k : Nat} {li : List Lvl} {t : Lvl} {M X : List Nat} (h : PS toks ta tn tc w0 w bp k li t M X) (ho : HasOps w0) :
    Calls Tryd.prog 56 #[.pointer (some ⟨bp, 0, none⟩)] w (ExprQ (runF toks tn (2 * (tn - k) + 2) true k li t) ta tn tc w bp M X) := by
  obtain ⟨R, hR⟩ : ∃ R, R = runF toks tn (2 * (tn - k) + 2) true k li t := ⟨_, rfl⟩
  rw [← hR]
  have HS := Lib.hid h
  have HO := Lib.hid ho
  have HR := Lib.hid hR
  have HB := Lib.hid (show ∀ o, Ext w (w.alloc o) from fun o => (Ext.refl w).alloc o)
  clear h ho hR
  go_enter Tryd.func56, Tryd.ntmps56
  go_wp2_with fail
  have hBR := Lib.hid (alloc_new w (.cells #[.int .i64 0, .string ⟨#[]⟩, .slice none 0 0, .int .i64 0, .int .i64 0, .slice none 0 0, .int .i64 0, .int .i64 0] 96))
  have hEB := Lib.hid (HB.out (.cells #[.int .i64 0, .string ⟨#[]⟩, .slice none 0 0, .int .i64 0, .int .i64 0, .slice none 0 0, .int .i64 0, .int .i64 0] 96))
  have hML := Lib.hid HS.out.pot.2.2.2.2.1
  have hbw := HS.out.pot.2.2.2.2.2.2
  have hwb : (w.alloc (.cells #[.int .i64 0, .string ⟨#[]⟩, .slice none 0 0, .int .i64 0, .int .i64 0, .slice none 0 0, .int .i64 0, .int .i64 0] 96)).heap.size = w.heap.size + 1 := by simp
  have HWB := Lib.hid hwb
  clear hwb
  generalize w.alloc (.cells #[.int .i64 0, .string ⟨#[]⟩, .slice none 0 0, .int .i64 0, .int .i64 0, .slice none 0 0, .int .i64 0, .int .i64 0] 96) = wb at *
  go_loopg [3] (tn - k) (OuterI R toks ta tn tc w0 wb bp M (w.heap.size :: X))
  case atStart => exact ⟨k, li, t, M, _, HS.out.more hEB.out (by have := HWB.out; omega), Chg.refl _ _, fun y hy => Or.inl hy, rfl, Nat.le_refl _, HR.out.symm⟩
  case round =>
    clear HS HR HB
    obtain ⟨k1, l1, t1, M1, f1, hps, hc, hMM, hm, hf, hrun⟩ := hrel
    have HS := Lib.hid hps
    have HC := Lib.hid hc
    have HMM := Lib.hid hMM
    have HM := Lib.hid hm
    have HRUN := Lib.hid hrun
    have hkt := hps.pot.2.1
    clear hps hc hMM hm hrun
    go_wp2_with fail
    refine (prefix_calls HS.out HO.out).mono ?_
    rintro r w1 ⟨rfl, hmv⟩
    have hpg := prefixF_ge toks (tn - k1 + 1) k1 l1 t1
    obtain ⟨f, rfl⟩ : ∃ f, f1 = f + 1 := ⟨f1 - 1, by omega⟩
    have HRUN2 := Lib.hid (show (if (operandF toks (prefixF toks (tn - k1 + 1) k1 l1 t1).1).2.1 ≠ 0 then (⟨ex0, 0, 0⟩, (operandF toks (prefixF toks (tn - k1 + 1) k1 l1 t1).1).2.1, (operandF toks (prefixF toks (tn - k1 + 1) k1 l1 t1).1).2.2) else runF toks tn f false (operandF toks (prefixF toks (tn - k1 + 1) k1 l1 t1).1).2.2 (prefixF toks (tn - k1 + 1) k1 l1 t1).2.1 (withPart (prefixF toks (tn - k1 + 1) k1 l1 t1).2.2 (operandF toks (prefixF toks (tn - k1 + 1) k1 l1 t1).1).1)) = R from HRUN.out)
    clear HRUN
    generalize prefixF toks (tn - k1 + 1) k1 l1 t1 = A at *
    obtain ⟨k2, l2, t2⟩ := A
    obtain ⟨M2, hps2, hc2, hMM2⟩ := Moves.on (M1 := M1) (show Moves toks ta tn tc w0 _ bp k2 l2 t2 M1 (w.heap.size :: X) w1 from hmv) HC.out HMM.out
    have HS2 := Lib.hid hps2
    have HC2 := Lib.hid hc2
    have HMM2 := Lib.hid hMM2
    clear HS HC HMM hmv hps2 hc2 hMM2
    simp only at HRUN2 hpg
    go_wp2_with fail
    refine (operand_ps HS2.out HO.out).mono ?_
    rintro r w2 ⟨v, rfl, hpv, hps3, hc3⟩
    have hpt2 := HS2.out.pot
    have HC3 := Lib.hid (HC2.out.trans hc3 HMM2.out)
    have hB2 := HC3.out.blk hBR.out (fun h' => Nat.lt_irrefl _ (hML.out _ h'))
    have HOK := Lib.hid (operandF_ok toks k2)
    generalize operandF toks k2 = O at *
    obtain ⟨pp, er, k3⟩ := O
    simp only at hpv hps3 HRUN2
    have HV := Lib.hid hpv
    have HS3 := Lib.hid hps3
    obtain ⟨p0, p1, p2, p3, p4, p5, p6, p7, pf⟩ := blk8 hB2
    have hz2 := blk_lt hB2
    have HB2 := Lib.hid hB2
    clear hpv hps3 hc3 hB2 HS2 HC2
    by_cases her : er = 0
    · subst her
      obtain ⟨hsz, hdp, hkk⟩ := HOK.out rfl
      have HSZ := Lib.hid hsz
      have HDP := Lib.hid hdp
      have HR3 := Lib.hid (show runF toks tn f false k3 l2 (withPart t2 pp) = R by have := HRUN2.out; simpa using this)
      have HPT := Lib.hid hpt2
      clear HRUN2 hsz hdp hpt2 p0 p1 p2 p3 p4 p5 p6 p7 pf
      unfold PartV.val
      go_wp2_with fail
      refine (add_ps (HS3.out.ext ((Ext.refl w2).alloc _)) pp v (HV.out.mono (mask_ext _ ((Ext.refl w2).alloc _))) (by rw [HSZ.out, HDP.out]; exact Nat.le_refl _) (by have := HPT.out.1; rw [HSZ.out]; omega)).mono ?_
      rintro r w3 ⟨rfl, hmv⟩
      obtain ⟨M4, hps4, hc4, hMM4⟩ := hmv.on (HC3.out.alloc _) HMM2.out
      have HS4 := Lib.hid hps4
      have HC4 := Lib.hid hc4
      have HMM4 := Lib.hid hMM4
      clear hmv hps4 hc4 hMM4 HC3 HS3 HV HB2
      go_wp2_with fail
      go_loopg [3] (tn - k3) (InnerI R toks ta tn tc w0 wb bp M (w.heap.size :: X) k1)
      case atStart => exact ⟨k3, l2, withPart t2 pp, M4, f, HS4.out, HC4.out, HMM4.out, rfl, by omega, HR3.out, by simp [withPart], by omega⟩
      case round =>
        clear HS4 HC4 HMM4 HR3
        obtain ⟨k5, l5, t5, M5, f5, hps, hc, hMM, hm, hf5, hrun, hne5, hk15⟩ := hrel
        have HS := Lib.hid hps
        have HC := Lib.hid hc
        have HMM := Lib.hid hMM
        have HM5 := Lib.hid hm
        have hpt := hps.pot
        have HPT5 := Lib.hid hpt
        have hkt5 := hpt.2.1
        obtain ⟨f6, rfl⟩ : ∃ f6, f5 = f6 + 1 := ⟨f5 - 1, by omega⟩
        have HRUN := Lib.hid hrun
        have HNE := Lib.hid hne5
        clear hps hc hMM hm hpt hrun hne5
        go_wp2_with fail
        refine (another_ps HS.out HO.out HNE.out).mono ?_
        rintro r w4 ⟨rfl, hmv⟩
        cases h1 : acceptB toks k5 1 wAnd
        · cases h2 : acceptB toks k5 1 wOr
          · rw [h1, h2] at hmv
            simp only [Bool.or_self, Bool.false_eq_true, if_false] at hmv ⊢
            have HRUN6 := Lib.hid (show (match l5.getLast? with
                | none => (wholeF t5, 0, k5)
                | some t' => if acceptB toks k5 4 ⟨#[41]⟩ = true then runF toks tn f6 false (k5 + 1) l5.dropLast (withPart t' (wholeF t5)) else (⟨ex0, 0, 0⟩, 5, k5)) = R by
              have := HRUN.out
              rw [runF, if_neg (by simp [h1]), if_neg (by simp [h2])] at this
              exact this)
            obtain ⟨M6, hps6, hc6, hMM6⟩ := hmv.on HC.out HMM.out
            have HS6 := Lib.hid hps6
            have HC6 := Lib.hid hc6
            have HMM6 := Lib.hid hMM6
            clear hmv hps6 hc6 hMM6 h1 h2 HS HC HMM HRUN
            go_wp2_with fail
            refine (closed_ps HS6.out).mono ?_
            rintro r w7 ⟨v7, a7, cap7, M7, vl7, rfl, rfl, hpc7, hpv7, hc7, hM7, hbM7, hrest⟩
            have HC7 := Lib.hid (HC6.out.trans hc7 HMM6.out)
            have HP7 := Lib.hid hpc7
            have HV7 := Lib.hid hpv7
            have HMM7 := Lib.hid (fun y hy => HMM6.out y (hM7 y hy))
            have HREST := Lib.hid hrest
            have hb7 := HC7.out.blk hBR.out (fun h' => Nat.lt_irrefl _ (hML.out _ h'))
            obtain ⟨p0, p1, p2, p3, p4, p5, p6, p7, pf⟩ := blk8 hb7
            have hz7 := blk_lt hb7
            obtain ⟨c0, c1, c2, cf, hbw7⟩ := hpc7.cells
            clear hpc7 hpv7 hc7 hM7 hrest hb7 HS6 HC6 HMM6
            rcases hlast : l5.getLast? with _ | t6
            · have hl0 : l5 = [] := List.getLast?_eq_none_iff.1 hlast
              have HR7 := Lib.hid (show R = (wholeF t5, 0, k5) by rw [← HRUN6.out, hlast])
              have tl : ((l5.length : Int) == 0) = true := by simp [hl0]
              clear HRUN6 hlast hl0
              unfold PartV.val
              go_wp2_with fail
              refine bodyPost_ret (v := .tuple #[v7.val, .int .i64 0]) (by simp [results, Tryd.results56, go_sem, PartV.val, p0, p1, p2, p3, p4, p5, p6, p7, hz7]) rfl ?_
              refine exprQ_mk ((hEB.out.chg M).then HC7.out) ?_ HP7.out.hb hbw HR7.out ?_
              · refine Chg.alloc ?_ _
                repeat (with_reducible (refine Chg.setCell ?_ ?_ _))
                exact Chg.refl _ _
                all_goals (refine Or.inl ?_; simp)
              · refine HV7.out.mono (mask_sub_mask fun y hy hn => ⟨fun h => hn (by simp [h]), ?_⟩)
                refine Chg.block (N := [w.heap.size]) ?_ y hy (by simp; intro e; subst e; exact hn (by simp))
                refine Chg.alloc ?_ _
                repeat (with_reducible (refine Chg.setCell ?_ ?_ _))
                exact Chg.refl _ _
                all_goals (refine Or.inl ?_; simp)
            · have hl5 : l5 = l5.dropLast ++ [t6] := by
                obtain ⟨ys, rfl⟩ := List.getLast?_eq_some_iff.1 hlast
                simp
              have HL5 := Lib.hid hl5
              have hl0 : l5 ≠ [] := by intro e; simp [e] at hlast
              have tl : ((l5.length : Int) == 0) = false := by
                have : 0 < l5.length := List.length_pos_iff.2 hl0
                simp; omega
              have HRUN7 := Lib.hid (show (if acceptB toks k5 4 ⟨#[41]⟩ = true then runF toks tn f6 false (k5 + 1) l5.dropLast (withPart t6 (wholeF t5)) else (⟨ex0, 0, 0⟩, 5, k5)) = R by
                have := HRUN6.out
                rw [hlast] at this
                exact this)
              clear HRUN6 hlast hl5 hl0
              cases h3 : acceptB toks k5 4 ⟨#[41]⟩
              · have HR7 := Lib.hid (show R = (⟨ex0, 0, 0⟩, 5, k5) by rw [← HRUN7.out, if_neg (by simp [h3])])
                have H3 := Lib.hid h3
                clear h3 HRUN7
                unfold PartV.val
                go_wp2_with fail
                refine ((HP7.out.ext ((Ext.refl w7).alloc _)).acceptN H3.out).mono ?_
                rintro r w8 ⟨rfl, hc8, hp8⟩
                have HC8 := Lib.hid (HC7.out.trans (((Chg.refl [bp] w7).alloc _).then hc8) (by simpa using HMM7.out bp hbM7))
                have HP8 := Lib.hid hp8
                have hb8 := HC8.out.blk hBR.out (fun h' => Nat.lt_irrefl _ (hML.out _ h'))
                have hz8 := blk_lt hb8
                clear p0 p1 p2 p3 p4 p5 p6 p7 pf c0 c1 c2 cf
                obtain ⟨p0, p1, p2, p3, p4, p5, p6, p7, pf⟩ := blk8 hb8
                clear hc8 hp8 hb8
                go_wp2_with fail
                refine bodyPost_ret (v := .tuple #[(PartV.mk ⟨0, ⟨#[]⟩, none, 0, 0, 0, 0, none, 0, 0⟩ 0 0).val, .int .i64 5]) (by simp [results, Tryd.results56, go_sem, PartV.val, p0, p1, p2, p3, p4, p5, p6, p7, hz8]) rfl ?_
                refine exprQ_mk ((hEB.out.chg M).then HC8.out) ?_ HP8.out.hb hbw HR7.out ⟨rfl, rfl, isEx0 _⟩
                repeat (with_reducible (refine Chg.setCell ?_ ?_ _))
                exact Chg.refl _ _
                all_goals (refine Or.inl ?_; simp)
              · have HR7 := Lib.hid (show runF toks tn f6 false (k5 + 1) l5.dropLast (withPart t6 (wholeF t5)) = R by rw [← HRUN7.out, if_pos h3])
                have H3 := Lib.hid h3
                clear h3 HRUN7
                have HPS7 := Lib.hid (HREST.out l5.dropLast t6 HL5.out)
                unfold PartV.val
                go_wp2_with fail
                refine ((HPS7.out.ext ((Ext.refl w7).alloc _)).acceptY H3.out).mono ?_
                rintro r w8 ⟨rfl, hc8, hps8, hk8⟩
                have HC8 := Lib.hid (HC7.out.trans (((Chg.refl [bp] w7).alloc _).then hc8) (by simpa using HMM7.out bp hbM7))
                have hbx := hc8.blk (alloc_new w7 _) (by simp; omega)
                have HPS8 := Lib.hid hps8
                have HV8 : Hid (PartR (mask w8 ((w.heap.size :: X) ++ M7)) (wholeF t5) v7) := by
                  refine HV7.out.mono (mask_sub_mask fun y hy hn => ⟨hn, ?_⟩)
                  exact (((Chg.refl [bp] w7).alloc _).then hc8).block y hy (by simp; intro e; subst e; exact hn (List.mem_append_right _ hbM7))
                clear p0 p1 p2 p3 p4 p5 p6 p7 pf c0 c1 c2 cf
                obtain ⟨p0, p1, p2, p3, p4, p5, p6, p7, pf⟩ := blk8 hbx
                clear hc8 hps8 hbx
                go_wp2_with fail
                refine (add_ps HPS8.out (wholeF t5) v7 HV8.out (wholeF_tidy t5 HPT5.out.2.2.2.1) ?_).mono ?_
                · have h1 := HPT5.out.1
                  have h2 : potAll l5 = potAll (l5.dropLast ++ [t6]) := congrArg potAll HL5.out
                  have h3 := wholeF_size t5
                  have h4 : 0 < t5.ands.length := List.length_pos_iff.2 HNE.out
                  rw [potAll_snoc, h2] at h1
                  have h5 := sumPot_eq t5.ands
                  have h6 := sumPot_eq t5.ors
                  unfold Lvl.pot at h1
                  omega
                rintro r w9 ⟨rfl, hmv⟩
                obtain ⟨M9, hps9, hc9, hMM9⟩ := hmv.on HC8.out HMM7.out
                have HS9 := Lib.hid hps9
                have HC9 := Lib.hid hc9
                have HMM9 := Lib.hid hMM9
                clear hmv hps9 hc9 hMM9
                go_wp2_with fail
                go_roundg (tn - (k5 + 1))
                case measure => have := HM5.out; omega
                case rel => exact ⟨k5 + 1, l5.dropLast, _, M9, f6, HS9.out, HC9.out, HMM9.out, rfl, by omega, HR7.out, by simp [withPart], by omega⟩
          · have HR6 := Lib.hid (show runF toks tn f6 true (k5 + 1) l5 ⟨t5.nots, [], t5.ors ++ [joinedF 7 t5.ands]⟩ = R by have := HRUN.out; rw [runF, if_neg (by simp [h1]), if_pos h2] at this; exact this)
            rw [h1, h2] at hmv
            simp only [Bool.false_or, if_true, Bool.false_eq_true, if_false] at hmv ⊢
            obtain ⟨M6, hps6, hc6, hMM6⟩ := hmv.on HC.out HMM.out
            have HS6 := Lib.hid hps6
            have HC6 := Lib.hid hc6
            have HMM6 := Lib.hid hMM6
            have hk6 := hps6.pot.2.1
            clear hmv hps6 hc6 hMM6 h1 h2
            go_wp2_with fail
            go_roundg (tn - (k5 + 1))
            case measure => have := HM.out; omega
            case rel => exact ⟨k5 + 1, l5, _, M6, f6, HS6.out, HC6.out, HMM6.out, rfl, by omega, HR6.out⟩
        · have HR6 := Lib.hid (show runF toks tn f6 true (k5 + 1) l5 t5 = R by have := HRUN.out; rw [runF, if_pos h1] at this; exact this)
          rw [h1] at hmv
          simp only [Bool.true_or, if_true] at hmv ⊢
          obtain ⟨M6, hps6, hc6, hMM6⟩ := hmv.on HC.out HMM.out
          have HS6 := Lib.hid hps6
          have HC6 := Lib.hid hc6
          have HMM6 := Lib.hid hMM6
          have hk6 := hps6.pot.2.1
          clear hmv hps6 hc6 hMM6 h1
          go_wp2_with fail
          go_roundg (tn - (k5 + 1))
          case measure => have := HM.out; omega
          case rel => exact ⟨k5 + 1, l5, t5, M6, f6, HS6.out, HC6.out, HMM6.out, rfl, by omega, HR6.out⟩
    · have HR3 := Lib.hid (show R = (⟨ex0, 0, 0⟩, er, k3) by rw [← HRUN2.out, if_pos her])
      have t1 : (er == 0) = false := by simpa using her
      clear HRUN2 her hpt2
      unfold PartV.val
      go_wp2_with fail
      refine bodyPost_ret (v := .tuple #[(PartV.mk ⟨0, ⟨#[]⟩, none, 0, 0, 0, 0, none, 0, 0⟩ 0 0).val, .int .i64 er]) (by simp [results, Tryd.results56, go_sem, PartV.val, p0, p1, p2, p3, p4, p5, p6, p7, hz2]) rfl ?_
      obtain ⟨vl3, _, _, hI3, _⟩ := HS3.out
      refine exprQ_mk ((hEB.out.chg M).then HC3.out) ?_ hI3.pc.hb hbw HR3.out ⟨rfl, rfl, isEx0 _⟩
      refine Chg.alloc ?_ _
      repeat (with_reducible (refine Chg.setCell ?_ ?_ _))
      exact Chg.refl _ _
      all_goals (refine Or.inl ?_; simp)
end Go.Proofs.YtaepiiediblleaaDoor
