/-
  Texts of the claim, joined: Read4, Read5, Read6, Read7, Read8, Read9, Read10, Read11.
-/
import Derived.Test.YtaepiiediblleaaGreatDoorTa16
import Derived.Deep.DeepCutAuto
import Derived.Test.YtaepiiediblleaaGreatDoorTa10
namespace Go.Proofs.YtaepiiediblleaaGreatDoor
open Go.RowKit
section
variable {toks : List Tok} {ta : Option Addr} {tn tc : Nat} {w0 w : World} {br k : Nat} {er bad : Int}

theorem RC.chg (h : RC toks ta tn tc w0 w br k er bad) {w' : World} {N : List Nat} (hc : Chg N w w') (hN : br ∉ N) (hN0 : ∀ x ∈ N, w0.heap.size ≤ x) : RC toks ta tn tc w0 w' br k er bad :=
  ⟨h.ht, hc.ext h.hx hN0, (hc.block br (blk_lt h.hb) hN).trans h.hb, h.hbr, h.hk, h.htn, h.hsz⟩
/-- The error and its place, once a word was looked for. -/
def dupS (er bad : Int) (k1 : Nat) (l : List ByteArray) (s : ByteArray) : Int × Int := if er = 0 ∧ s ∈ l then (8, (k1 : Int)) else (er, bad)
theorem dup_hit {er bad : Int} {k1 : Nat} {l l' : List ByteArray} {s : ByteArray} (h : s ∈ l') : dupS er bad k1 l' s = (if (dupS er bad k1 l s).1 = 0 then 8 else (dupS er bad k1 l s).1, if (dupS er bad k1 l s).1 = 0 then (k1 : Int) else (dupS er bad k1 l s).2) := by
  by_cases h0 : er = 0
  · subst h0
    have e1 : dupS 0 bad k1 l' s = (8, (k1 : Int)) := by unfold dupS; exact if_pos ⟨rfl, h⟩
    rw [e1]
    by_cases h1 : s ∈ l
    · rw [show dupS 0 bad k1 l s = (8, (k1 : Int)) by unfold dupS; exact if_pos ⟨rfl, h1⟩]; rfl
    · rw [show dupS 0 bad k1 l s = (0, bad) by unfold dupS; exact if_neg (fun x => h1 x.2)]; rfl
  · have e2 : ∀ l, dupS er bad k1 l s = (er, bad) := fun l => by unfold dupS; exact if_neg (fun x => h0 x.1)
    rw [e2, e2]
    simp only [if_neg h0]
theorem dup_miss {er bad : Int} {k1 : Nat} {l l' : List ByteArray} {s : ByteArray} (h : s ∈ l' ↔ s ∈ l) : dupS er bad k1 l' s = dupS er bad k1 l s := by
  unfold dupS
  by_cases h1 : s ∈ l
  · have := h.2 h1; simp [h1, this]
  · have h2 : ¬ s ∈ l' := fun x => h1 (h.1 x)
    simp [h1, h2]
theorem dup_all (er bad : Int) (k1 : Nat) (l : List ByteArray) (s : ByteArray) : (dupS er bad k1 l s).1 = (if er = 0 ∧ s ∈ l then 8 else er) ∧ (dupS er bad k1 l s).2 = (if er = 0 ∧ s ∈ l then (k1 : Int) else bad) := by
  unfold dupS
  split <;> exact ⟨rfl, rfl⟩
/-- The look for a word that was there. -/
def DupI (toks : List Tok) (ta : Option Addr) (tn tc : Nat) (w0 w : World) (br : Nat) (acc : List ByteArray) (s : ByteArray) (k1 k2 : Nat) (er3 bad3 : Int) (m : Nat) (v : Value) (wr : World) : Prop :=
  ∃ i : Nat, i ≤ acc.length ∧ m = acc.length - i ∧ v = .int .i64 i ∧ MovesR toks ta tn tc w0 w br k2 (dupS er3 bad3 k1 (acc.take i) s).1 (dupS er3 bad3 k1 (acc.take i) s).2 wr
theorem mem_take_succ {acc : List ByteArray} {i : Nat} (h : i < acc.length) (s : ByteArray) : s ∈ acc.take (i + 1) ↔ s ∈ acc.take i ∨ acc[i] = s := by
  rw [List.take_succ_eq_append_getElem h, List.mem_append, List.mem_singleton, eq_comm (a := s)]

set_option maxRecDepth 100000 in
set_option maxHeartbeats 2000000 in
theorem rwords_calls (h : RC toks ta tn tc w0 w br k er bad) :
    Calls Tryz.prog 134 #[.pointer (some ⟨br, 0, none⟩)] w (WordsQ (wordsR toks k er bad) toks ta tn tc w0 w br) := by
  have hltw := blk_lt h.hb
  have hbr0 := h.hbr
  have HW := Lib.hid (want_calls h 4 ⟨#[40]⟩)
  generalize hRR : wordsR toks k er bad = R
  have HST := Lib.hid (fun k1 er1 bad1 => words_start (k1 := k1) (er1 := er1) (bad1 := bad1) hRR)
  generalize wantS toks 4 ⟨#[40]⟩ k er bad = S1 at *
  obtain ⟨k1, er1, bad1⟩ := S1
  have HS1 := Lib.hid (HST.out k1 er1 bad1 rfl)
  clear HST hRR h
  go_enter Tryz.func134, Tryz.ntmps134
  go_wp2_with fail
  refine HW.out.mono ?_
  rintro r w1 ⟨rfl, hm⟩
  have HM1 := Lib.hid hm
  clear hm HW
  go_wp2_with fail
  go_loopg [3] (if er1 = 0 then 14 else 0) (RWordsI R toks ta tn tc w0 w br)
  case atStart => exact ⟨k1, er1, bad1, [], rfl, by simp, World.ownsRow_nil _ _ _ _, HM1.out, fun e => ⟨by simp, HS1.out.1 e⟩, HS1.out.2⟩
  case round =>
    clear HM1 HS1
    obtain ⟨k1, er1, bad1, acc, hm, hacc, hown, hmv, h0, h1⟩ := hrel
    have HM := Lib.hid hm
    have HO := Lib.hid hown
    have HMV := Lib.hid hmv
    have H0 := Lib.hid h0
    have H1 := Lib.hid h1
    obtain ⟨c0, c1, c2, c3, cf⟩ := blk4 hmv.1.hb
    have hlt := blk_lt hmv.1.hb
    clear hm hown hmv h0 h1
    by_cases e1 : er1 = 0
    · have HL := Lib.hid (H0.out e1)
      have hacc2 := HL.out.1
      have HM0 := Lib.hid (HM.out.trans (if_pos e1))
      clear HM
      subst e1
      have HNM := Lib.hid (readName_calls HMV.out.1)
      have HWS := Lib.hid (fun s k2 er2 bad2 er3 bad3 er4 bad4 => word_step (s := s) (k2 := k2) (er2 := er2) (bad2 := bad2) (er3 := er3) (bad3 := bad3) (er4 := er4) (bad4 := bad4) (bad1 := bad1) hacc2 HL.out.2)
      generalize nameS toks k1 0 bad1 = S2 at *
      obtain ⟨s, k2, er2, bad2⟩ := S2
      go_wp2_with fail
      refine HNM.out.mono ?_
      rintro r w2 ⟨rfl, hm2⟩
      have HM2 := Lib.hid hm2
      simp only at HM2
      clear hm2 HNM c0 c1 c2 c3 cf hlt H0 H1
      have HC2 := Lib.hid (HMV.out.2.then HM2.out.2)
      have HO2 := Lib.hid (owns_chg HO.out HM2.out.2 (fun x hx => by have := (HO.out.lt x hx).1; simp; omega))
      have HR2 := Lib.hid HM2.out.1
      clear HM2 HMV HO
      obtain ⟨a, c, rfl, -, -⟩ := strs_of_owns HO2.out [] (by simp)
      by_cases h4 : acc.length = 12
      case' pos =>
        have t4 : ((acc.length : Int) == 12) = true := by simp [h4]
        have HWS3 := Lib.hid (fun er4 bad4 => HWS.out s k2 er2 bad2 _ _ er4 bad4 rfl (if_pos h4).symm (if_pos h4).symm)
        clear h4 HWS
        go_wp2_with fail
        refine (fail_calls HR2.out 4 (k1 : Int)).mono ?_
        rintro r w3 ⟨rfl, hm3⟩
        have HR3 := Lib.hid hm3.1
        have HC3 := Lib.hid (HC2.out.then hm3.2)
        have HO3 := Lib.hid (owns_chg HO2.out hm3.2 (fun x hx => by have := (HO2.out.lt x hx).1; simp; omega))
        clear hm3
        generalize (if er2 = 0 then 4 else er2) = er3 at *
        generalize (if er2 = 0 then (k1 : Int) else bad2) = bad3 at *
        clear HR2 HC2 HO2
        go_upto_region 8 with fail
      case' neg =>
        have t4 : ((acc.length : Int) == 12) = false := by simp; omega
        have HWS3 := Lib.hid (fun er4 bad4 => HWS.out s k2 er2 bad2 _ _ er4 bad4 rfl (if_neg h4).symm (if_neg h4).symm)
        clear h4 HWS
        have HR3 := HR2
        have HC3 := HC2
        have HO3 := HO2
        clear HR2 HC2 HO2
        generalize w2 = w3 at *
        generalize er2 = er3 at *
        generalize bad2 = bad3 at *
        go_upto_region 8 with fail
      all_goals
        go_wp2_with fail
        go_loopg [6] acc.length (DupI toks ta tn tc w0 w3 br acc s k1 k2 er3 bad3)
        case atStart => exact ⟨0, by omega, rfl, rfl, by simpa [dupS] using HR3.out, Chg.refl _ _⟩
        case round =>
          obtain ⟨i, hi, hm, rfl, hmv⟩ := hrel
          have HMI := Lib.hid hm
          have HO4 := Lib.hid (owns_chg HO3.out hmv.2 (fun x hx => by have := (HO3.out.lt x hx).1; simp; omega))
          have HR4 := Lib.hid hmv.1
          have HC4 := Lib.hid hmv.2
          clear hm hmv
          by_cases hl : i < acc.length
          · obtain ⟨a', c', e', -, hs4⟩ := strs_of_owns HO4.out [] (by simp)
            simp only [Value.slice.injEq] at e'
            obtain ⟨rfl, -, rfl⟩ := e'
            obtain ⟨b, off, rfl, g⟩ := hs4.2.2.2 i hl
            have ti : (i : Int) < (acc.length : Int) := by omega
            have ti0 : (0 : Int) ≤ (i : Int) := by omega
            have td : decide ((i : Int) < (acc.length : Int)) = true := by simp; omega
            have HTK := Lib.hid (mem_take_succ hl s)
            clear hs4
            by_cases hq : acc[i] = s
            · have te : (acc[i].toList == s.toList) = true := by rw [toList_beq]; simp [hq]
              have HQ := Lib.hid hq
              clear hq
              generalize acc[i] = x at *
              go_wp2_with fail
              refine (fail_calls HR4.out 8 (k1 : Int)).mono ?_
              rintro r w5 ⟨rfl, hm5⟩
              have HM5 := Lib.hid hm5
              clear hm5
              go_wp2_with fail
              go_roundg (acc.length - (i + 1))
              case measure => have := HMI.out; omega
              case rel =>
                refine ⟨i + 1, by omega, rfl, rfl, ?_, HC4.out.then HM5.out.2⟩
                have h6 := HM5.out.1
                rw [dup_hit (l := acc.take i) (HTK.out.2 (Or.inr HQ.out))]
                exact h6
            · have te : (acc[i].toList == s.toList) = false := by rw [toList_beq]; simp [hq]
              have HQ := Lib.hid hq
              clear hq
              generalize acc[i] = x at *
              go_wp2_with fail
              go_roundg (acc.length - (i + 1))
              case measure => have := HMI.out; omega
              case rel =>
                refine ⟨i + 1, by omega, rfl, rfl, ?_, HC4.out⟩
                rw [dup_miss (HTK.out.trans (or_iff_left HQ.out))]
                exact HR4.out
          · have td : decide ((i : Int) < (acc.length : Int)) = false := by simp; omega
            have hi2 : i = acc.length := by omega
            have HW4 := Lib.hid (HWS3.out _ _ (dup_all er3 bad3 k1 acc s).1 (dup_all er3 bad3 k1 acc s).2)
            rw [hi2, List.take_length] at HR4
            generalize dupS er3 bad3 k1 acc s = D4 at *
            obtain ⟨er4, bad4⟩ := D4
            have HC5 := Lib.hid (HC3.out.then HC4.out)
            have hz := HC5.out.size
            clear HWS3 HR3 HC3 HO3 HMI HC4 hi hi2
            go_wp2_with (at_builtin; refine wpList_append_new elemStr rfl _ _ rfl w.heap.size _ _ _ rfl HO4.out _ 1 1 rfl ?_ rfl ?_ ?_ ?_ ?_ ?_)
            · simp
            · simp [Value.oneCell']
            · simp only [maxLen]; omega
            · omega
            intro v5 w5 hown5 hgrow5
            have hcg : Chg (rowOf (.slice a acc.length c)) wr w5 := grown_chg hgrow5
            have hrow : ∀ x ∈ rowOf (.slice a acc.length c), w.heap.size ≤ x := fun x hx => (HO4.out.lt x (mem_rowOf.1 hx)).1
            have HR5 := Lib.hid (HR4.out.chg hcg (fun hx => by have := hrow _ hx; omega) (fun x hx => by have := hrow x hx; omega))
            have HC6 := Lib.hid (HC5.out.trans hcg (fun x hx => Or.inr (hrow x hx)))
            have HO5 := Lib.hid (show w5.ownsRow w.heap.size 9 1 v5 (acc ++ [s]).length ((acc ++ [s]).flatMap strCells) by simpa [strCells] using hown5)
            clear HR4 HC5 HO4 hown5 hgrow5 hcg hrow hz
            have HIS := Lib.hid (is_calls HR5.out 4 ⟨#[44]⟩)
            cases ha : acceptB toks k2 4 ⟨#[44]⟩
            · rw [ha] at HIS HW4
              have HEND := Lib.hid (fun wz (hxz : Ext w5 wz) S hS w' hm => words_end (toks := toks) (ta := ta) (tn := tn) (tc := tc) (w0 := w0) (k2 := k2) (er2 := er4) (bad2 := bad4) (R := R) (w' := w') (S := S) hltw (owns_ext HO5.out hxz) (HC6.out.then (hxz.chg _)) (fun e => (HW4.out.2 e).2) HW4.out.1 hS hm)
              clear ha HW4
              go_wp2_with fail
              refine HIS.out.mono ?_
              rintro r w6 ⟨rfl, hx6⟩
              have HX6 := Lib.hid hx6
              clear hx6
              go_wp2_with fail
              refine (want_calls (HR5.out.ext HX6.out) 4 ⟨#[41]⟩).mono ?_
              rintro r w7 ⟨rfl, hm7⟩
              have HM7 := Lib.hid hm7
              clear hm7
              go_wp2_with fail
              go_ret
              exact HEND.out _ HX6.out _ rfl _ HM7.out
            · have hk2 : k2 < tn := by have := acceptB_lt ha; have := HR5.out.ht.1; omega
              have htn := HR5.out.htn
              rw [ha] at HIS HW4
              clear ha
              go_wp2_with fail
              refine HIS.out.mono ?_
              rintro r w6 ⟨rfl, hx6⟩
              have HR6 := Lib.hid (HR5.out.ext hx6)
              have HC7 := Lib.hid (HC6.out.then (hx6.chg _))
              have HO6 := Lib.hid (owns_ext HO5.out hx6)
              clear hx6 HR5 HC6 HO5
              obtain ⟨c0, c1, c2, c3, cf⟩ := blk4 HR6.out.hb
              have hlt := blk_lt HR6.out.hb
              go_wp2_with fail
              go_roundg (if er4 = 0 then 13 - acc.length else 0)
              case measure => have := HM0.out; split <;> omega
              case rel =>
                have h9 := HR6.out.next hk2
                refine ⟨k2 + 1, er4, bad4, acc ++ [s], ?_, by simp; omega, owns_chg HO6.out h9.2 (fun x hx => by have := (HO6.out.lt x hx).1; simp; omega), ⟨h9.1, HC7.out.then h9.2⟩, fun e => ?_, fun e => HW4.out.1 e⟩
                · simp only [List.length_append, List.length_singleton]
                  rw [show 14 - (acc.length + 1) = 13 - acc.length by omega]
                · have h10 := HW4.out.2 e
                  refine ⟨by simp; omega, ?_⟩
                  simp only [List.length_append, List.length_singleton]
                  rw [show 14 - (acc.length + 1) = 13 - acc.length by omega]
                  exact h10.2
    · have t1 : (er1 == 0) = false := by simpa using e1
      have HE1 := Lib.hid e1
      have HWT := Lib.hid (want_calls HMV.out.1 4 ⟨#[41]⟩)
      have HEND := Lib.hid (fun S hS w' hm => words_end (toks := toks) (ta := ta) (tn := tn) (tc := tc) (w0 := w0) (k2 := k1) (w' := w') (S := S) hltw HO.out HMV.out.2 (fun e => absurd e HE1.out) H1.out hS hm)
      generalize wantS toks 4 ⟨#[41]⟩ k1 er1 bad1 = S2 at *
      clear e1
      go_wp2_with fail
      refine HWT.out.mono ?_
      rintro r w2 ⟨rfl, hm2⟩
      have HM2 := Lib.hid hm2
      clear hm2 c0 c1 c2 c3 cf hlt
      go_wp2_with fail
      go_ret
      exact HEND.out _ rfl _ HM2.out
end
end Go.Proofs.YtaepiiediblleaaGreatDoor

namespace Go.Proofs.YtaepiiediblleaaGreatDoor
open Go.RowKit
section
variable {toks : List Tok}

theorem numS_err {kind : Int} {k : Nat} {er bad : Int} (h : er ≠ 0) : numS toks kind k er bad = (0, k, er, bad) := by rw [numS, if_neg h]
theorem boundS_err {k : Nat} {er bad : Int} (h : er ≠ 0) : rboundS toks k er bad = (0, k, er, bad) := by
  rw [rboundS, numS_err h, if_pos (by simp [numberB])]
theorem wantS_err {kind : Int} {text : ByteArray} {k : Nat} {er bad : Int} (h : er ≠ 0) : wantS toks kind text k er bad = (k, er, bad) := by rw [wantS, if_neg h]
theorem nameS_err {k : Nat} {er bad : Int} (h : er ≠ 0) : nameS toks k er bad = (⟨#[]⟩, k, er, bad) := by rw [nameS, if_neg h]
theorem numS_no {kind : Int} {k : Nat} {bad : Int} (h : kindB toks k kind = false) : numS toks kind k 0 bad = (0, k, 5, (k : Int)) := by
  rw [numS, if_pos rfl, h]; rfl
theorem numS_yes {kind : Int} {k : Nat} {bad : Int} (h : kindB toks k kind = true) : numS toks kind k 0 bad = (numAt toks k, k + 1, 0, bad) := by
  rw [numS, if_pos rfl, h]; rfl
/-- A bound, begun without an error: a number that is read, too great a number, or none. -/
theorem boundS_ok (k : Nat) (bad : Int) : (kindB toks k 2 = false ∧ rboundS toks k 0 bad = (0, k, 5, (k : Int))) ∨ (kindB toks k 2 = true ∧ numberB (numAt toks k) = true ∧ rboundS toks k 0 bad = (numAt toks k, k + 1, 0, bad)) ∨ (kindB toks k 2 = true ∧ numberB (numAt toks k) = false ∧ rboundS toks k 0 bad = (numAt toks k, k + 1, 1, (k : Int))) := by
  cases h : kindB toks k 2
  · refine Or.inl ⟨rfl, ?_⟩
    rw [rboundS, numS_no h, if_pos (by simp [numberB])]
  · cases hn : numberB (numAt toks k)
    · refine Or.inr (Or.inr ⟨rfl, rfl, ?_⟩)
      rw [rboundS, numS_yes h, if_neg (by simp [hn])]
      simp
    · refine Or.inr (Or.inl ⟨rfl, rfl, ?_⟩)
      rw [rboundS, numS_yes h, if_pos hn]
theorem boundF_eq (k : Nat) (least : Int) : boundF toks k least = if kindB toks k 2 = true then (if numberB (numAt toks k) = true ∧ least ≤ numAt toks k then (numAt toks k, 0, k + 1) else (0, 1, k)) else (0, 5, k) := by
  unfold boundF kindB numAt
  cases toks[k]? with
  | none => rfl
  | some t =>
    simp only [beq_iff_eq]
/-- The interval: what the reference reads. -/
def intervalS (toks : List Tok) (k : Nat) (er bad : Int) : Int × Int × Nat × Int × Int :=
  let a := rboundS toks k er bad
  let t := wantS toks 1 ⟨#[116, 111]⟩ a.2.1 a.2.2.1 a.2.2.2
  let b := rboundS toks t.1 t.2.1 t.2.2
  (a.1, b.1, b.2.1, if b.1 < a.1 then (if b.2.2.1 = 0 then 1 else b.2.2.1) else b.2.2.1, if b.1 < a.1 then (if b.2.2.1 = 0 then (t.1 : Int) else b.2.2.2) else b.2.2.2)
theorem intervalS_err {k : Nat} {er bad : Int} (h : er ≠ 0) : intervalS toks k er bad = (0, 0, k, er, bad) := by
  unfold intervalS
  simp only [boundS_err h, wantS_err h, Int.lt_irrefl, if_false]
theorem intervalS_ok (k : Nat) (bad : Int) : (intervalS toks k 0 bad).2.2.2.1 = (intervalF toks k).2.2.1 ∧ ((intervalF toks k).2.2.1 = 0 → (intervalS toks k 0 bad).1 = (intervalF toks k).1 ∧ (intervalS toks k 0 bad).2.1 = (intervalF toks k).2.1 ∧ (intervalS toks k 0 bad).2.2.1 = (intervalF toks k).2.2.2) ∧ ((intervalF toks k).2.2.1 ≠ 0 → (intervalS toks k 0 bad).2.2.2.2 = (intervalF toks k).2.2.2) := by
  unfold intervalS intervalF
  rw [boundF_eq]
  rcases boundS_ok (toks := toks) k bad with ⟨h1, h2⟩ | ⟨h1, h3, h2⟩ | ⟨h1, h3, h2⟩
  · simp only [h2, h1, wantS_err (show (5 : Int) ≠ 0 by decide), boundS_err (show (5 : Int) ≠ 0 by decide)]
    simp
  · have hl : -1000000000 ≤ numAt toks k := by simp [numberB] at h3; omega
    simp only [h2, h1, h3, hl, and_self, if_true]
    cases ha : acceptB toks (k + 1) 1 ⟨#[116, 111]⟩
    · have ew : wantS toks 1 ⟨#[116, 111]⟩ (k + 1) 0 bad = (k + 1, 5, ((k + 1 : Nat) : Int)) := by rw [wantS, if_pos rfl, ha]; rfl
      simp only [ew, boundS_err (show (5 : Int) ≠ 0 by decide)]
      by_cases hx : 0 < numAt toks k <;> simp [hx]
    · simp only [wantS, ha, if_true, boundF_eq]
      rcases boundS_ok (toks := toks) (k + 1 + 1) bad with ⟨g1, g2⟩ | ⟨g1, g3, g2⟩ | ⟨g1, g3, g2⟩
      · simp only [g2, g1]
        simp
      · simp only [g2, g1, g3]
        simp
        by_cases hx : numAt toks (k + 1 + 1) < numAt toks k
        · simp [hx, show ¬ numAt toks k ≤ numAt toks (k + 1 + 1) by omega]
        · simp [hx, show numAt toks k ≤ numAt toks (k + 1 + 1) by omega]
      · simp only [g2, g1, g3]
        simp
  · simp only [h2, h1, h3, wantS_err (show (1 : Int) ≠ 0 by decide), boundS_err (show (1 : Int) ≠ 0 by decide)]
    simp
end
end Go.Proofs.YtaepiiediblleaaGreatDoor

namespace Go.Proofs.YtaepiiediblleaaGreatDoor
open Go.RowKit
section
variable {toks : List Tok} {ta : Option Addr} {tn tc : Nat} {w0 w : World} {br k : Nat} {bad : Int}

/-- What a method that reads an expression leaves, begun without an error. -/
def ReadQ (lev : Lev) (toks : List Tok) (ta : Option Addr) (tn tc : Nat) (w0 w : World) (br k : Nat) (e : Ending) (w' : World) : Prop :=
  ∃ (v : ExV) (x e1 : Ex) (k' k1 : Nat) (er' bad' : Int), e = .returned v.val ∧ (∀ M : List Nat, (∀ y ∈ M, y < w.heap.size) → IsEx (mask w' M) x v.val) ∧ MovesR toks ta tn tc w0 w br k' er' bad' w' ∧ Gr toks lev k [] e1 er' k1 ∧ (er' = 0 → x = e1 ∧ k' = k1) ∧ (er' ≠ 0 → bad' = (k1 : Int))
/-- The result is stored into its box. -/
theorem read_fin {lev : Lev} {W : World} {B : Nat} {v : ExV} {x e1 : Ex} {k' k1 : Nat} {er' bad' : Int} (hm : MovesR toks ta tn tc w0 w br k' er' bad' W) (hB : w.heap.size ≤ B) (hbr : br < w.heap.size) (hx : ∀ M : List Nat, (∀ y ∈ M, y < w.heap.size) → IsEx (mask W (B :: M)) x v.val) (hg : Gr toks lev k [] e1 er' k1) (h0 : er' = 0 → x = e1 ∧ k' = k1) (h1 : er' ≠ 0 → bad' = (k1 : Int)) : ReadQ lev toks ta tn tc w0 w br k (.returned v.val) (put6 W B v) := by
  refine ⟨v, x, e1, k', k1, er', bad', rfl, fun M hM => ?_, ⟨?_, ?_⟩, hg, h0, h1⟩
  · exact (hx M hM).mono ((put6_chg W B v (N := B :: M) (by simp)).sub.trans (mask_less _ (fun y hy => List.mem_cons_of_mem _ hy)))
  · have := hm.1.hbr
    exact hm.1.chg (put6_chg W B v (N := [B]) (by simp)) (by simp; omega) (by simp; omega)
  · exact hm.2.trans (put6_chg W B v (N := [B]) (by simp)) (by intro y hy; simp at hy; subst hy; exact Or.inr hB)

/-- Behind an expression in parentheses. -/
theorem paren_end {x e1 : Ex} {k' k1 : Nat} {er' bad' : Int} (ha : acceptB toks k 4 ⟨#[40]⟩ = true) (hg : Gr toks .ors (k + 1) [] e1 er' k1) (h0 : er' = 0 → x = e1 ∧ k' = k1) (h1 : er' ≠ 0 → bad' = (k1 : Int)) :
    ∃ e2 k2, Gr toks .atom k [] e2 (wantS toks 4 ⟨#[41]⟩ k' er' bad').2.1 k2 ∧ ((wantS toks 4 ⟨#[41]⟩ k' er' bad').2.1 = 0 → x = e2 ∧ (wantS toks 4 ⟨#[41]⟩ k' er' bad').1 = k2) ∧ ((wantS toks 4 ⟨#[41]⟩ k' er' bad').2.1 ≠ 0 → (wantS toks 4 ⟨#[41]⟩ k' er' bad').2.2 = (k2 : Int)) := by
  by_cases he : er' = 0
  · subst he
    obtain ⟨rfl, rfl⟩ := h0 rfl
    cases hc : acceptB toks k' 4 ⟨#[41]⟩
    · rw [show wantS toks 4 ⟨#[41]⟩ k' 0 bad' = (k', 5, (k' : Int)) by rw [wantS, if_pos rfl, hc]; rfl]
      exact ⟨ex0, k', Gr.parenNo ha hg hc, fun h => absurd (show (5 : Int) = 0 from h) (by decide), fun _ => rfl⟩
    · rw [show wantS toks 4 ⟨#[41]⟩ k' 0 bad' = (k' + 1, 0, bad') by rw [wantS, if_pos rfl, hc]; rfl]
      exact ⟨x, k' + 1, Gr.parenOk ha hg hc, fun _ => ⟨rfl, rfl⟩, fun h => absurd rfl h⟩
  · rw [wantS_err he]
    exact ⟨ex0, k1, Gr.parenErr ha hg he, fun h => absurd h he, fun _ => h1 he⟩

set_option maxRecDepth 100000 in
set_option maxHeartbeats 4000000 in
theorem ratom_paren (ha : acceptB toks k 4 ⟨#[40]⟩ = true) (h : RC toks ta tn tc w0 w br k 0 bad)
    (ih : ∀ (W : World) (b2 : Int), RC toks ta tn tc w0 W br (k + 1) 0 b2 → Calls Tryz.prog 44 #[.pointer (some ⟨br, 0, none⟩)] W (ReadQ .ors toks ta tn tc w0 W br (k + 1))) :
    Calls Tryz.prog 124 #[.pointer (some ⟨br, 0, none⟩)] w (ReadQ .atom toks ta tn tc w0 w br k) := by
  have hltw := blk_lt h.hb
  have htn := h.htn
  have IH := Lib.hid ih
  have hea : Ext w (w.alloc (.cells exV0.cells.toArray 28)) := (Ext.refl w).alloc _
  have HR := Lib.hid (h.ext hea)
  have HEA := Lib.hid hea
  have HB := Lib.hid (alloc_new w (.cells exV0.cells.toArray 28))
  have hsz : (w.alloc (.cells exV0.cells.toArray 28)).heap.size = w.heap.size + 1 := by simp
  clear h ih hea
  have HIS := Lib.hid (is_calls HR.out)
  · have HA := Lib.hid ha
    have hkn : k < tn := by have := acceptB_lt ha; have := HR.out.ht.1; omega
    have HI := Lib.hid (HIS.out 4 ⟨#[40]⟩)
    rw [ha] at HI
    clear ha HIS
    unfold exV0 ExV.cells at *
    go_enter Tryz.func124, Tryz.ntmps124
    go_upto_region 1 with fail
    generalize w.alloc (.cells #[.int .i64 0, .string ⟨#[]⟩, .slice none 0 0, .int .i64 0, .int .i64 0, .slice none 0 0] 28) = wa at *
    obtain ⟨c0, c1, c2, c3, cf⟩ := blk4 HR.out.hb
    have hlt := blk_lt HR.out.hb
    go_wp2_with fail
    refine HI.out.mono ?_
    rintro r w1 ⟨rfl, hx1⟩
    have HR1 := Lib.hid (HR.out.ext hx1)
    have HE1 := Lib.hid (HEA.out.trans hx1)
    have HB1 := Lib.hid (hx1.blk HB.out)
    clear c0 c1 c2 c3 cf hlt HR HEA HB hx1
    obtain ⟨c0, c1, c2, c3, cf⟩ := blk4 HR1.out.hb
    have hlt := blk_lt HR1.out.hb
    go_wp2_with fail
    obtain ⟨hr2, hc2⟩ := HR1.out.next hkn
    have HC2 := Lib.hid ((HE1.out.chg [br]).then hc2)
    have HB2 := Lib.hid (hc2.blk HB1.out (by simp; omega))
    have HI2 := Lib.hid (IH.out _ _ hr2)
    have hz2 := HC2.out.size
    generalize w1.setCell ⟨br, 1, none⟩ (.int .i64 ((k : Int) + 1)) = w2 at *
    clear hr2 hc2 c0 c1 c2 c3 cf hlt HR1 HE1 HB1 IH
    refine HI2.out.mono ?_
    rintro r w3 ⟨v, x, e1, k', k1, er', bad', rfl, hx, hm, hg, h0, h1⟩
    have HX := Lib.hid hx
    have HM := Lib.hid hm
    have HG := Lib.hid hg
    have HZ0 := Lib.hid h0
    have HZ1 := Lib.hid h1
    have HB3 := Lib.hid (hm.2.blk HB2.out (by simp; omega))
    have hz3 := blk_lt HB3.out
    clear hx hm hg h0 h1 HI2
    unfold ExV.val exV
    go_upto_region 6 with fail
    have hx4 : Ext w3 (w3.alloc (.cells v.cells.toArray 28)) := (Ext.refl w3).alloc _
    have HB4 := Lib.hid (hx4.blk HB3.out)
    have HV4 := Lib.hid (alloc_new w3 (.cells v.cells.toArray 28))
    have HR4 := Lib.hid (HM.out.1.ext hx4)
    have HX4 := Lib.hid hx4
    unfold ExV.cells at HB4 HV4 HR4 HX4
    clear hx4
    generalize w3.alloc (.cells _ 28) = w4 at *
    go_wp2_with fail
    refine (want_calls HR4.out 4 ⟨#[41]⟩).mono ?_
    rintro r w5 ⟨rfl, hm5⟩
    have HM5 := Lib.hid hm5
    have hb5 := hm5.2.blk HB4.out (by simp; omega)
    have hv5 := hm5.2.blk HV4.out (by simp; omega)
    obtain ⟨b0, b1, b2, b3, b4, b5, bf⟩ := blk6 hb5
    obtain ⟨v0, v1, v2, v3, v4, v5, vf⟩ := blk6 hv5
    have hb5z := blk_lt hb5
    have hv5z := blk_lt hv5
    clear hm5 hb5 hv5
    go_wp2_with fail
    refine bodyPost_ret (v := v.val) (by simp [results, Tryz.results124, go_sem, ExV.val, exV, b0, b1, b2, b3, b4, b5]) rfl ?_
    have hmv : MovesR toks ta tn tc w0 w br _ _ _ w5 := ⟨HM5.out.1, ((HC2.out.then HM.out.2).then (HX4.out.chg _)).then HM5.out.2⟩
    have hxx : ∀ M : List Nat, (∀ y ∈ M, y < w.heap.size) → IsEx (mask w5 (w.heap.size :: M)) x v.val := fun M hM => by
      have h6 := HX.out (br :: w.heap.size :: M) (by
        intro y hy
        have := blk_lt HB2.out
        simp only [List.mem_cons] at hy
        rcases hy with rfl | rfl | hy
        · omega
        · omega
        · have := hM y hy; omega)
      refine h6.mono (Sub.trans (mask_ext _ HX4.out) ?_)
      refine mask_sub_mask fun y hy hn => ⟨fun h => hn (List.mem_cons_of_mem _ h), HM5.out.2.block y hy (fun h => hn (by simp at h; simp [h]))⟩
    obtain ⟨e2, k2, g2, g3, g4⟩ := paren_end HA.out HG.out HZ0.out HZ1.out
    exact read_fin (W := w5) (B := w.heap.size) (v := v) (x := x) hmv (Nat.le_refl _) hltw hxx g2 g3 g4
end
end Go.Proofs.YtaepiiediblleaaGreatDoor

namespace Go.Proofs.YtaepiiediblleaaGreatDoor
open Go.RowKit
section
variable {toks : List Tok} {ta : Option Addr} {tn tc : Nat} {w0 w : World} {br k : Nat} {bad : Int}

set_option maxRecDepth 100000 in
set_option maxHeartbeats 4000000 in
theorem ratom_true (hp : acceptB toks k 4 ⟨#[40]⟩ = false) (h1 : acceptB toks k 1 wTrue = true) (h : RC toks ta tn tc w0 w br k 0 bad) :
    Calls Tryz.prog 124 #[.pointer (some ⟨br, 0, none⟩)] w (ReadQ .atom toks ta tn tc w0 w br k) := by
  have hkn : k < tn := by have := acceptB_lt h1; have := h.ht.1; omega
  have HOP := Lib.hid (show operandF toks k = (⟨.mk 1 ⟨#[]⟩ [] 0 0 [], 1, 1⟩, 0, k + 1) by rw [operandF, if_pos h1])
  have H1 := Lib.hid h1
  clear h1
  have hltw := blk_lt h.hb
  have htn := h.htn
  have hea : Ext w (w.alloc (.cells exV0.cells.toArray 28)) := (Ext.refl w).alloc _
  have HR := Lib.hid (h.ext hea)
  have HEA := Lib.hid hea
  have HB := Lib.hid (alloc_new w (.cells exV0.cells.toArray 28))
  have hsz : (w.alloc (.cells exV0.cells.toArray 28)).heap.size = w.heap.size + 1 := by simp
  clear h hea
  have HP := Lib.hid hp
  clear hp
  unfold exV0 ExV.cells at *
  go_enter Tryz.func124, Tryz.ntmps124
  go_upto_region 1 with fail
  generalize w.alloc (.cells #[.int .i64 0, .string ⟨#[]⟩, .slice none 0 0, .int .i64 0, .int .i64 0, .slice none 0 0] 28) = wa at *
  obtain ⟨c0, c1, c2, c3, cf⟩ := blk4 HR.out.hb
  have hlt := blk_lt HR.out.hb
  go_wp2_with fail
  have HI := Lib.hid (is_calls HR.out 4 ⟨#[40]⟩)
  rw [HP.out] at HI
  refine HI.out.mono ?_
  rintro r w1 ⟨rfl, hx1⟩
  have HR1 := Lib.hid (HR.out.ext hx1)
  have HE1 := Lib.hid (HEA.out.trans hx1)
  have HB1 := Lib.hid (hx1.blk HB.out)
  clear c0 c1 c2 c3 cf hlt HR HEA HB hx1 HI hsz
  go_wp2_with fail
  have HI := Lib.hid (is_calls HR1.out 1 wTrue)
  rw [H1.out] at HI
  refine HI.out.mono ?_
  rintro r w2 ⟨rfl, hx2⟩
  have HR2 := Lib.hid (HR1.out.ext hx2)
  have HE2 := Lib.hid (HE1.out.trans hx2)
  have HB2 := Lib.hid (hx2.blk HB1.out)
  clear HR1 HE1 HB1 hx2 HI
  obtain ⟨c0, c1, c2, c3, cf⟩ := blk4 HR2.out.hb
  have hlt := blk_lt HR2.out.hb
  obtain ⟨b0, b1, b2, b3, b4, b5, bf⟩ := blk6 HB2.out
  have hbz := blk_lt HB2.out
  have hne : w.heap.size ≠ br := by omega
  go_upto_region 10 with fail
  obtain ⟨hr9, hc9⟩ := HR2.out.next hkn
  have hb9 := hc9.blk HB2.out (by simp; omega)
  have HM9 := Lib.hid (show MovesR toks ta tn tc w0 w br (k + 1) 0 bad _ from ⟨hr9, (HE2.out.chg [br]).then hc9⟩)
  generalize w2.setCell ⟨br, 1, none⟩ (.int .i64 ((k : Int) + 1)) = w9 at *
  clear hr9 hc9 c0 c1 c2 c3 cf hlt b0 b1 b2 b3 b4 b5 bf hbz
  obtain ⟨b0, b1, b2, b3, b4, b5, bf⟩ := blk6 hb9
  have hbz := blk_lt hb9
  clear hb9
  go_wp2_with fail
  refine bodyPost_ret (v := (ExV.mk 1 ⟨#[]⟩ none 0 0 0 0 none 0 0).val) (by simp [results, Tryz.results124, go_sem, ExV.val, exV, b0, b1, b2, b3, b4, b5]) rfl ?_
  have hg := Gr.operand HP.out
  rw [HOP.out] at hg
  exact read_fin (W := w9) (B := w.heap.size) (v := ⟨1, ⟨#[]⟩, none, 0, 0, 0, 0, none, 0, 0⟩) (x := .mk 1 ⟨#[]⟩ [] 0 0 []) HM9.out (Nat.le_refl _) hltw (fun M _ => isEx_plain _ 1 0 0 ⟨#[]⟩) hg (fun _ => ⟨rfl, rfl⟩) (fun h => absurd rfl h)

set_option maxRecDepth 100000 in
set_option maxHeartbeats 4000000 in
theorem ratom_false (hp : acceptB toks k 4 ⟨#[40]⟩ = false) (h1 : acceptB toks k 1 wTrue = false) (h2 : acceptB toks k 1 wFalse = true) (h : RC toks ta tn tc w0 w br k 0 bad) :
    Calls Tryz.prog 124 #[.pointer (some ⟨br, 0, none⟩)] w (ReadQ .atom toks ta tn tc w0 w br k) := by
  have hkn : k < tn := by have := acceptB_lt h2; have := h.ht.1; omega
  have HOP := Lib.hid (show operandF toks k = (⟨.mk 2 ⟨#[]⟩ [] 0 0 [], 1, 1⟩, 0, k + 1) by rw [operandF, if_neg (by simp [h1]), if_pos h2])
  have H1 := Lib.hid h1
  have H2 := Lib.hid h2
  clear h1 h2
  have hltw := blk_lt h.hb
  have htn := h.htn
  have hea : Ext w (w.alloc (.cells exV0.cells.toArray 28)) := (Ext.refl w).alloc _
  have HR := Lib.hid (h.ext hea)
  have HEA := Lib.hid hea
  have HB := Lib.hid (alloc_new w (.cells exV0.cells.toArray 28))
  have hsz : (w.alloc (.cells exV0.cells.toArray 28)).heap.size = w.heap.size + 1 := by simp
  clear h hea
  have HP := Lib.hid hp
  clear hp
  unfold exV0 ExV.cells at *
  go_enter Tryz.func124, Tryz.ntmps124
  go_upto_region 1 with fail
  generalize w.alloc (.cells #[.int .i64 0, .string ⟨#[]⟩, .slice none 0 0, .int .i64 0, .int .i64 0, .slice none 0 0] 28) = wa at *
  obtain ⟨c0, c1, c2, c3, cf⟩ := blk4 HR.out.hb
  have hlt := blk_lt HR.out.hb
  go_wp2_with fail
  have HI := Lib.hid (is_calls HR.out 4 ⟨#[40]⟩)
  rw [HP.out] at HI
  refine HI.out.mono ?_
  rintro r w1 ⟨rfl, hx1⟩
  have HR1 := Lib.hid (HR.out.ext hx1)
  have HE1 := Lib.hid (HEA.out.trans hx1)
  have HB1 := Lib.hid (hx1.blk HB.out)
  clear c0 c1 c2 c3 cf hlt HR HEA HB hx1 HI hsz
  go_wp2_with fail
  have HI := Lib.hid (is_calls HR1.out 1 wTrue)
  rw [H1.out] at HI
  refine HI.out.mono ?_
  rintro r w2 ⟨rfl, hx2⟩
  have HR2 := Lib.hid (HR1.out.ext hx2)
  have HE2 := Lib.hid (HE1.out.trans hx2)
  have HB2 := Lib.hid (hx2.blk HB1.out)
  clear HR1 HE1 HB1 hx2 HI
  go_wp2_with fail
  have HI := Lib.hid (is_calls HR2.out 1 wFalse)
  rw [H2.out] at HI
  refine HI.out.mono ?_
  rintro r w3 ⟨rfl, hx3⟩
  have HR3 := Lib.hid (HR2.out.ext hx3)
  have HE3 := Lib.hid (HE2.out.trans hx3)
  have HB3 := Lib.hid (hx3.blk HB2.out)
  clear HR2 HE2 HB2 hx3 HI
  obtain ⟨c0, c1, c2, c3, cf⟩ := blk4 HR3.out.hb
  have hlt := blk_lt HR3.out.hb
  obtain ⟨b0, b1, b2, b3, b4, b5, bf⟩ := blk6 HB3.out
  have hbz := blk_lt HB3.out
  have hne : w.heap.size ≠ br := by omega
  go_upto_region 13 with fail
  obtain ⟨hr9, hc9⟩ := HR3.out.next hkn
  have hb9 := hc9.blk HB3.out (by simp; omega)
  have HM9 := Lib.hid (show MovesR toks ta tn tc w0 w br (k + 1) 0 bad _ from ⟨hr9, (HE3.out.chg [br]).then hc9⟩)
  generalize w3.setCell ⟨br, 1, none⟩ (.int .i64 ((k : Int) + 1)) = w9 at *
  clear hr9 hc9 c0 c1 c2 c3 cf hlt b0 b1 b2 b3 b4 b5 bf hbz
  obtain ⟨b0, b1, b2, b3, b4, b5, bf⟩ := blk6 hb9
  have hbz := blk_lt hb9
  clear hb9
  go_wp2_with fail
  refine bodyPost_ret (v := (ExV.mk 2 ⟨#[]⟩ none 0 0 0 0 none 0 0).val) (by simp [results, Tryz.results124, go_sem, ExV.val, exV, b0, b1, b2, b3, b4, b5]) rfl ?_
  have hg := Gr.operand HP.out
  rw [HOP.out] at hg
  exact read_fin (W := w9) (B := w.heap.size) (v := ⟨2, ⟨#[]⟩, none, 0, 0, 0, 0, none, 0, 0⟩) (x := .mk 2 ⟨#[]⟩ [] 0 0 []) HM9.out (Nat.le_refl _) hltw (fun M _ => isEx_plain _ 2 0 0 ⟨#[]⟩) hg (fun _ => ⟨rfl, rfl⟩) (fun h => absurd rfl h)
end
end Go.Proofs.YtaepiiediblleaaGreatDoor

namespace Go.Proofs.YtaepiiediblleaaGreatDoor
open Go.RowKit
section
variable {toks : List Tok} {ta : Option Addr} {tn tc : Nat} {w0 w : World} {br k : Nat} {bad : Int}

theorem nameS_no {bad : Int} (h : nameTokB toks k = false) : nameS toks k 0 bad = (⟨#[]⟩, k, 5, (k : Int)) := by rw [nameS, if_pos rfl, h]; rfl
theorem nameS_yes {bad : Int} (h : nameTokB toks k = true) : nameS toks k 0 bad = (textAt toks k, k + 1, 0, bad) := by rw [nameS, if_pos rfl, h]; rfl
theorem name_end {s : ByteArray} {k2 : Nat} {er2 bad2 : Int} (hp : acceptB toks k 4 ⟨#[40]⟩ = false) (h1 : acceptB toks k 1 wTrue = false) (h2 : acceptB toks k 1 wFalse = false) (hN : nameS toks k 0 bad = (s, k2, er2, bad2)) (h3 : acceptB toks k2 1 wIn = false) (h4 : acceptB toks k2 1 wFrom = false) :
    ∃ e2 kk, Gr toks .atom k [] e2 er2 kk ∧ (er2 = 0 → Ex.mk 3 s [] 0 0 [] = e2 ∧ k2 = kk) ∧ (er2 ≠ 0 → bad2 = (kk : Int)) := by
  have hg := Gr.operand hp
  cases hn : nameTokB toks k
  · rw [nameS_no hn] at hN
    simp only [Prod.mk.injEq] at hN
    obtain ⟨rfl, rfl, rfl, rfl⟩ := hN
    rw [show operandF toks k = (⟨ex0, 0, 0⟩, 5, k) by rw [operandF, if_neg (by simp [h1]), if_neg (by simp [h2]), if_pos hn]] at hg
    exact ⟨_, k, hg, fun h => absurd h (by decide), fun _ => rfl⟩
  · rw [nameS_yes hn] at hN
    simp only [Prod.mk.injEq] at hN
    obtain ⟨rfl, rfl, rfl, rfl⟩ := hN
    rw [show operandF toks k = (⟨.mk 3 (textAt toks k) [] 0 0 [], 1, 1⟩, 0, k + 1) by rw [operandF, if_neg (by simp [h1]), if_neg (by simp [h2]), if_neg (by simp [hn]), if_neg (by simp [h3]), if_neg (by simp [h4])]] at hg
    exact ⟨_, k + 1, hg, fun _ => ⟨rfl, rfl⟩, fun h => absurd rfl h⟩
theorem in_end {s : ByteArray} {k2 : Nat} {er2 bad2 : Int} {out : List ByteArray} {k' : Nat} {er' bad' : Int} (hp : acceptB toks k 4 ⟨#[40]⟩ = false) (h1 : acceptB toks k 1 wTrue = false) (h2 : acceptB toks k 1 wFalse = false) (hN : nameS toks k 0 bad = (s, k2, er2, bad2)) (h3 : acceptB toks k2 1 wIn = true)
    (he : er' = (wordsR toks (k2 + 1) er2 bad2).2.1) (h0 : er' = 0 → out = (wordsR toks (k2 + 1) er2 bad2).1 ∧ (k' : Int) = (wordsR toks (k2 + 1) er2 bad2).2.2) (hb : er' ≠ 0 → bad' = (wordsR toks (k2 + 1) er2 bad2).2.2) :
    ∃ e2 kk, Gr toks .atom k [] e2 er' kk ∧ (er' = 0 → Ex.mk 4 s out 0 0 [] = e2 ∧ k' = kk) ∧ (er' ≠ 0 → bad' = (kk : Int)) := by
  have hg := Gr.operand hp
  cases hn : nameTokB toks k
  · rw [nameS_no hn] at hN
    simp only [Prod.mk.injEq] at hN
    obtain ⟨rfl, rfl, rfl, rfl⟩ := hN
    rw [show operandF toks k = (⟨ex0, 0, 0⟩, 5, k) by rw [operandF, if_neg (by simp [h1]), if_neg (by simp [h2]), if_pos hn]] at hg
    rw [show wordsR toks (k + 1) 5 (k : Int) = ([], 5, (k : Int)) by rw [wordsR, if_neg (by decide)]] at he hb
    subst he
    exact ⟨_, k, hg, fun h => absurd (show (5 : Int) = 0 from h) (by decide), fun h => hb h⟩
  · rw [nameS_yes hn] at hN
    simp only [Prod.mk.injEq] at hN
    obtain ⟨rfl, rfl, rfl, rfl⟩ := hN
    rw [show operandF toks k = (⟨.mk 4 (textAt toks k) (listF toks (k + 2)).1 0 0 [], 1, 1⟩, (listF toks (k + 2)).2.1, (listF toks (k + 2)).2.2) by rw [operandF, if_neg (by simp [h1]), if_neg (by simp [h2]), if_neg (by simp [hn]), if_pos h3]] at hg
    rw [show wordsR toks (k + 1 + 1) 0 bad = ((listF toks (k + 2)).1, (listF toks (k + 2)).2.1, ((listF toks (k + 2)).2.2 : Int)) by rw [wordsR, if_pos rfl]] at he hb h0
    subst he
    refine ⟨_, _, hg, fun h => ?_, fun h => hb h⟩
    obtain ⟨rfl, h5⟩ := h0 h
    exact ⟨rfl, Int.ofNat_inj.1 h5⟩
theorem from_end {s : ByteArray} {k2 : Nat} {er2 bad2 : Int} (hp : acceptB toks k 4 ⟨#[40]⟩ = false) (h1 : acceptB toks k 1 wTrue = false) (h2 : acceptB toks k 1 wFalse = false) (hN : nameS toks k 0 bad = (s, k2, er2, bad2)) (h3 : acceptB toks k2 1 wIn = false) (h4 : acceptB toks k2 1 wFrom = true) {I : Int × Int × Nat × Int × Int} (hI : intervalS toks (k2 + 1) er2 bad2 = I) :
    ∃ e2 kk, Gr toks .atom k [] e2 I.2.2.2.1 kk ∧ (I.2.2.2.1 = 0 → Ex.mk 5 s [] I.1 I.2.1 [] = e2 ∧ I.2.2.1 = kk) ∧ (I.2.2.2.1 ≠ 0 → I.2.2.2.2 = (kk : Int)) := by
  have hg := Gr.operand hp
  cases hn : nameTokB toks k
  · rw [nameS_no hn] at hN
    simp only [Prod.mk.injEq] at hN
    obtain ⟨rfl, rfl, rfl, rfl⟩ := hN
    rw [show operandF toks k = (⟨ex0, 0, 0⟩, 5, k) by rw [operandF, if_neg (by simp [h1]), if_neg (by simp [h2]), if_pos hn]] at hg
    rw [intervalS_err (by decide)] at hI
    subst hI
    exact ⟨_, k, hg, fun h => absurd (show (5 : Int) = 0 from h) (by decide), fun _ => rfl⟩
  · rw [nameS_yes hn] at hN
    simp only [Prod.mk.injEq] at hN
    obtain ⟨rfl, rfl, rfl, rfl⟩ := hN
    rw [show operandF toks k = (⟨.mk 5 (textAt toks k) [] (intervalF toks (k + 2)).1 (intervalF toks (k + 2)).2.1 [], 1, 1⟩, (intervalF toks (k + 2)).2.2.1, (intervalF toks (k + 2)).2.2.2) by rw [operandF, if_neg (by simp [h1]), if_neg (by simp [h2]), if_neg (by simp [hn]), if_neg (by simp [h3]), if_pos h4]] at hg
    subst hI
    obtain ⟨g1, g2, g3⟩ := intervalS_ok (toks := toks) (k + 1 + 1) bad
    rw [g1]
    refine ⟨_, _, hg, fun h => ?_, fun h => g3 h⟩
    obtain ⟨e1, e2, e3⟩ := g2 h
    rw [e1, e2, e3]
    exact ⟨rfl, rfl⟩
end
end Go.Proofs.YtaepiiediblleaaGreatDoor

namespace Go.Proofs.YtaepiiediblleaaGreatDoor
open Go.RowKit
section
variable {toks : List Tok} {ta : Option Addr} {tn tc : Nat} {w0 w : World} {br k : Nat} {bad : Int}

set_option maxRecDepth 100000 in
set_option maxHeartbeats 4000000 in
theorem ratom_name (hp : acceptB toks k 4 ⟨#[40]⟩ = false) (h1 : acceptB toks k 1 wTrue = false) (h2 : acceptB toks k 1 wFalse = false) {s : ByteArray} {k2 : Nat} {er2 bad2 : Int} (hN : nameS toks k 0 bad = (s, k2, er2, bad2)) (h3 : acceptB toks k2 1 wIn = false) (h4 : acceptB toks k2 1 wFrom = false) (h : RC toks ta tn tc w0 w br k 0 bad) :
    Calls Tryz.prog 124 #[.pointer (some ⟨br, 0, none⟩)] w (ReadQ .atom toks ta tn tc w0 w br k) := by
  obtain ⟨e2, kk, g2, g3, g4⟩ := name_end hp h1 h2 hN h3 h4
  have G2 := Lib.hid g2
  have G3 := Lib.hid g3
  have G4 := Lib.hid g4
  have H3 := Lib.hid h3
  have H4 := Lib.hid h4
  clear g2 g3 g4 h3 h4
  have H1 := Lib.hid h1
  have H2 := Lib.hid h2
  have HN := Lib.hid hN
  clear h1 h2 hN
  have hltw := blk_lt h.hb
  have htn := h.htn
  have hea : Ext w (w.alloc (.cells exV0.cells.toArray 28)) := (Ext.refl w).alloc _
  have HR := Lib.hid (h.ext hea)
  have HEA := Lib.hid hea
  have HB := Lib.hid (alloc_new w (.cells exV0.cells.toArray 28))
  have hsz : (w.alloc (.cells exV0.cells.toArray 28)).heap.size = w.heap.size + 1 := by simp
  clear h hea
  have HP := Lib.hid hp
  clear hp
  unfold exV0 ExV.cells at *
  go_enter Tryz.func124, Tryz.ntmps124
  go_upto_region 1 with fail
  generalize w.alloc (.cells #[.int .i64 0, .string ⟨#[]⟩, .slice none 0 0, .int .i64 0, .int .i64 0, .slice none 0 0] 28) = wa at *
  obtain ⟨c0, c1, c2, c3, cf⟩ := blk4 HR.out.hb
  have hlt := blk_lt HR.out.hb
  go_wp2_with fail
  have HI := Lib.hid (is_calls HR.out 4 ⟨#[40]⟩)
  rw [HP.out] at HI
  refine HI.out.mono ?_
  rintro r w1 ⟨rfl, hx1⟩
  have HR1 := Lib.hid (HR.out.ext hx1)
  have HE1 := Lib.hid (HEA.out.trans hx1)
  have HB1 := Lib.hid (hx1.blk HB.out)
  clear c0 c1 c2 c3 cf hlt HR HEA HB hx1 HI hsz
  go_wp2_with fail
  have HI := Lib.hid (is_calls HR1.out 1 wTrue)
  rw [H1.out] at HI
  refine HI.out.mono ?_
  rintro r w2 ⟨rfl, hx2⟩
  have HR2 := Lib.hid (HR1.out.ext hx2)
  have HE2 := Lib.hid (HE1.out.trans hx2)
  have HB2 := Lib.hid (hx2.blk HB1.out)
  clear HR1 HE1 HB1 hx2 HI
  go_wp2_with fail
  have HI := Lib.hid (is_calls HR2.out 1 wFalse)
  rw [H2.out] at HI
  refine HI.out.mono ?_
  rintro r w3 ⟨rfl, hx3⟩
  have HR3 := Lib.hid (HR2.out.ext hx3)
  have HE3 := Lib.hid (HE2.out.trans hx3)
  have HB3 := Lib.hid (hx3.blk HB2.out)
  clear HR2 HE2 HB2 hx3 HI
  go_wp2_with fail
  have HNM := Lib.hid (readName_calls HR3.out)
  rw [HN.out] at HNM
  refine HNM.out.mono ?_
  rintro r w4 ⟨rfl, hm4⟩
  have HR4 := Lib.hid hm4.1
  have HC4 := Lib.hid ((HE3.out.chg [br]).then hm4.2)
  have HB4 := Lib.hid (hm4.2.blk HB3.out (by simp; omega))
  simp only at HR4
  clear hm4 HNM HR3 HE3 HB3
  go_wp2_with fail
  have HI := Lib.hid (is_calls HR4.out 1 wIn)
  rw [H3.out] at HI
  refine HI.out.mono ?_
  rintro r w5 ⟨rfl, hx5⟩
  have HR5 := Lib.hid (HR4.out.ext hx5)
  have HC5 := Lib.hid (HC4.out.then (hx5.chg _))
  have HB5 := Lib.hid (hx5.blk HB4.out)
  clear HR4 HC4 HB4 hx5 HI
  go_wp2_with fail
  have HI := Lib.hid (is_calls HR5.out 1 wFrom)
  rw [H4.out] at HI
  refine HI.out.mono ?_
  rintro r w6 ⟨rfl, hx6⟩
  have HR6 := Lib.hid (HR5.out.ext hx6)
  have HC6 := Lib.hid (HC5.out.then (hx6.chg _))
  have HB6 := Lib.hid (hx6.blk HB5.out)
  clear HR5 HC5 HB5 hx6 HI
  obtain ⟨b0, b1, b2, b3, b4, b5, bf⟩ := blk6 HB6.out
  have hbz := blk_lt HB6.out
  go_wp2_with fail
  refine bodyPost_ret (v := (ExV.mk 3 s none 0 0 0 0 none 0 0).val) (by simp [results, Tryz.results124, go_sem, ExV.val, exV, b0, b1, b2, b3, b4, b5]) rfl ?_
  exact read_fin (W := w6) (B := w.heap.size) (v := ⟨3, s, none, 0, 0, 0, 0, none, 0, 0⟩) (x := .mk 3 s [] 0 0 []) ⟨HR6.out, HC6.out⟩ (Nat.le_refl _) hltw (fun M _ => isEx_plain _ 3 0 0 s) G2.out G3.out G4.out

set_option maxRecDepth 100000 in
set_option maxHeartbeats 4000000 in
theorem ratom_in (hp : acceptB toks k 4 ⟨#[40]⟩ = false) (h1 : acceptB toks k 1 wTrue = false) (h2 : acceptB toks k 1 wFalse = false) {s : ByteArray} {k2 : Nat} {er2 bad2 : Int} (hN : nameS toks k 0 bad = (s, k2, er2, bad2)) (h3 : acceptB toks k2 1 wIn = true) (h : RC toks ta tn tc w0 w br k 0 bad) :
    Calls Tryz.prog 124 #[.pointer (some ⟨br, 0, none⟩)] w (ReadQ .atom toks ta tn tc w0 w br k) := by
  have hkn : k2 < tn := by have := acceptB_lt h3; have := h.ht.1; omega
  have HEND := Lib.hid (fun out k' er' bad' => in_end (out := out) (k' := k') (er' := er') (bad' := bad') hp h1 h2 hN h3)
  have H3 := Lib.hid h3
  clear h3
  have H1 := Lib.hid h1
  have H2 := Lib.hid h2
  have HN := Lib.hid hN
  clear h1 h2 hN
  have hltw := blk_lt h.hb
  have htn := h.htn
  have hea : Ext w (w.alloc (.cells exV0.cells.toArray 28)) := (Ext.refl w).alloc _
  have HR := Lib.hid (h.ext hea)
  have HEA := Lib.hid hea
  have HB := Lib.hid (alloc_new w (.cells exV0.cells.toArray 28))
  have hsz : (w.alloc (.cells exV0.cells.toArray 28)).heap.size = w.heap.size + 1 := by simp
  clear h hea
  have HP := Lib.hid hp
  clear hp
  unfold exV0 ExV.cells at *
  go_enter Tryz.func124, Tryz.ntmps124
  go_upto_region 1 with fail
  generalize w.alloc (.cells #[.int .i64 0, .string ⟨#[]⟩, .slice none 0 0, .int .i64 0, .int .i64 0, .slice none 0 0] 28) = wa at *
  obtain ⟨c0, c1, c2, c3, cf⟩ := blk4 HR.out.hb
  have hlt := blk_lt HR.out.hb
  go_wp2_with fail
  have HI := Lib.hid (is_calls HR.out 4 ⟨#[40]⟩)
  rw [HP.out] at HI
  refine HI.out.mono ?_
  rintro r w1 ⟨rfl, hx1⟩
  have HR1 := Lib.hid (HR.out.ext hx1)
  have HE1 := Lib.hid (HEA.out.trans hx1)
  have HB1 := Lib.hid (hx1.blk HB.out)
  clear c0 c1 c2 c3 cf hlt HR HEA HB hx1 HI hsz
  go_wp2_with fail
  have HI := Lib.hid (is_calls HR1.out 1 wTrue)
  rw [H1.out] at HI
  refine HI.out.mono ?_
  rintro r w2 ⟨rfl, hx2⟩
  have HR2 := Lib.hid (HR1.out.ext hx2)
  have HE2 := Lib.hid (HE1.out.trans hx2)
  have HB2 := Lib.hid (hx2.blk HB1.out)
  clear HR1 HE1 HB1 hx2 HI
  go_wp2_with fail
  have HI := Lib.hid (is_calls HR2.out 1 wFalse)
  rw [H2.out] at HI
  refine HI.out.mono ?_
  rintro r w3 ⟨rfl, hx3⟩
  have HR3 := Lib.hid (HR2.out.ext hx3)
  have HE3 := Lib.hid (HE2.out.trans hx3)
  have HB3 := Lib.hid (hx3.blk HB2.out)
  clear HR2 HE2 HB2 hx3 HI
  go_wp2_with fail
  have HNM := Lib.hid (readName_calls HR3.out)
  rw [HN.out] at HNM
  refine HNM.out.mono ?_
  rintro r w4 ⟨rfl, hm4⟩
  have HR4 := Lib.hid hm4.1
  have HC4 := Lib.hid ((HE3.out.chg [br]).then hm4.2)
  have HB4 := Lib.hid (hm4.2.blk HB3.out (by simp; omega))
  simp only at HR4
  clear hm4 HNM HR3 HE3 HB3
  go_wp2_with fail
  have HI := Lib.hid (is_calls HR4.out 1 wIn)
  rw [H3.out] at HI
  refine HI.out.mono ?_
  rintro r w5 ⟨rfl, hx5⟩
  have HR5 := Lib.hid (HR4.out.ext hx5)
  have HC5 := Lib.hid (HC4.out.then (hx5.chg _))
  have HB5 := Lib.hid (hx5.blk HB4.out)
  clear HR4 HC4 HB4 hx5 HI
  obtain ⟨c0, c1, c2, c3, cf⟩ := blk4 HR5.out.hb
  have hlt := blk_lt HR5.out.hb
  go_upto_region 17 with fail
  obtain ⟨hr6, hc6⟩ := HR5.out.next hkn
  have HR6 := Lib.hid hr6
  have HC6 := Lib.hid (HC5.out.then hc6)
  have HB6 := Lib.hid (hc6.blk HB5.out (by simp; omega))
  generalize w5.setCell ⟨br, 1, none⟩ (.int .i64 ((k2 : Int) + 1)) = w6 at *
  clear hr6 hc6 c0 c1 c2 c3 cf hlt HR5 HC5 HB5
  have hz6 := blk_lt HB6.out
  go_wp2_with fail
  refine (rwords_calls HR6.out).mono ?_
  rintro r w7 ⟨a, n, c, out, k', er', bad', rfl, hstr, hm7, he, h0, hb⟩
  have HSTR := Lib.hid hstr
  have HM7 := Lib.hid hm7
  obtain ⟨e2, kk, g2, g3, g4⟩ := HEND.out _ _ _ _ he h0 hb
  have G2 := Lib.hid g2
  have G3 := Lib.hid g3
  have G4 := Lib.hid g4
  have hb7 := hm7.2.blk HB6.out (by simp; omega)
  obtain ⟨b0, b1, b2, b3, b4, b5, bf⟩ := blk6 hb7
  have hbz := blk_lt hb7
  clear hstr hm7 he h0 hb g2 g3 g4 hb7
  go_wp2_with fail
  refine bodyPost_ret (v := (ExV.mk 4 s a n c 0 0 none 0 0).val) (by simp [results, Tryz.results124, go_sem, ExV.val, exV, b0, b1, b2, b3, b4, b5]) rfl ?_
  exact read_fin (W := w7) (B := w.heap.size) (v := ⟨4, s, a, n, c, 0, 0, none, 0, 0⟩) (x := .mk 4 s out 0 0 []) ⟨HM7.out.1, HC6.out.then HM7.out.2⟩ (Nat.le_refl _) hltw (fun M hM => isEx_words (HSTR.out (w.heap.size :: M) (by intro y hy; simp only [List.mem_cons] at hy; rcases hy with rfl | hy; exact hz6; have := hM y hy; omega)) 4 0 0 s) G2.out G3.out G4.out
end
end Go.Proofs.YtaepiiediblleaaGreatDoor

namespace Go.Proofs.YtaepiiediblleaaGreatDoor
open Go.RowKit
section
variable {toks : List Tok} {ta : Option Addr} {tn tc : Nat} {w0 w : World} {br k : Nat} {bad : Int}

set_option maxRecDepth 100000 in
set_option maxHeartbeats 4000000 in
theorem ratom_from (hp : acceptB toks k 4 ⟨#[40]⟩ = false) (h1 : acceptB toks k 1 wTrue = false) (h2 : acceptB toks k 1 wFalse = false) {s : ByteArray} {k2 : Nat} {er2 bad2 : Int} (hN : nameS toks k 0 bad = (s, k2, er2, bad2)) (h3 : acceptB toks k2 1 wIn = false) (h4 : acceptB toks k2 1 wFrom = true) (h : RC toks ta tn tc w0 w br k 0 bad) :
    Calls Tryz.prog 124 #[.pointer (some ⟨br, 0, none⟩)] w (ReadQ .atom toks ta tn tc w0 w br k) := by
  have hkn : k2 < tn := by have := acceptB_lt h4; have := h.ht.1; omega
  rcases hA : rboundS toks (k2 + 1) er2 bad2 with ⟨n1, ka, ea, ba⟩
  rcases hT : wantS toks 1 ⟨#[116, 111]⟩ ka ea ba with ⟨kb, eb, bb⟩
  rcases hB : rboundS toks kb eb bb with ⟨n2, kc, ec, bc⟩
  obtain ⟨e2, kk, g2, g3, g4⟩ := from_end (I := (n1, n2, kc, if n2 < n1 then (if ec = 0 then 1 else ec) else ec, if n2 < n1 then (if ec = 0 then (kb : Int) else bc) else bc)) hp h1 h2 hN h3 h4 (by unfold intervalS; simp only [hA, hT, hB])
  have HA := Lib.hid hA
  have HT := Lib.hid hT
  have HBB := Lib.hid hB
  have G2 := Lib.hid g2
  have G3 := Lib.hid g3
  have G4 := Lib.hid g4
  have H3 := Lib.hid h3
  have H4 := Lib.hid h4
  clear g2 g3 g4 h3 h4 hA hT hB
  have H1 := Lib.hid h1
  have H2 := Lib.hid h2
  have HN := Lib.hid hN
  clear h1 h2 hN
  have hltw := blk_lt h.hb
  have htn := h.htn
  have hea : Ext w (w.alloc (.cells exV0.cells.toArray 28)) := (Ext.refl w).alloc _
  have HR := Lib.hid (h.ext hea)
  have HEA := Lib.hid hea
  have HB := Lib.hid (alloc_new w (.cells exV0.cells.toArray 28))
  have hsz : (w.alloc (.cells exV0.cells.toArray 28)).heap.size = w.heap.size + 1 := by simp
  clear h hea
  have HP := Lib.hid hp
  clear hp
  unfold exV0 ExV.cells at *
  go_enter Tryz.func124, Tryz.ntmps124
  go_upto_region 1 with fail
  generalize w.alloc (.cells #[.int .i64 0, .string ⟨#[]⟩, .slice none 0 0, .int .i64 0, .int .i64 0, .slice none 0 0] 28) = wa at *
  obtain ⟨c0, c1, c2, c3, cf⟩ := blk4 HR.out.hb
  have hlt := blk_lt HR.out.hb
  go_wp2_with fail
  have HI := Lib.hid (is_calls HR.out 4 ⟨#[40]⟩)
  rw [HP.out] at HI
  refine HI.out.mono ?_
  rintro r w1 ⟨rfl, hx1⟩
  have HR1 := Lib.hid (HR.out.ext hx1)
  have HE1 := Lib.hid (HEA.out.trans hx1)
  have HB1 := Lib.hid (hx1.blk HB.out)
  clear c0 c1 c2 c3 cf hlt HR HEA HB hx1 HI hsz
  go_wp2_with fail
  have HI := Lib.hid (is_calls HR1.out 1 wTrue)
  rw [H1.out] at HI
  refine HI.out.mono ?_
  rintro r w2 ⟨rfl, hx2⟩
  have HR2 := Lib.hid (HR1.out.ext hx2)
  have HE2 := Lib.hid (HE1.out.trans hx2)
  have HB2 := Lib.hid (hx2.blk HB1.out)
  clear HR1 HE1 HB1 hx2 HI
  go_wp2_with fail
  have HI := Lib.hid (is_calls HR2.out 1 wFalse)
  rw [H2.out] at HI
  refine HI.out.mono ?_
  rintro r w3 ⟨rfl, hx3⟩
  have HR3 := Lib.hid (HR2.out.ext hx3)
  have HE3 := Lib.hid (HE2.out.trans hx3)
  have HB3 := Lib.hid (hx3.blk HB2.out)
  clear HR2 HE2 HB2 hx3 HI
  go_wp2_with fail
  have HNM := Lib.hid (readName_calls HR3.out)
  rw [HN.out] at HNM
  refine HNM.out.mono ?_
  rintro r w4 ⟨rfl, hm4⟩
  have HR4 := Lib.hid hm4.1
  have HC4 := Lib.hid ((HE3.out.chg [br]).then hm4.2)
  have HB4 := Lib.hid (hm4.2.blk HB3.out (by simp; omega))
  simp only at HR4
  clear hm4 HNM HR3 HE3 HB3
  go_wp2_with fail
  have HI := Lib.hid (is_calls HR4.out 1 wIn)
  rw [H3.out] at HI
  refine HI.out.mono ?_
  rintro r w5 ⟨rfl, hx5⟩
  have HR5 := Lib.hid (HR4.out.ext hx5)
  have HC5 := Lib.hid (HC4.out.then (hx5.chg _))
  have HB5 := Lib.hid (hx5.blk HB4.out)
  clear HR4 HC4 HB4 hx5 HI
  go_wp2_with fail
  have HI := Lib.hid (is_calls HR5.out 1 wFrom)
  rw [H4.out] at HI
  refine HI.out.mono ?_
  rintro r w6 ⟨rfl, hx6⟩
  have HR6 := Lib.hid (HR5.out.ext hx6)
  have HC6 := Lib.hid (HC5.out.then (hx6.chg _))
  have HB6 := Lib.hid (hx6.blk HB5.out)
  clear HR5 HC5 HB5 hx6 HI
  obtain ⟨c0, c1, c2, c3, cf⟩ := blk4 HR6.out.hb
  have hlt := blk_lt HR6.out.hb
  go_upto_region 20 with fail
  obtain ⟨hr7, hc7⟩ := HR6.out.next hkn
  have HR7 := Lib.hid hr7
  have HC7 := Lib.hid (HC6.out.then hc7)
  have HB7 := Lib.hid (hc7.blk HB6.out (by simp; omega))
  generalize w6.setCell ⟨br, 1, none⟩ (.int .i64 ((k2 : Int) + 1)) = w7 at *
  clear hr7 hc7 c0 c1 c2 c3 cf hlt HR6 HC6 HB6
  go_wp2_with fail
  have HQ := Lib.hid (rbound_calls HR7.out)
  rw [HA.out] at HQ
  refine HQ.out.mono ?_
  rintro r w8 ⟨rfl, hm8⟩
  have HR8 := Lib.hid hm8.1
  have HC8 := Lib.hid (HC7.out.then hm8.2)
  have HB8 := Lib.hid (hm8.2.blk HB7.out (by simp; omega))
  simp only at HR8
  clear hm8 HQ HR7 HC7 HB7
  go_wp2_with fail
  have HQ := Lib.hid (want_calls HR8.out 1 ⟨#[116, 111]⟩)
  rw [HT.out] at HQ
  refine HQ.out.mono ?_
  rintro r w9 ⟨rfl, hm9⟩
  have HR9 := Lib.hid hm9.1
  have HC9 := Lib.hid (HC8.out.then hm9.2)
  have HB9 := Lib.hid (hm9.2.blk HB8.out (by simp; omega))
  simp only at HR9
  clear hm9 HQ HR8 HC8 HB8
  obtain ⟨c0, c1, c2, c3, cf⟩ := blk4 HR9.out.hb
  have hlt := blk_lt HR9.out.hb
  go_wp2_with fail
  clear c0 c1 c2 c3 cf hlt
  have HQ := Lib.hid (rbound_calls HR9.out)
  rw [HBB.out] at HQ
  refine HQ.out.mono ?_
  rintro r w10 ⟨rfl, hm10⟩
  have HR10 := Lib.hid hm10.1
  have HC10 := Lib.hid (HC9.out.then hm10.2)
  have HB10 := Lib.hid (hm10.2.blk HB9.out (by simp; omega))
  simp only at HR10
  clear hm10 HQ HR9 HC9 HB9
  by_cases hq : n2 < n1
  · have tq : decide (n2 < n1) = true := by simpa using hq
    simp only [if_pos hq] at G2 G3 G4
    go_wp2_with fail
    refine (fail_calls HR10.out 1 (kb : Int)).mono ?_
    rintro r w11 ⟨rfl, hm11⟩
    have HR11 := Lib.hid hm11.1
    have HC11 := Lib.hid (HC10.out.then hm11.2)
    have HB11 := Lib.hid (hm11.2.blk HB10.out (by simp; omega))
    clear hm11 HR10 HC10 HB10
    obtain ⟨b0, b1, b2, b3, b4, b5, bf⟩ := blk6 HB11.out
    have hbz := blk_lt HB11.out
    go_wp2_with fail
    refine bodyPost_ret (v := (ExV.mk 5 s none 0 0 n1 n2 none 0 0).val) (by simp [results, Tryz.results124, go_sem, ExV.val, exV, b0, b1, b2, b3, b4, b5]) rfl ?_
    exact read_fin (W := w11) (B := w.heap.size) (v := ⟨5, s, none, 0, 0, n1, n2, none, 0, 0⟩) (x := .mk 5 s [] n1 n2 []) ⟨HR11.out, HC11.out⟩ (Nat.le_refl _) hltw (fun M _ => isEx_plain _ 5 n1 n2 s) G2.out G3.out G4.out
  · have tq : decide (n2 < n1) = false := by simpa using hq
    simp only [if_neg hq] at G2 G3 G4
    obtain ⟨b0, b1, b2, b3, b4, b5, bf⟩ := blk6 HB10.out
    have hbz := blk_lt HB10.out
    go_wp2_with fail
    refine bodyPost_ret (v := (ExV.mk 5 s none 0 0 n1 n2 none 0 0).val) (by simp [results, Tryz.results124, go_sem, ExV.val, exV, b0, b1, b2, b3, b4, b5]) rfl ?_
    exact read_fin (W := w10) (B := w.heap.size) (v := ⟨5, s, none, 0, 0, n1, n2, none, 0, 0⟩) (x := .mk 5 s [] n1 n2 []) ⟨HR10.out, HC10.out⟩ (Nat.le_refl _) hltw (fun M _ => isEx_plain _ 5 n1 n2 s) G2.out G3.out G4.out

/-- The reference's atom follows the grammar. -/
theorem ratom_calls (h : RC toks ta tn tc w0 w br k 0 bad)
    (ih : acceptB toks k 4 ⟨#[40]⟩ = true → ∀ (W : World) (b2 : Int), RC toks ta tn tc w0 W br (k + 1) 0 b2 → Calls Tryz.prog 44 #[.pointer (some ⟨br, 0, none⟩)] W (ReadQ .ors toks ta tn tc w0 W br (k + 1))) :
    Calls Tryz.prog 124 #[.pointer (some ⟨br, 0, none⟩)] w (ReadQ .atom toks ta tn tc w0 w br k) := by
  cases hp : acceptB toks k 4 ⟨#[40]⟩
  · cases h1 : acceptB toks k 1 wTrue
    · cases h2 : acceptB toks k 1 wFalse
      · rcases hN : nameS toks k 0 bad with ⟨s, k2, er2, bad2⟩
        cases h3 : acceptB toks k2 1 wIn
        · cases h4 : acceptB toks k2 1 wFrom
          · exact ratom_name hp h1 h2 hN h3 h4 h
          · exact ratom_from hp h1 h2 hN h3 h4 h
        · exact ratom_in hp h1 h2 hN h3 h
      · exact ratom_false hp h1 h2 h
    · exact ratom_true hp h1 h
  · exact ratom_paren hp h (ih hp)
end
end Go.Proofs.YtaepiiediblleaaGreatDoor

namespace Go.Proofs.YtaepiiediblleaaGreatDoor
open Go.RowKit
section
variable {toks : List Tok}

/-- An expression with n times not before it. -/
def notN : Nat → Ex → Ex
  | 0, e => e
  | n + 1, e => .mk 6 ⟨#[]⟩ [] 0 0 [notN n e]
theorem notN_in (n : Nat) (e : Ex) : notN n (.mk 6 ⟨#[]⟩ [] 0 0 [e]) = notN (n + 1) e := by
  induction n with
  | zero => rfl
  | succ n ih => rw [notN, ih, ← notN]
/-- Behind the words not and an atom. -/
theorem neg_end {e : Ex} {er : Int} {kk : Nat} : ∀ (n k : Nat), (∀ j, j < n → acceptB toks (k + j) 1 wNot = true) → acceptB toks (k + n) 1 wNot = false → Gr toks .atom (k + n) [] e er kk →
    ∃ e2, Gr toks .neg k [] e2 er kk ∧ (er = 0 → e2 = notN n e) := by
  intro n
  induction n with
  | zero => intro k _ h1 hg; exact ⟨e, Gr.negAtom h1 hg, fun _ => rfl⟩
  | succ n ih =>
    intro k h0 h1 hg
    have h00 := h0 0 (by omega)
    rw [Nat.add_zero] at h00
    have e1 : k + (n + 1) = (k + 1) + n := by omega
    rw [e1] at h1 hg
    obtain ⟨e2, g2, g3⟩ := ih (k + 1) (fun j hj => by have := h0 (j + 1) (by omega); rwa [show k + (j + 1) = k + 1 + j by omega] at this) h1 hg
    by_cases he : er = 0
    · subst he
      exact ⟨_, Gr.notOk h00 g2, fun _ => by rw [g3 rfl]; rfl⟩
    · exact ⟨ex0, Gr.notErr h00 g2 he, fun h => absurd h he⟩
end
end Go.Proofs.YtaepiiediblleaaGreatDoor
