/-
  Texts of the claim, joined: RSch, SVal, RNode, Exp1.
-/
import Derived.Test.YtfjlglefodndjaaGreatDoorCe08
import Derived.Test.YtfjlglefodndjaaGreatDoorCe07
import Derived.Deep.DeepCutAuto
import Derived.StillTailTactics
namespace Go.Proofs.YtfjlglefodndjaaGreatDoor
open Go.RowKit

theorem blk5b {w : World} {b : Nat} {v0 v1 v2 v3 v4 : Value} {t : TypeId} (h : w.heap[b]? = some (.cells #[v0, v1, v2, v3, v4] t (0, 0))) :
    w.cell? ⟨b, 0, none⟩ = some v0 ∧ w.cell? ⟨b, 1, none⟩ = some v1 ∧ w.cell? ⟨b, 2, none⟩ = some v2 ∧ w.cell? ⟨b, 3, none⟩ = some v3 ∧ w.cell? ⟨b, 4, none⟩ = some v4 ∧ (∀ j, w.frozen? ⟨b, j, none⟩ = false) :=
  ⟨blk_cell h 0, blk_cell h 1, blk_cell h 2, blk_cell h 3, blk_cell h 4, fun j => blk_free h j⟩
/-- Lengths that no counter passes. -/
def Attr.fits (a : Attr) : Prop := a.name.size ≤ 1000000000000000 ∧ a.words.length ≤ 1000000000000000 ∧ ∀ x ∈ a.words, x.size ≤ 1000000000000000
theorem givesE_of {k : IntKind} {a b : Int} {w w' : World} (h : a = b) (hx : Ext w w') : GivesE (.int k b) w (.returned (.int k a)) w' := by subst h; exact ⟨rfl, hx⟩
set_option maxRecDepth 100000 in
set_option maxHeartbeats 4000000 in
theorem rattr_calls (x : Attr) (aw : Option Addr) (nw cw : Nat) (w : World) (hw : IsStrs w x.words aw nw cw) (hf : x.fits) :
    Calls Tryz.prog 55 #[.agg #[.string x.name, .int .i64 x.kind, .slice aw nw cw, .int .i64 x.lo, .int .i64 x.hi]] w (GivesE (.int .i64 (attrErr x)) w) := by
  have HW := Lib.hid hw
  have HF := Lib.hid hf
  have hnw := hw.1
  have hnl : nw ≤ 1000000000000000 := by rw [hnw]; exact hf.2.1
  have HNW := Lib.hid hnw
  clear hw hf hnw
  obtain ⟨name, kind, words, lo, hi⟩ := x
  simp only at *
  by_cases h1 : kind = 1
  · subst h1
    by_cases hlo : lo = 0
    · subst hlo
      by_cases hhi : hi = 0
      · subst hhi
        by_cases h0 : nw = 0
        · have HE := Lib.hid (show attrErr ⟨name, 1, words, 0, 0⟩ = 19 by simp [attrErr, ← HNW.out, h0])
          subst h0
          go_enter Tryz.func55, Tryz.ntmps55
          go_wp2_with fail
          go_ret
          exact givesE_of (by rw [HE.out]) ((Ext.refl w).alloc _)
        · have t0 : ((nw : Int) == 0) = false := by simp; omega
          by_cases h12 : 12 < nw
          · have t12 : decide ((12 : Int) < (nw : Int)) = true := decide_eq_true (by omega)
            have HE := Lib.hid (show attrErr ⟨name, 1, words, 0, 0⟩ = 4 by
              simp only [attrErr, if_true, ← HNW.out]
              rw [if_neg (by simp), if_neg h0, if_pos h12])
            go_enter Tryz.func55, Tryz.ntmps55
            go_wp2_with fail
            go_ret
            exact givesE_of (by rw [HE.out]) ((Ext.refl w).alloc _)
          · have t12 : decide ((12 : Int) < (nw : Int)) = false := decide_eq_false (by omega)
            cases hn : words.all nameB
            · have HE := Lib.hid (show attrErr ⟨name, 1, words, 0, 0⟩ = 6 by
                simp only [attrErr, if_true, ← HNW.out]
                rw [if_neg (by simp), if_neg h0, if_neg h12, if_pos hn])
              have HB := Lib.hid hn
              clear hn
              go_enter Tryz.func55, Tryz.ntmps55
              go_wp2_with fail
              refine (names_calls words _ _ _ _ (HW.out.ext ((Ext.refl w).alloc _)) hnl HF.out.2.2).mono ?_
              rintro e w' ⟨rfl, rfl⟩
              rw [HB.out]
              go_wp2_with fail
              go_ret
              exact givesE_of (by rw [HE.out]) ((Ext.refl w).alloc _)
            · have HB := Lib.hid hn
              cases hd : decide words.Nodup
              · have HE := Lib.hid (show attrErr ⟨name, 1, words, 0, 0⟩ = 8 by
                  simp only [attrErr, if_true, ← HNW.out]
                  rw [if_neg (by simp), if_neg h0, if_neg h12, if_neg (by rw [hn]; simp), if_pos hd])
                have HB2 := Lib.hid hd
                clear hn hd
                go_enter Tryz.func55, Tryz.ntmps55
                go_wp2_with fail
                refine (names_calls words _ _ _ _ (HW.out.ext ((Ext.refl w).alloc _)) hnl HF.out.2.2).mono ?_
                rintro e w' ⟨rfl, rfl⟩
                rw [HB.out]
                go_wp2_with fail
                refine (distinct_calls words _ _ _ _ (HW.out.ext ((Ext.refl w).alloc _)) hnl).mono ?_
                rintro e w' ⟨rfl, q, rfl⟩
                rw [HB2.out]
                go_wp2_with fail
                go_ret
                exact givesE_of (by rw [HE.out]) (((Ext.refl w).alloc _).drewN _)
              · have HE := Lib.hid (show attrErr ⟨name, 1, words, 0, 0⟩ = 0 by
                  simp only [attrErr, if_true, ← HNW.out]
                  rw [if_neg (by simp), if_neg h0, if_neg h12, if_neg (by rw [hn]; simp), if_neg (by rw [hd]; simp)])
                have HB2 := Lib.hid hd
                clear hn hd
                go_enter Tryz.func55, Tryz.ntmps55
                go_wp2_with fail
                refine (names_calls words _ _ _ _ (HW.out.ext ((Ext.refl w).alloc _)) hnl HF.out.2.2).mono ?_
                rintro e w' ⟨rfl, rfl⟩
                rw [HB.out]
                go_wp2_with fail
                refine (distinct_calls words _ _ _ _ (HW.out.ext ((Ext.refl w).alloc _)) hnl).mono ?_
                rintro e w' ⟨rfl, q, rfl⟩
                rw [HB2.out]
                go_wp2_with fail
                go_ret
                exact givesE_of (by rw [HE.out]) (((Ext.refl w).alloc _).drewN _)
      · have t1 : (hi != 0) = true := by simp [hhi]
        have HE := Lib.hid (show attrErr ⟨name, 1, words, 0, hi⟩ = 20 by simp [attrErr, hhi])
        go_enter Tryz.func55, Tryz.ntmps55
        go_wp2_with fail
        go_ret
        exact givesE_of (by rw [HE.out]) ((Ext.refl w).alloc _)
    · have t1 : (lo != 0) = true := by simp [hlo]
      have HE := Lib.hid (show attrErr ⟨name, 1, words, lo, hi⟩ = 20 by simp [attrErr, hlo])
      go_enter Tryz.func55, Tryz.ntmps55
      go_wp2_with fail
      go_ret
      exact givesE_of (by rw [HE.out]) ((Ext.refl w).alloc _)
  · have e1 : (kind == 1) = false := by simp [h1]
    by_cases h2 : kind = 2
    · subst h2
      have HE := Lib.hid (show attrErr ⟨name, 2, words, lo, hi⟩ = if 0 < nw then 20 else if hi < lo ∨ numberB lo = false ∨ numberB hi = false then 1 else 0 by
        simp only [attrErr, farB]
        rw [if_neg (by omega), if_pos trivial, ← HNW.out]
        simp)
      generalize attrErr ⟨name, 2, words, lo, hi⟩ = E at *
      go_enter Tryz.func55, Tryz.ntmps55
      go_wp2_with (go_at_call 84; refine (far_calls _ _).mono ?_; rintro e w' ⟨rfl, rfl⟩)
      all_goals (go_ret; exact givesE_of (by rw [HE.out]; simp_all <;> omega) ((Ext.refl w).alloc _))
    · have e2 : (kind == 2) = false := by simp [h2]
      by_cases h3 : kind = 3
      · subst h3
        have HE := Lib.hid (show attrErr ⟨name, 3, words, lo, hi⟩ = if 0 < nw ∨ lo ≠ 0 ∨ hi ≠ 0 then 20 else 0 by
          simp only [attrErr]
          rw [if_neg (by omega), if_neg (by omega), if_pos trivial, ← HNW.out])
        generalize attrErr ⟨name, 3, words, lo, hi⟩ = E at *
        go_enter Tryz.func55, Tryz.ntmps55
        go_wp2_with fail
        all_goals (go_ret; exact givesE_of (by rw [HE.out]; simp_all <;> omega) ((Ext.refl w).alloc _))
      · have e3 : (kind == 3) = false := by simp [h3]
        have HE := Lib.hid (show attrErr ⟨name, kind, words, lo, hi⟩ = 11 by
          simp only [attrErr]
          rw [if_neg h1, if_neg h2, if_neg h3])
        generalize attrErr ⟨name, kind, words, lo, hi⟩ = E at *
        go_enter Tryz.func55, Tryz.ntmps55
        go_wp2_with fail
        go_ret
        exact givesE_of (by rw [HE.out]) ((Ext.refl w).alloc _)
/-- What the loop over the attributes keeps. -/
def SchI (s : List Attr) (n : Nat) (a : Option Addr) (c : Nat) (w : World) (t : Value) (wr : World) : Prop := ∃ k : Nat, t = .int .i64 k ∧ k ≤ n ∧ (∀ j, j < k → attrIErr s j = 0) ∧ wr.heap[w.heap.size]? = some (.cells #[.slice a n c] 24 (0, 0)) ∧ Ext w wr
def SchJ (s : List Attr) (k : Nat) (wa : World) (t : Value) (wr : World) : Prop := ∃ m : Nat, t = .int .i64 m ∧ m ≤ k ∧ (∀ j (h : j < s.length), j < m → decide (s[j].name = (s.getD k attr0).name) = false) ∧ (∃ q, wr = wa.drewN q)
theorem getD_attr {s : List Attr} {i : Nat} (h : i < s.length) : s.getD i attr0 = s[i] := by simp [h]
set_option maxRecDepth 100000 in
set_option maxHeartbeats 4000000 in
theorem rSchema_calls (s : List Attr) (v : Value) (w : World) (hs : IsSchema w s v) (hf : ∀ x ∈ s, x.fits) (hl : s.length ≤ 1000000000000000) :
    Calls Tryz.prog 26 #[v] w (GivesE (.int .i64 (schemaErr s)) w) := by
  obtain ⟨a, n, c, rfl, hn, hnc, hoa, hat⟩ := hs.parts
  have HS := Lib.hid hs
  have HN := Lib.hid hn
  have HF := Lib.hid hf
  have hn2 : n ≤ 1000000000000000 := by omega
  clear hs hn hat hnc hoa hf
  by_cases h0 : n = 0
  · have t0 : ((n : Int) == 0) = true := by simp [h0]
    have HE := Lib.hid (show schemaErr s = 19 by unfold schemaErr; rw [← HN.out, if_pos h0])
    clear h0
    go_enter Tryz.func26, Tryz.ntmps26
    go_wp2_with fail
    go_ret
    exact givesE_of (by rw [HE.out]) ((Ext.refl w).alloc _)
  · have t0 : ((n : Int) == 0) = false := by simp [h0]
    by_cases h6 : 6 < n
    · have t6 : decide ((6 : Int) < (n : Int)) = true := decide_eq_true (by omega)
      have HE := Lib.hid (show schemaErr s = 4 by unfold schemaErr; rw [← HN.out, if_neg h0, if_pos h6])
      go_enter Tryz.func26, Tryz.ntmps26
      go_wp2_with fail
      go_ret
      exact givesE_of (by rw [HE.out]) ((Ext.refl w).alloc _)
    · have t6 : decide ((6 : Int) < (n : Int)) = false := decide_eq_false (by omega)
      have HE := Lib.hid (show schemaErr s = (firstI (attrIErr s) n).2 by unfold schemaErr; rw [← HN.out, if_neg h0, if_neg h6])
      go_enter Tryz.func26, Tryz.ntmps26
      go_wp2_with fail
      go_loopw [3] (SchI s n a c w) (fun t _ => n - (intOf t).toNat)
      case atStart => exact ⟨0, rfl, by omega, fun j h => by omega, alloc_new w _, (Ext.refl w).alloc _⟩
      case round =>
        obtain ⟨k, rfl, hk, hno, hbx, hx⟩ := hrel
        obtain ⟨wo, rfl⟩ : ∃ wo : World, wo = wr := ⟨_, rfl⟩
        have HNO := Lib.hid hno
        have HBX := Lib.hid hbx
        have HX := Lib.hid hx
        obtain ⟨bb0, bbf⟩ := blk1 hbx
        have hlt0 := blk_lt hbx
        clear hno hbx hx
        by_cases hkn : k < n
        · have hks : k < s.length := by have := HN.out; omega
          obtain ⟨a', n', c', e', hx1, hx2, hx3, hat⟩ := (HS.out.ext HX.out).parts
          simp only [Value.agg.injEq, Array.mk.injEq, List.cons.injEq, Value.slice.injEq, and_true] at e'
          obtain ⟨rfl, rfl, rfl⟩ := e'
          clear hx1 hx2 hx3
          obtain ⟨b, off, rfl, aw, nw, cw, h0, h1, h2, h3, h4, h5⟩ := hat k hks
          have H5 := Lib.hid h5
          have t1 : decide ((k : Int) < (n : Int)) = true := decide_eq_true (by omega)
          have hfk := HF.out _ (List.getElem_mem hks)
          have hfn := hfk.1
          have HFK := Lib.hid hfk
          have HAI := Lib.hid (show attrIErr s k = if nameB s[k].name = false then 6 else if (s.take k).any (fun b => decide (b.name = s[k].name)) = true then 8 else attrErr s[k] by unfold attrIErr; rw [getD_attr hks])
          clear hat h5 hfk
          cases hnb : nameB s[k].name
          · have HNB := Lib.hid hnb
            have HR := Lib.hid (show schemaErr s = 6 by
              rw [HE.out, firstI_hit (k := k) (by rw [HAI.out, if_pos hnb]; omega) HNO.out n hkn]
              show attrIErr s k = 6
              rw [HAI.out, if_pos hnb])
            clear hnb HE
            go_wp2_with fail
            refine (rname_calls _ _ hfn).mono ?_
            rintro e w' ⟨rfl, rfl⟩
            rw [HNB.out]
            go_wp2_with fail
            go_ret
            exact givesE_of (by rw [HR.out]) (HX.out.alloc _)
          · have HNB := Lib.hid hnb
            go_wp2_with fail
            refine (rname_calls _ _ hfn).mono ?_
            rintro e w' ⟨rfl, rfl⟩
            rw [HNB.out]
            clear h0 h1 h2 h3 h4 bb0 bbf
            go_upto_region 11 with fail
            obtain ⟨wa, hwa⟩ : ∃ wa, wa = wo.alloc (.cells #[.string s[k].name, .int .i64 s[k].kind, .slice aw nw cw, .int .i64 s[k].lo, .int .i64 s[k].hi] 91) := ⟨_, rfl⟩
            rw [← hwa]
            have hxa : Ext wo wa := by rw [hwa]; exact (Ext.refl _).alloc _
            have hba : wa.heap[wo.heap.size]? = some (.cells #[.string s[k].name, .int .i64 s[k].kind, .slice aw nw cw, .int .i64 s[k].lo, .int .i64 s[k].hi] 91 (0, 0)) := by rw [hwa]; exact alloc_new wo _
            have HXA := Lib.hid hxa
            have HBA := Lib.hid hba
            have HB2 := Lib.hid (hxa.blk HBX.out)
            clear hwa hxa hba
            go_wp2_with fail
            go_loopw [5] (SchJ s k wa) (fun t _ => k - (intOf t).toNat)
            case atStart => exact ⟨0, rfl, by omega, fun j _ h => by omega, 0, rfl⟩
            case round =>
              obtain ⟨m, rfl, hm, hne, q, rfl⟩ := hrel
              have HNE := Lib.hid hne
              clear hne
              obtain ⟨d0, df⟩ := blk1 HB2.out
              obtain ⟨a0, a1, a2, a3, a4, af⟩ := blk5b HBA.out
              by_cases hmk : m < k
              · have t2 : decide ((m : Int) < (k : Int)) = true := decide_eq_true (by omega)
                have hms : m < s.length := by omega
                obtain ⟨a', n', c', e', hx1, hx2, hx3, hat⟩ := (HS.out.ext (HX.out.trans HXA.out)).parts
                simp only [Value.agg.injEq, Array.mk.injEq, List.cons.injEq, Value.slice.injEq, and_true] at e'
                obtain ⟨rfl, rfl, rfl⟩ := e'
                obtain ⟨b', off', e'', aw', nw', cw', g0, g1, g2, g3, g4, g5⟩ := hat m hms
                simp only [Option.some.injEq, Addr.mk.injEq, and_true] at e''
                obtain ⟨rfl, rfl⟩ := e''
                have ti0 : (0 : Int) ≤ (m : Int) := by omega
                have ti1 : (m : Int) < (n : Int) := by omega
                clear hx1 hx2 hx3 hat g1 g2 g3 g4 g5 a1 a2 a3 a4
                cases he : (s[m].name.toList == s[k].name.toList)
                · have HEQ := Lib.hid (dec_of_beq he)
                  go_wp2_with fail
                  go_quiet (fail)
                  go_wp2_with fail
                  go_roundw
                  case rel =>
                    refine ⟨m + 1, by go_num, by omega, fun j hj hjm => ?_, _, rfl⟩
                    by_cases e : j = m
                    · subst e; rw [getD_attr hks]; exact HEQ.out
                    · exact HNE.out j hj (by omega)
                  case measure => simp [intOf]; omega
                · have h8 : attrIErr s k = 8 := by
                    rw [HAI.out, if_neg (by rw [HNB.out]; simp), if_pos]
                    rw [List.any_eq_true]
                    exact ⟨s[m], List.mem_iff_getElem.2 ⟨m, by simp; omega, by simp⟩, dec_of_beq he⟩
                  have HR := Lib.hid (show schemaErr s = 8 by
                    rw [HE.out, firstI_hit (k := k) (by rw [h8]; omega) HNO.out n hkn]
                    exact h8)
                  clear h8
                  go_wp2_with fail
                  go_quiet (fail)
                  go_wp2_with fail
                  go_ret
                  exact givesE_of (by rw [HR.out]) ((((HX.out.trans HXA.out).drewN q)).drewN _)
              · have t2 : decide ((m : Int) < (k : Int)) = false := decide_eq_false (by omega)
                have hany : ((s.take k).any fun b => decide (b.name = s[k].name)) = false := by
                  rw [List.any_eq_false]
                  intro y hy
                  obtain ⟨j, hj, rfl⟩ := List.mem_iff_getElem.1 hy
                  have hjk : j < k := by simp at hj; omega
                  have := HNE.out j (by omega) (by omega)
                  rw [getD_attr hks] at this
                  simp [this]
                have HAK := Lib.hid (show attrIErr s k = attrErr s[k] by rw [HAI.out, if_neg (by rw [HNB.out]; simp), if_neg (by rw [hany]; simp)])
                clear hany hnb
                go_wp2_with fail
                refine (rattr_calls s[k] aw nw cw _ (H5.out.ext (HXA.out.drewN q)) HFK.out).mono ?_
                rintro e w' ⟨rfl, hx7⟩
                have HX7 := Lib.hid (((HX.out.trans HXA.out).drewN q).trans hx7)
                have HB7 := Lib.hid (hx7.blk (show (wa.drewN q).heap[w.heap.size]? = _ from HB2.out))
                clear hx7 d0 df a0 a1 a2 a3 a4 af
                by_cases hz : attrErr s[k] = 0
                · have tz : (attrErr s[k] != 0) = false := by simp [hz]
                  have HZ := Lib.hid hz
                  clear hz
                  go_wp2_with fail
                  go_roundw
                  case rel =>
                    refine ⟨k + 1, by go_num, by omega, fun j hj => ?_, HB7.out, HX7.out⟩
                    by_cases e : j = k
                    · subst e; rw [HAK.out]; exact HZ.out
                    · exact HNO.out j (by omega)
                  case measure => simp [intOf]; omega
                · have tz : (attrErr s[k] != 0) = true := by simp [hz]
                  have HR := Lib.hid (show schemaErr s = attrErr s[k] by
                    rw [HE.out, firstI_hit (k := k) (by rw [HAK.out]; exact hz) HNO.out n hkn]
                    exact HAK.out)
                  clear hz
                  go_wp2_with fail
                  go_ret
                  exact givesE_of (by rw [HR.out]) HX7.out
        · have t1 : decide ((k : Int) < (n : Int)) = false := decide_eq_false (by omega)
          have HR := Lib.hid (show schemaErr s = 0 by rw [HE.out, firstI_zero n fun j hj => HNO.out j (by omega)])
          go_wp2_with fail
          go_ret
          exact givesE_of (by rw [HR.out]) HX.out
end Go.Proofs.YtfjlglefodndjaaGreatDoor

namespace Go.Proofs.YtfjlglefodndjaaGreatDoor
open Go.RowKit

/-! The program's schema.Validate. -/
/-- The error of an attribute's words. -/
def wordsErr (l : List ByteArray) : Int := if l.length = 0 then 19 else if 12 < l.length then 4 else if l.all nameB = false then 6 else if decide l.Nodup = false then 8 else 0
theorem attrErr_word (a : Attr) (h : a.kind = 1) : attrErr a = if a.lo ≠ 0 ∨ a.hi ≠ 0 then 20 else wordsErr a.words := by
  unfold attrErr wordsErr; rw [if_pos h]
theorem nodup_snoc {l : List ByteArray} {k : Nat} (hk : k < l.length) (h : (l.take k).Nodup) (h2 : l[k] ∉ l.take k) : (l.take (k + 1)).Nodup := by
  rw [List.take_succ_eq_append_getElem hk, List.nodup_append]
  exact ⟨h, by simp, fun a ha b hb => by simp at hb; subst hb; intro e; subst e; exact h2 ha⟩
theorem not_nodup {l : List ByteArray} {k : Nat} (hk : k < l.length) (h : l[k] ∈ l.take k) : ¬ l.Nodup := by
  intro h4
  have : (l.take (k + 1)).Nodup := h4.sublist (List.take_sublist _ _)
  rw [List.take_succ_eq_append_getElem hk, List.nodup_append] at this
  exact absurd rfl (this.2.2 _ h _ (by simp))
set_option maxRecDepth 100000 in
set_option maxHeartbeats 4000000 in
theorem swords_calls (l : List ByteArray) (a : Option Addr) (n c : Nat) (w : World) (hl : IsStrs w l a n c) (hn2 : n ≤ 1000000000000000) (hsz : ∀ x ∈ l, x.size ≤ 1000000000000000) :
    Calls Tryz.prog 77 #[.slice a n c] w (Gives (.int .i64 (wordsErr l)) w) := by
  have HL := Lib.hid hl
  have HZ := Lib.hid hsz
  have HN := Lib.hid hl.1
  have hnc := hl.2.1
  clear hl hsz
  by_cases h0 : n = 0
  · have H := Lib.hid (show wordsErr l = 19 by unfold wordsErr; rw [if_pos (by have := HN.out; omega)])
    have hz : ((n : Int) == 0) = true := by simp [h0]
    clear h0
    go_enter Tryz.func77, Tryz.ntmps77
    go_wp2_with fail
    go_ret
    exact gives_int (by rw [H.out])
  have hz : ((n : Int) == 0) = false := by simp [h0]
  by_cases h12 : 12 < n
  · have H := Lib.hid (show wordsErr l = 4 by unfold wordsErr; rw [if_neg (by have := HN.out; omega), if_pos (by have := HN.out; omega)])
    have t12 : decide ((12 : Int) < (n : Int)) = true := decide_eq_true (by omega)
    go_enter Tryz.func77, Tryz.ntmps77
    go_wp2_with fail
    go_ret
    exact gives_int (by rw [H.out])
  have t12 : decide ((12 : Int) < (n : Int)) = false := decide_eq_false (by omega)
  have HE := Lib.hid (show wordsErr l = if l.all nameB = false then 6 else if decide l.Nodup = false then 8 else 0 by unfold wordsErr; rw [if_neg (by have := HN.out; omega), if_neg (by have := HN.out; omega)])
  obtain ⟨E, hE⟩ : ∃ E, E = wordsErr l := ⟨_, rfl⟩
  rw [← hE] at HE ⊢
  clear hE
  go_enter Tryz.func77, Tryz.ntmps77
  go_wp2_with fail
  go_loop [15] (fun t => ∃ k : Nat, t = .int .i64 k ∧ k ≤ n ∧ ∀ j (h : j < l.length), j < k → nameB l[j] = true) (fun t => n - (intOf t).toNat)
  case atStart => exact ⟨0, rfl, by omega, fun j _ h => by omega⟩
  case round =>
    obtain ⟨k, rfl, hk, hall⟩ := hrel
    have HA := Lib.hid hall
    clear hall
    by_cases hlt : k < n
    · have hlt' : k < l.length := by have := HN.out; omega
      have t1 : decide ((k : Int) < (n : Int)) = true := decide_eq_true (by omega)
      have hsk := HZ.out _ (List.getElem_mem hlt')
      obtain ⟨b, off, rfl, hcell⟩ := HL.out.2.2.2 k hlt'
      cases h3 : nameB l[k]
      · have H := Lib.hid (show E = 6 by
          rw [HE.out, if_pos]
          rw [List.all_eq_false]
          exact ⟨l[k], List.getElem_mem hlt', by rw [h3]; simp⟩)
        have H3 := Lib.hid h3
        clear h3
        go_wp2_with fail
        refine (name_calls _ _ hsk).mono ?_
        rintro e w' ⟨rfl, rfl⟩
        rw [H3.out]
        go_wp2_with fail
        go_ret
        exact gives_int (by rw [H.out])
      · have H3 := Lib.hid h3
        clear h3
        go_wp2_with fail
        refine (name_calls _ _ hsk).mono ?_
        rintro e w' ⟨rfl, rfl⟩
        rw [H3.out]
        go_wp2_with fail
        go_round
        case rel =>
          refine ⟨k + 1, by go_num, by omega, fun j hj hjk => ?_⟩
          by_cases e : j = k
          · subst e; exact H3.out
          · exact HA.out j hj (by omega)
        case measure => simp [intOf]; omega
    · have t1 : decide ((k : Int) < (n : Int)) = false := decide_eq_false (by omega)
      have HE2 := Lib.hid (show E = if decide l.Nodup = false then 8 else 0 by
        rw [HE.out, if_neg]
        rw [Bool.not_eq_false, List.all_eq_true]
        intro x hx
        obtain ⟨j, hj, rfl⟩ := List.mem_iff_getElem.1 hx
        exact HA.out j hj (by have := HN.out; omega))
      clear HE HA
      go_wp2_with fail
      go_loop [25] (fun t => ∃ k : Nat, t = .int .i64 k ∧ k ≤ n ∧ (l.take k).Nodup) (fun t => n - (intOf t).toNat)
      case atStart => exact ⟨0, rfl, by omega, by simp⟩
      case round =>
        obtain ⟨m, rfl, hm, hno⟩ := hrel
        have HNO := Lib.hid hno
        clear hno
        by_cases hmt : m < n
        · have hmt' : m < l.length := by have := HN.out; omega
          have t2 : decide ((m : Int) < (n : Int)) = true := decide_eq_true (by omega)
          have HT := Lib.hid (HL.out.take hm)
          obtain ⟨b, off, rfl, hcell⟩ := HL.out.2.2.2 m hmt'
          by_cases h4 : l[m] ∈ l.take m
          · have H := Lib.hid (show E = 8 by rw [HE2.out, if_pos (by simpa using not_nodup hmt' h4)])
            have H4 := Lib.hid h4
            clear h4
            go_wp2_with fail
            refine (contains_calls _ _ _ _ _ _ (by omega) HT.out).mono ?_
            rintro e w' ⟨rfl, rfl⟩
            rw [decide_eq_true H4.out]
            go_wp2_with fail
            go_ret
            exact gives_int (by rw [H.out])
          · have H4 := Lib.hid h4
            clear h4
            go_wp2_with fail
            refine (contains_calls _ _ _ _ _ _ (by omega) HT.out).mono ?_
            rintro e w' ⟨rfl, rfl⟩
            rw [decide_eq_false H4.out]
            go_wp2_with fail
            go_round
            case rel => exact ⟨m + 1, by go_num, by omega, nodup_snoc hmt' HNO.out H4.out⟩
            case measure => simp [intOf]; omega
        · have t2 : decide ((m : Int) < (n : Int)) = false := decide_eq_false (by omega)
          have H := Lib.hid (show E = 0 by
            have h5 := HNO.out
            rw [List.take_of_length_le (by have := HN.out; omega)] at h5
            rw [HE2.out, if_neg (by simpa using h5)])
          go_wp2_with fail
          go_ret
          exact gives_int (by rw [H.out])
theorem numberB_iff (n : Int) : numberB n = false ↔ n < -1000000000 ∨ 1000000000 < n := by simp [numberB]; omega
set_option maxRecDepth 100000 in
set_option maxHeartbeats 4000000 in
theorem sattr_calls (x : Attr) (aw : Option Addr) (nw cw : Nat) (w : World) (hw : IsStrs w x.words aw nw cw) (hf : x.fits) :
    Calls Tryz.prog 51 #[.agg #[.string x.name, .int .i64 x.kind, .slice aw nw cw, .int .i64 x.lo, .int .i64 x.hi]] w (GivesE (.int .i64 (attrErr x)) w) := by
  have HW := Lib.hid hw
  have HF := Lib.hid hf
  have hnw := hw.1
  have hnl : nw ≤ 1000000000000000 := by rw [hnw]; exact hf.2.1
  have HNW := Lib.hid hnw
  clear hw hf hnw
  obtain ⟨name, kind, words, lo, hi⟩ := x
  simp only at *
  obtain ⟨E, hE⟩ : ∃ E, E = attrErr ⟨name, kind, words, lo, hi⟩ := ⟨_, rfl⟩
  rw [← hE]
  by_cases h1 : kind = 1
  · subst h1
    rw [attrErr_word _ rfl] at hE
    simp only at hE
    have HE := Lib.hid hE
    clear hE
    have HWC := Lib.hid (swords_calls words aw nw cw (w.alloc (.cells #[.string name, .int .i64 1, .slice aw nw cw, .int .i64 lo, .int .i64 hi] 91)) (HW.out.ext ((Ext.refl w).alloc _)) hnl HF.out.2.2)
    by_cases hlo : lo = 0
    · have t1 : (lo != 0) = false := by simp [hlo]
      by_cases hhi : hi = 0
      · have t2 : (hi != 0) = false := by simp [hhi]
        have HQ := Lib.hid (show E = wordsErr words by rw [HE.out, if_neg (by simp [hlo, hhi])])
        clear HE hlo hhi
        go_enter Tryz.func51, Tryz.ntmps51
        go_wp2_with fail
        refine HWC.out.mono ?_
        rintro e w' ⟨rfl, rfl⟩
        go_wp2_with fail
        go_ret
        exact givesE_of (by rw [HQ.out]) ((Ext.refl w).alloc _)
      · have t2 : (hi != 0) = true := by simp [hhi]
        have HQ := Lib.hid (show E = 20 by rw [HE.out, if_pos (Or.inr hhi)])
        clear HE hlo hhi
        go_enter Tryz.func51, Tryz.ntmps51
        go_wp2_with fail
        go_ret
        exact givesE_of (by rw [HQ.out]) ((Ext.refl w).alloc _)
    · have t1 : (lo != 0) = true := by simp [hlo]
      have HQ := Lib.hid (show E = 20 by rw [HE.out, if_pos (Or.inl hlo)])
      clear HE hlo
      go_enter Tryz.func51, Tryz.ntmps51
      go_wp2_with fail
      go_ret
      exact givesE_of (by rw [HQ.out]) ((Ext.refl w).alloc _)
  · have e1 : (kind == 1) = false := by simp [h1]
    by_cases h2 : kind = 2
    · subst h2
      have HE := Lib.hid (show E = if 0 < nw then 20 else if hi < lo ∨ (lo < -1000000000 ∨ 1000000000 < lo) ∨ (hi < -1000000000 ∨ 1000000000 < hi) then 1 else 0 by
        rw [hE]
        have k1 := numberB_iff lo
        have k2 := numberB_iff hi
        simp only [attrErr, farB, Bool.not_eq_true', k1, k2]
        rw [if_neg (by omega), if_pos trivial, ← HNW.out])
      clear hE
      go_enter Tryz.func51, Tryz.ntmps51
      go_wp2_with fail
      all_goals (go_ret; exact givesE_of (by rw [HE.out]; simp_all <;> omega) ((Ext.refl w).alloc _))
    · have e2 : (kind == 2) = false := by simp [h2]
      by_cases h3 : kind = 3
      · subst h3
        have HE := Lib.hid (show E = if 0 < nw ∨ lo ≠ 0 ∨ hi ≠ 0 then 20 else 0 by
          rw [hE]
          simp only [attrErr]
          rw [if_neg (by omega), if_neg (by omega), if_pos trivial, ← HNW.out])
        clear hE
        go_enter Tryz.func51, Tryz.ntmps51
        go_wp2_with fail
        all_goals (go_ret; exact givesE_of (by rw [HE.out]; simp_all <;> omega) ((Ext.refl w).alloc _))
      · have e3 : (kind == 3) = false := by simp [h3]
        have HE := Lib.hid (show E = 11 by
          rw [hE]
          simp only [attrErr]
          rw [if_neg h1, if_neg h2, if_neg h3])
        clear hE
        go_enter Tryz.func51, Tryz.ntmps51
        go_wp2_with fail
        go_ret
        exact givesE_of (by rw [HE.out]) ((Ext.refl w).alloc _)
/-- The first attribute of a's name comes before a. -/
theorem attr_dup {s : List Attr} {k : Nat} (hk : k < s.length) : ∃ f, attrAt s s[k].name = some f ∧ f ≤ k ∧ ((s.take k).any (fun b => decide (b.name = s[k].name)) = decide (f < k)) := by
  cases h : attrAt s s[k].name with
  | none =>
    unfold attrAt at h
    rw [List.findIdx?_eq_none_iff] at h
    have := h s[k] (List.getElem_mem hk)
    simp at this
  | some f =>
    unfold attrAt at h
    rw [List.findIdx?_eq_some_iff_getElem] at h
    obtain ⟨hf, h1, h2⟩ := h
    have hfk : f ≤ k := by
      rcases Nat.lt_or_ge k f with h3 | h3
      · have := h2 k h3
        simp at this
      · exact h3
    refine ⟨f, rfl, hfk, ?_⟩
    by_cases h3 : f < k
    · rw [decide_eq_true h3, List.any_eq_true]
      exact ⟨s[f], List.mem_iff_getElem.2 ⟨f, by simp; omega, by simp⟩, h1⟩
    · rw [decide_eq_false h3, List.any_eq_false]
      intro y hy
      obtain ⟨j, hj, rfl⟩ := List.mem_iff_getElem.1 hy
      have hjk : j < k := by simp at hj; omega
      have := h2 j (by omega)
      simpa using this
set_option maxRecDepth 100000 in
set_option maxHeartbeats 4000000 in
theorem sValidate_calls (s : List Attr) (v : Value) (w : World) (hs : IsSchema w s v) (hf : ∀ x ∈ s, x.fits) (hl : s.length ≤ 1000000000000000) :
    Calls Tryz.prog 23 #[v] w (GivesE (.int .i64 (schemaErr s)) w) := by
  obtain ⟨a, n, c, rfl, hn, hnc, hoa, hat⟩ := hs.parts
  have HS := Lib.hid hs
  have HN := Lib.hid hn
  have HF := Lib.hid hf
  have hn2 : n ≤ 1000000000000000 := by omega
  clear hs hn hat hnc hoa hf
  by_cases h0 : n = 0
  · have t0 : ((n : Int) == 0) = true := by simp [h0]
    have HE := Lib.hid (show schemaErr s = 19 by unfold schemaErr; rw [← HN.out, if_pos h0])
    clear h0
    go_enter Tryz.func23, Tryz.ntmps23
    go_wp2_with fail
    go_ret
    exact givesE_of (by rw [HE.out]) ((Ext.refl w).alloc _)
  have t0 : ((n : Int) == 0) = false := by simp [h0]
  by_cases h6 : 6 < n
  · have t6 : decide ((6 : Int) < (n : Int)) = true := decide_eq_true (by omega)
    have HE := Lib.hid (show schemaErr s = 4 by unfold schemaErr; rw [← HN.out, if_neg h0, if_pos h6])
    go_enter Tryz.func23, Tryz.ntmps23
    go_wp2_with fail
    go_ret
    exact givesE_of (by rw [HE.out]) ((Ext.refl w).alloc _)
  have t6 : decide ((6 : Int) < (n : Int)) = false := decide_eq_false (by omega)
  have HE := Lib.hid (show schemaErr s = (firstI (attrIErr s) n).2 by unfold schemaErr; rw [← HN.out, if_neg h0, if_neg h6])
  go_enter Tryz.func23, Tryz.ntmps23
  go_wp2_with fail
  go_loopw [19] (SchI s n a c w) (fun t _ => n - (intOf t).toNat)
  case atStart => exact ⟨0, rfl, by omega, fun j h => by omega, alloc_new w _, (Ext.refl w).alloc _⟩
  case round =>
    obtain ⟨k, rfl, hk, hno, hbx, hx⟩ := hrel
    obtain ⟨wo, rfl⟩ : ∃ wo : World, wo = wr := ⟨_, rfl⟩
    have HNO := Lib.hid hno
    have HBX := Lib.hid hbx
    have HX := Lib.hid hx
    obtain ⟨bb0, bbf⟩ := blk1 hbx
    have hlt0 := blk_lt hbx
    clear hno hbx hx
    by_cases hkn : k < n
    · have hks : k < s.length := by have := HN.out; omega
      obtain ⟨a', n', c', e', hx1, hx2, hx3, hat⟩ := (HS.out.ext HX.out).parts
      simp only [Value.agg.injEq, Array.mk.injEq, List.cons.injEq, Value.slice.injEq, and_true] at e'
      obtain ⟨rfl, rfl, rfl⟩ := e'
      clear hx1 hx2 hx3
      obtain ⟨b, off, rfl, aw, nw, cw, h0, h1, h2, h3, h4, h5⟩ := hat k hks
      have H5 := Lib.hid h5
      have t1 : decide ((k : Int) < (n : Int)) = true := decide_eq_true (by omega)
      have hfk := HF.out _ (List.getElem_mem hks)
      have hfn := hfk.1
      have HFK := Lib.hid hfk
      obtain ⟨f, hfa, hfle, hfany⟩ := attr_dup hks
      have HAI := Lib.hid (show attrIErr s k = if nameB s[k].name = false then 6 else if decide (f < k) = true then 8 else attrErr s[k] by unfold attrIErr; rw [getD_attr hks, hfany])
      have HFA := Lib.hid hfa
      clear hat h5 hfk hfa hfany
      obtain ⟨wa, hwa⟩ : ∃ wa, wa = wo.alloc (.cells #[.string s[k].name, .int .i64 s[k].kind, .slice aw nw cw, .int .i64 s[k].lo, .int .i64 s[k].hi] 91) := ⟨_, rfl⟩
      have hxa : Ext wo wa := by rw [hwa]; exact (Ext.refl _).alloc _
      have hba : wa.heap[wo.heap.size]? = some (.cells #[.string s[k].name, .int .i64 s[k].kind, .slice aw nw cw, .int .i64 s[k].lo, .int .i64 s[k].hi] 91 (0, 0)) := by rw [hwa]; exact alloc_new wo _
      have HXA := Lib.hid hxa
      have HBA := Lib.hid hba
      have HB2 := Lib.hid (hxa.blk HBX.out)
      clear hxa hba
      cases hnb : nameB s[k].name
      · have HNB := Lib.hid hnb
        have HR := Lib.hid (show schemaErr s = 6 by
          rw [HE.out, firstI_hit (k := k) (by rw [HAI.out, if_pos hnb]; omega) HNO.out n hkn]
          show attrIErr s k = 6
          rw [HAI.out, if_pos hnb])
        clear hnb HE
        go_wp2_with fail
        rw [← hwa]
        clear hwa
        refine (name_calls _ _ hfn).mono ?_
        rintro e w' ⟨rfl, rfl⟩
        rw [HNB.out]
        go_wp2_with fail
        go_ret
        exact givesE_of (by rw [HR.out]) (HX.out.trans HXA.out)
      have HNB := Lib.hid hnb
      rw [hnb] at HAI
      simp only [Bool.true_eq_false, if_false] at HAI
      clear hnb
      go_wp2_with fail
      rw [← hwa]
      clear hwa h0 h1 h2 h3 h4 bb0 bbf
      refine (name_calls _ _ hfn).mono ?_
      rintro e w' ⟨rfl, rfl⟩
      rw [HNB.out]
      obtain ⟨d0, df⟩ := blk1 HB2.out
      obtain ⟨a0, a1, a2, a3, a4, af⟩ := blk5b HBA.out
      have hlta := blk_lt HBA.out
      go_wp2_with fail
      refine (sIndex_calls s _ s[k].name _ (HS.out.ext (HX.out.trans HXA.out)) hl).mono ?_
      rintro e w5 ⟨rfl, hx5⟩
      rw [HFA.out, show optV (some f) = .tuple #[.int .i64 f, .bool true] from rfl]
      have HX5 := Lib.hid ((HX.out.trans HXA.out).trans hx5)
      have HB5 := Lib.hid (hx5.blk HB2.out)
      have HBA5 := Lib.hid (hx5.blk HBA.out)
      have H55 := Lib.hid (H5.out.ext (HXA.out.trans hx5))
      clear hx5 d0 df a0 a1 a2 a3 a4 af hlta
      obtain ⟨a0, a1, a2, a3, a4, af⟩ := blk5b HBA5.out
      have hlta := blk_lt HBA5.out
      by_cases hfk : f < k
      · have t2 : decide ((f : Int) < (k : Int)) = true := decide_eq_true (by omega)
        have HR := Lib.hid (show schemaErr s = 8 by
          have h8 : attrIErr s k = 8 := by rw [HAI.out, if_pos (by simpa using hfk)]
          rw [HE.out, firstI_hit (k := k) (by rw [h8]; omega) HNO.out n hkn]
          exact h8)
        clear HE
        go_wp2_with fail
        go_ret
        exact givesE_of (by rw [HR.out]) HX5.out
      have t2 : decide ((f : Int) < (k : Int)) = false := decide_eq_false (by omega)
      have HAK := Lib.hid (show attrIErr s k = attrErr s[k] by rw [HAI.out, if_neg (by simpa using hfk)])
      go_wp2_with fail
      refine (sattr_calls s[k] aw nw cw _ H55.out HFK.out).mono ?_
      rintro e w' ⟨rfl, hx7⟩
      have HX7 := Lib.hid (HX5.out.trans hx7)
      have HB7 := Lib.hid (hx7.blk HB5.out)
      clear hx7 a0 a1 a2 a3 a4 af hlta
      by_cases hz : attrErr s[k] = 0
      · have tz : (attrErr s[k] != 0) = false := by simp [hz]
        have HZ := Lib.hid hz
        clear hz
        go_wp2_with fail
        go_roundw
        case rel =>
          refine ⟨k + 1, by go_num, by omega, fun j hj => ?_, HB7.out, HX7.out⟩
          by_cases e : j = k
          · subst e; rw [HAK.out]; exact HZ.out
          · exact HNO.out j (by omega)
        case measure => simp [intOf]; omega
      · have tz : (attrErr s[k] != 0) = true := by simp [hz]
        have HR := Lib.hid (show schemaErr s = attrErr s[k] by
          rw [HE.out, firstI_hit (k := k) (by rw [HAK.out]; exact hz) HNO.out n hkn]
          exact HAK.out)
        clear hz
        go_wp2_with fail
        go_ret
        exact givesE_of (by rw [HR.out]) HX7.out
    · have t1 : decide ((k : Int) < (n : Int)) = false := decide_eq_false (by omega)
      have HR := Lib.hid (show schemaErr s = 0 by rw [HE.out, firstI_zero n fun j hj => HNO.out j (by omega)])
      go_wp2_with fail
      go_ret
      exact givesE_of (by rw [HR.out]) HX.out
end Go.Proofs.YtfjlglefodndjaaGreatDoor

namespace Go.Proofs.YtfjlglefodndjaaGreatDoor
open Go.RowKit

theorem alloc_atR {w : World} {o : Obj} {n : Nat} (h : n = w.heap.size) : (w.alloc o).heap[n]? = some o := by subst h; exact alloc_new w o
theorem optV_none : optV none = .tuple #[.int .i64 0, .bool false] := rfl
theorem optV_some (i : Nat) : optV (some i) = .tuple #[.int .i64 i, .bool true] := rfl
theorem attrAt_lt {s : List Attr} {x : ByteArray} {i : Nat} (h : attrAt s x = some i) : i < s.length := by
  unfold attrAt at h
  rw [List.findIdx?_eq_some_iff_getElem] at h
  exact h.1
/-- The i-th attribute's cells. -/
theorem IsSchema.cells {w : World} {s : List Attr} {a : Option Addr} {n c : Nat} (h : IsSchema w s (.agg #[.slice a n c])) {i : Nat} (hi : i < s.length) : ∃ b off aw nw cw, a = some ⟨b, off, none⟩ ∧ w.cell? ⟨b, off + i * 5, none⟩ = some (.string s[i].name) ∧ w.cell? ⟨b, off + i * 5 + 1, none⟩ = some (.int .i64 s[i].kind) ∧
    w.cell? ⟨b, off + i * 5 + 2, none⟩ = some (.slice aw nw cw) ∧ w.cell? ⟨b, off + i * 5 + 3, none⟩ = some (.int .i64 s[i].lo) ∧ w.cell? ⟨b, off + i * 5 + 4, none⟩ = some (.int .i64 s[i].hi) ∧ IsStrs w s[i].words aw nw cw := by
  obtain ⟨a', n', c', e', _, _, _, hat⟩ := h.parts
  simp only [Value.agg.injEq, Array.mk.injEq, List.cons.injEq, Value.slice.injEq, and_true] at e'
  obtain ⟨rfl, rfl, rfl⟩ := e'
  obtain ⟨b, off, rfl, aw, nw, cw, h0, h1, h2, h3, h4, h5⟩ := hat i hi
  exact ⟨b, off, aw, nw, cw, rfl, h0, h1, h2, h3, h4, h5⟩
theorem IsSchema.slice {w : World} {s : List Attr} {v : Value} (h : IsSchema w s v) : ∃ a n c, v = .agg #[.slice a n c] ∧ n = s.length := by
  obtain ⟨a, n, c, rfl, hn, _⟩ := h.parts
  exact ⟨a, n, c, rfl, hn⟩
set_option maxRecDepth 100000 in
set_option maxHeartbeats 8000000 in
theorem rnodeErr_calls (s : List Attr) (sv : Value) (l : List Cla) (a : Option Addr) (n c : Nat) (e : Ex) (ev : Value) (w : World) (hs : IsSchema w s sv) (hf : ∀ x ∈ s, x.fits) (hsl : s.length ≤ 1000000000000000) (hl : IsClas w l a n c) (hn : n ≤ 1000000000000000) (he : IsEx w e ev) (hew : e.words.length ≤ 1000000000000000) :
    Calls Tryz.prog 58 #[sv, .slice a n c, ev] w (GivesE (.int .i64 (nodeErr s l e.op e.name e.words e.lo e.hi)) w) := by
  obtain ⟨sa, sn, sc, rfl, hsn⟩ := hs.slice
  obtain ⟨aw, nw, cw, aa, na, ca, rfl, hw, hna, hca, ha, hx⟩ := he.parts
  have HS := Lib.hid hs
  have HF := Lib.hid hf
  have HL := Lib.hid hl
  have HW := Lib.hid hw
  have HSN := Lib.hid hsn
  have HNW := Lib.hid hw.1
  have hnw : nw ≤ 1000000000000000 := by rw [hw.1]; exact hew
  have hsn2 : sn ≤ 1000000000000000 := by omega
  clear hs hf hl hw hsn he hna hca ha hx hew
  unfold exV
  obtain ⟨op, name, words, lo, hi, args⟩ := e
  simp only [Ex.op, Ex.name, Ex.words, Ex.lo, Ex.hi] at *
  obtain ⟨wa, hwa⟩ : ∃ wa, wa = (w.alloc (.cells #[.slice sa sn sc] 24)).alloc (.cells #[.int .i64 op, .string name, .slice aw nw cw, .int .i64 lo, .int .i64 hi, .slice aa na ca] 29) := ⟨_, rfl⟩
  have hxa : Ext w wa := by rw [hwa]; exact ((Ext.refl _).alloc _).alloc _
  have hb0 : wa.heap[w.heap.size]? = some (.cells #[.slice sa sn sc] 24 (0, 0)) := by rw [hwa]; exact blk_alloc (alloc_new w _)
  have hb1 : wa.heap[w.heap.size + 1]? = some (.cells #[.int .i64 op, .string name, .slice aw nw cw, .int .i64 lo, .int .i64 hi, .slice aa na ca] 29 (0, 0)) := by rw [hwa]; exact alloc_atR (by simp)
  have HI := Lib.hid (rIndex_calls s _ name wa (HS.out.ext hxa) (by have := HSN.out; omega))
  have HXA := Lib.hid hxa
  have HB0 := Lib.hid hb0
  have HB1 := Lib.hid hb1
  clear hxa hb0 hb1
  obtain ⟨E, hE⟩ : ∃ E, E = nodeErr s l op name words lo hi := ⟨_, rfl⟩
  rw [← hE]
  have HE := Lib.hid hE
  clear hE
  cases ho : attrAt s name with
  | none =>
    rw [ho, optV_none] at HI
    have HO := Lib.hid ho
    go_enter Tryz.func58, Tryz.ntmps58
    go_wp2_with fail
    rw [← hwa]
    refine HI.out.mono ?_
    rintro r w3 ⟨rfl, hx3⟩
    obtain ⟨d0, df⟩ := blk1 (hx3.blk HB0.out)
    obtain ⟨f0, f1, f2, f3, f4, f5, ff⟩ := blk6 (hx3.blk HB1.out)
    have hlt := blk_lt (hx3.blk HB1.out)
    have HX3 := Lib.hid (HXA.out.trans hx3)
    clear hx3 ho HI
    by_cases h3 : op = 3
    · subst h3
      cases hd : defAt l name with
      | none =>
        have HR := Lib.hid (show E = 7 by rw [HE.out]; simp [nodeErr, HO.out, hd])
        have HD := Lib.hid (rDef_calls l a n c name w3 (HL.out.ext HX3.out) hn)
        rw [hd, optV_none] at HD
        clear hd
        go_wp2_with fail
        refine HD.out.mono ?_
        rintro r w4 ⟨rfl, rfl⟩
        go_wp2_with fail
        go_ret
        exact givesE_of (by rw [HR.out]) HX3.out
      | some d =>
        have HR := Lib.hid (show E = 0 by rw [HE.out]; simp [nodeErr, HO.out, hd])
        have HD := Lib.hid (rDef_calls l a n c name w3 (HL.out.ext HX3.out) hn)
        rw [hd, optV_some] at HD
        clear hd
        go_wp2_with fail
        refine HD.out.mono ?_
        rintro r w4 ⟨rfl, rfl⟩
        go_wp2_with fail
        go_ret
        exact givesE_of (by rw [HR.out]) HX3.out
    · have e3 : (op == 3) = false := by simp [h3]
      by_cases h4 : op = 4
      · subst h4
        have HR := Lib.hid (show E = 7 by rw [HE.out]; simp [nodeErr, HO.out])
        go_wp2_with fail
        go_ret
        exact givesE_of (by rw [HR.out]) HX3.out
      · have e4 : (op == 4) = false := by simp [h4]
        by_cases h5 : op = 5
        · subst h5
          have HR := Lib.hid (show E = 7 by rw [HE.out]; simp [nodeErr, HO.out])
          go_wp2_with fail
          go_ret
          exact givesE_of (by rw [HR.out]) HX3.out
        · have e5 : (op == 5) = false := by simp [h5]
          have HR := Lib.hid (show E = 0 by rw [HE.out]; simp [nodeErr, h3, h4, h5])
          go_wp2_with fail
          go_ret
          exact givesE_of (by rw [HR.out]) HX3.out
  | some i =>
    rw [ho, optV_some] at HI
    have HO := Lib.hid ho
    have his := attrAt_lt ho
    have hin : i < sn := by have := HSN.out; omega
    go_enter Tryz.func58, Tryz.ntmps58
    go_wp2_with fail
    rw [← hwa]
    refine HI.out.mono ?_
    rintro r w3 ⟨rfl, hx3⟩
    obtain ⟨d0, df⟩ := blk1 (hx3.blk HB0.out)
    obtain ⟨f0, f1, f2, f3, f4, f5, ff⟩ := blk6 (hx3.blk HB1.out)
    have hlt := blk_lt (hx3.blk HB1.out)
    have HX3 := Lib.hid (HXA.out.trans hx3)
    have HB13 := Lib.hid (hx3.blk HB1.out)
    obtain ⟨sb, soff, xw, xn, xc, rfl, g0, g1, g2, g3, g4, g5⟩ := (HS.out.ext HX3.out).cells his
    have HG5 := Lib.hid g5
    have HGD := Lib.hid (getD_attr his)
    have ti0 : (0 : Int) ≤ (i : Int) := by omega
    have ti1 : (i : Int) < (sn : Int) := by omega
    have hfi := HF.out _ (List.getElem_mem his)
    have hxn : xn ≤ 1000000000000000 := by rw [g5.1]; exact hfi.2.1
    clear hx3 ho HI g5 hfi
    by_cases h3 : op = 3
    · subst h3
      have HD := Lib.hid (rDef_calls l a n c name w3 (HL.out.ext HX3.out) hn)
      by_cases hk : s[i].kind = 3
      · have tk : (s[i].kind != 3) = false := by simp [hk]
        have HR := Lib.hid (show E = 0 by rw [HE.out]; simp only [nodeErr, if_true, HO.out, HGD.out]; simp [hk])
        clear hk
        go_wp2_with fail
        refine HD.out.mono ?_
        rintro r w4 ⟨rfl, rfl⟩
        unfold optV
        go_wp2_with fail
        go_ret
        exact givesE_of (by rw [HR.out]) HX3.out
      · have tk : (s[i].kind != 3) = true := by simp [hk]
        have HR := Lib.hid (show E = 9 by rw [HE.out]; simp only [nodeErr, if_true, HO.out, HGD.out]; simp [hk])
        clear hk
        go_wp2_with fail
        refine HD.out.mono ?_
        rintro r w4 ⟨rfl, rfl⟩
        unfold optV
        go_wp2_with fail
        go_ret
        exact givesE_of (by rw [HR.out]) HX3.out
    · have e3 : (op == 3) = false := by simp [h3]
      by_cases h4 : op = 4
      · subst h4
        by_cases hk : s[i].kind = 1
        · have tk : (s[i].kind != 1) = false := by simp [hk]
          have HR := Lib.hid (show E = if (words.all fun x => s[i].words.any fun y => decide (y = x)) = false then 7 else 0 by rw [HE.out]; simp only [nodeErr, HO.out, HGD.out]; simp [hk])
          clear hk
          go_upto_region 15 with fail
          obtain ⟨wb, hwb⟩ : ∃ wb, wb = w3.alloc (.cells #[.string s[i].name, .int .i64 s[i].kind, .slice xw xn xc, .int .i64 s[i].lo, .int .i64 s[i].hi] 91) := ⟨_, rfl⟩
          rw [← hwb]
          have hxb : Ext w3 wb := by rw [hwb]; exact (Ext.refl _).alloc _
          have hbb : wb.heap[w3.heap.size]? = some (.cells #[.string s[i].name, .int .i64 s[i].kind, .slice xw xn xc, .int .i64 s[i].lo, .int .i64 s[i].hi] 91 (0, 0)) := by rw [hwb]; exact alloc_new w3 _
          have HBB := Lib.hid hbb
          have HB6 := Lib.hid (hxb.blk HB13.out)
          have HXB := Lib.hid (HX3.out.trans hxb)
          have HGB := Lib.hid (HG5.out.ext hxb)
          have HWB := Lib.hid (HW.out.ext HXB.out)
          clear hwb hxb hbb d0 df f0 f1 f2 f3 f4 f5 ff g0 g1 g2 g3 g4 HG5
          go_wp2_with fail
          go_loopw [12] (fun t wr => ∃ k : Nat, t = .int .i64 k ∧ k ≤ nw ∧ (∀ j (h : j < words.length), j < k → (s[i].words.any fun y => decide (y = words[j])) = true) ∧ Ext wb wr) (fun t _ => nw - (intOf t).toNat)
          case atStart => exact ⟨0, rfl, by omega, fun j _ h => by omega, Ext.refl _⟩
          case round =>
            obtain ⟨k, rfl, hk, hall, hxr⟩ := hrel
            have HALL := Lib.hid hall
            have HXR := Lib.hid hxr
            obtain ⟨p0, p1, p2, p3, p4, pf⟩ := blk5b (hxr.blk HBB.out)
            obtain ⟨q0, q1, q2, q3, q4, q5, qf⟩ := blk6 (hxr.blk HB6.out)
            clear hall hxr
            by_cases hkn : k < nw
            · have hkw : k < words.length := by have := HNW.out; omega
              have t1 : decide ((k : Int) < (nw : Int)) = true := decide_eq_true (by omega)
              obtain ⟨wb', woff, rfl, cw0⟩ := (HWB.out.ext HXR.out).2.2.2 k hkw
              have tk0 : (0 : Int) ≤ (k : Int) := by omega
              have tk1 : (k : Int) < (nw : Int) := by omega
              have HWI := Lib.hid (fun (q : Nat) => rWithin_calls s[i].words xw xn xc words[k] (wr.drewN q) (HGB.out.ext (HXR.out.drewN q)) hxn)
              cases hany : (s[i].words.any fun y => decide (y = words[k]))
              · have HA := Lib.hid hany
                rw [hany] at HWI
                have HR2 := Lib.hid (show E = 7 by
                  rw [HR.out, if_pos]
                  rw [List.all_eq_false]
                  exact ⟨words[k], List.getElem_mem hkw, by rw [hany]; simp⟩)
                clear hany
                go_wp2_with fail
                go_quiet ((go_at_call 86; exact quiet_gives (HWI.out _)))
                go_wp2_with fail
                go_ret
                exact givesE_of (by rw [HR2.out]) ((HXB.out.trans HXR.out).drewN _)
              · have HA := Lib.hid hany
                rw [hany] at HWI
                clear hany
                go_wp2_with fail
                go_quiet ((go_at_call 86; exact quiet_gives (HWI.out _)))
                go_wp2_with fail
                go_roundw
                case rel =>
                  refine ⟨k + 1, by go_num, by omega, fun j hj hjk => ?_, HXR.out.drewN _⟩
                  by_cases e : j = k
                  · subst e; exact HA.out
                  · exact HALL.out j hj (by omega)
                case measure => simp [intOf]; omega
            · have t1 : decide ((k : Int) < (nw : Int)) = false := decide_eq_false (by omega)
              have HR2 := Lib.hid (show E = 0 by
                rw [HR.out, if_neg]
                rw [Bool.not_eq_false, List.all_eq_true]
                intro y hy
                obtain ⟨j, hj, rfl⟩ := List.mem_iff_getElem.1 hy
                exact HALL.out j hj (by have := HNW.out; omega))
              go_wp2_with fail
              go_ret
              exact givesE_of (by rw [HR2.out]) (HXB.out.trans HXR.out)
        · have tk : (s[i].kind != 1) = true := by simp [hk]
          have HR := Lib.hid (show E = 9 by rw [HE.out]; simp only [nodeErr, HO.out, HGD.out]; simp [hk])
          clear hk
          go_wp2_with fail
          go_ret
          exact givesE_of (by rw [HR.out]) (HX3.out.alloc _)
      · have e4 : (op == 4) = false := by simp [h4]
        by_cases h5 : op = 5
        · subst h5
          by_cases hk : s[i].kind = 2
          · have tk : (s[i].kind != 2) = false := by simp [hk]
            have HR := Lib.hid (show E = if lo < s[i].lo ∨ s[i].hi < hi then 1 else 0 by rw [HE.out]; simp only [nodeErr, HO.out, HGD.out]; simp [hk])
            clear hk
            go_wp2_with fail
            all_goals (go_ret; exact givesE_of (by rw [HR.out]; simp_all <;> omega) (HX3.out.alloc _))
          · have tk : (s[i].kind != 2) = true := by simp [hk]
            have HR := Lib.hid (show E = 9 by rw [HE.out]; simp only [nodeErr, HO.out, HGD.out]; simp [hk])
            clear hk
            go_wp2_with fail
            go_ret
            exact givesE_of (by rw [HR.out]) (HX3.out.alloc _)
        · have e5 : (op == 5) = false := by simp [h5]
          have HR := Lib.hid (show E = 0 by rw [HE.out]; simp [nodeErr, h3, h4, h5])
          go_wp2_with fail
          go_ret
          exact givesE_of (by rw [HR.out]) HX3.out
end Go.Proofs.YtfjlglefodndjaaGreatDoor

namespace Go.Proofs.YtfjlglefodndjaaGreatDoor

/-! The plain law of the expanded sizes: sizes that are found in an order of the definitions are those that the reference counts. -/
mutual
/-- A name has no arguments. -/
def bareE : Ex → Bool
  | .mk op _ _ _ _ args => (op != 3 || args.isEmpty) && bareL args
def bareL : List Ex → Bool
  | [] => true
  | e :: r => bareE e && bareL r
end
mutual
/-- What the program counts. -/
def szE (D : ByteArray → Option Nat) : Ex → Nat
  | .mk op name _ _ _ args => match (if op = 3 then D name else none) with | some n => n | none => szL D 1 args
def szL (D : ByteArray → Option Nat) : Nat → List Ex → Nat
  | n, [] => n
  | n, e :: r => szL D (min (n + szE D e) 2001) r
end
theorem szE_eq' (D : ByteArray → Option Nat) (e : Ex) : szE D e = match (if e.op = 3 then D e.name else none) with | some n => n | none => szL D 1 e.args := by cases e; rw [szE]; rfl
theorem szL_snoc (D : ByteArray → Option Nat) : (l : List Ex) → (n : Nat) → (e : Ex) → szL D n (l ++ [e]) = min (szL D n l + szE D e) 2001
  | [], n, e => by simp [szL]
  | x :: r, n, e => by simp [szL, szL_snoc D r]
theorem szL_take_succ (D : ByteArray → Option Nat) (l : List Ex) (n k : Nat) (h : k < l.length) : szL D n (l.take (k + 1)) = min (szL D n (l.take k) + szE D l[k]) 2001 := by
  rw [List.take_succ_eq_append_getElem h, szL_snoc]
mutual
theorem szE_exp {D : ByteArray → Option Nat} (hD : ∀ s n, D s = some n → n ≤ 2001) : (e : Ex) → bareE e = true → szE D e = expE D e
  | .mk op name words lo hi args, h => by
    rw [bareE, Bool.and_eq_true] at h
    rw [szE, expE]
    have hl := szL_exp hD args h.2
    by_cases h3 : op = 3
    · have ha : args = [] := by
        have := h.1
        rw [h3] at this
        simpa using this
      subst ha
      simp only [if_pos h3]
      cases hd : D name with
      | none => simp [szL, expL]
      | some n => have := hD name n hd; simp [expL]; omega
    · simp only [if_neg h3]
      exact hl 1 (by omega)
theorem szL_exp {D : ByteArray → Option Nat} (hD : ∀ s n, D s = some n → n ≤ 2001) : (l : List Ex) → bareL l = true → ∀ n, n ≤ 2001 → szL D n l = min (n + expL D l) 2001
  | [], _, n, hn => by simp [szL, expL]; omega
  | e :: r, h, n, hn => by
    rw [bareL, Bool.and_eq_true] at h
    rw [szL, expL, szL_exp hD r h.2 _ (by omega), szE_exp hD e h.1]
    omega
end
mutual
theorem expE_congr {D D' : ByteArray → Option Nat} : (e : Ex) → (∀ s ∈ namesE e, D s = D' s) → expE D e = expE D' e
  | .mk op name words lo hi args, h => by
    rw [expE, expE]
    rw [namesE] at h
    rw [expL_congr args fun s hs => h s (List.mem_append_right _ hs)]
    by_cases h3 : op = 3
    · rw [if_pos h3, if_pos h3, h name (List.mem_append_left _ (by simp [h3]))]
    · rw [if_neg h3, if_neg h3]
theorem expL_congr {D D' : ByteArray → Option Nat} : (l : List Ex) → (∀ s ∈ namesL l, D s = D' s) → expL D l = expL D' l
  | [], _ => by rw [expL, expL]
  | e :: r, h => by
    rw [namesL] at h
    rw [expL, expL, expE_congr e fun s hs => h s (List.mem_append_left _ hs), expL_congr r fun s hs => h s (List.mem_append_right _ hs)]
end
theorem findIdx_map {α β : Type} (f : α → β) (p : β → Bool) (l : List α) : (l.map f).findIdx? p = l.findIdx? (fun x => p (f x)) := by
  rw [List.findIdx?_map]; rfl
theorem firstAt_dfn (l : List Cla) (s : ByteArray) : firstAt (l.map Cla.dfn) s = defAt l s := by
  unfold firstAt defAt
  rw [findIdx_map]
  rfl
theorem getD_cla {l : List Cla} {i : Nat} (h : i < l.length) : l.getD i cla0 = l[i] := by simp [h]
theorem isDef_dfn {l : List Cla} {i : Nat} (h : i < l.length) : isDef (l.map Cla.dfn) i = (l[i].kind == 1) := by
  unfold isDef
  simp [h, Cla.dfn]
theorem usesAt_dfn {l : List Cla} {i : Nat} (h : i < l.length) : usesAt (l.map Cla.dfn) i = refNames (namesE l[i].cond) := by
  unfold usesAt
  simp [h, Cla.dfn]
theorem nameAt_dfn {l : List Cla} {i : Nat} (h : i < l.length) : nameAt (l.map Cla.dfn) i = l[i].name := by
  unfold nameAt
  simp [h, Cla.dfn]
theorem defAt_lt {l : List Cla} {s : ByteArray} {d : Nat} (h : defAt l s = some d) : d < l.length := by
  unfold defAt at h
  rw [List.findIdx?_eq_some_iff_getElem] at h
  exact h.1
theorem defAt_name {l : List Cla} {s : ByteArray} {d : Nat} (h : defAt l s = some d) : (l.getD d cla0).name = s ∧ (l.getD d cla0).kind = 1 := by
  have hd := defAt_lt h
  unfold defAt at h
  rw [List.findIdx?_eq_some_iff_getElem] at h
  obtain ⟨_, h1, _⟩ := h
  simp only [Bool.and_eq_true, beq_iff_eq, decide_eq_true_eq] at h1
  rw [getD_cla hd]
  exact ⟨h1.2, h1.1⟩
theorem Topo.lt {l : List Dfn} {o : List Nat} (h : Topo l o) {i : Nat} (hi : i ∈ o) : i < l.length := isDef_lt ((h.all i).1 hi)
theorem Topo.len {l : List Dfn} {o : List Nat} (h : Topo l o) : o.length ≤ l.length := by
  have := nodup_le o (List.range l.length) h.nodup fun x hx => List.mem_range.2 (h.lt hx)
  simpa using this
/-- A definition's size does not depend on how many more may be open. -/
theorem expF_stable {l : List Cla} {o : List Nat} (h : Topo (l.map Cla.dfn) o) : ∀ (q d : Nat), o[q]? = some d → ∀ f g, q < f → q < g → expF l f (l.getD d cla0).cond = expF l g (l.getD d cla0).cond := by
  intro q
  induction q using Nat.strongRecOn with
  | ind q ih =>
    intro d hd f g hf hg
    obtain ⟨f, rfl⟩ : ∃ k, f = k + 1 := ⟨f - 1, by omega⟩
    obtain ⟨g, rfl⟩ : ∃ k, g = k + 1 := ⟨g - 1, by omega⟩
    rw [expF, expF]
    refine expE_congr _ fun s hs => ?_
    have hdl : d < l.length := by simpa using h.lt (List.mem_of_getElem? hd)
    cases hda : defAt l s with
    | none => rfl
    | some d' =>
      have h1 := h.after q d hd s (by rw [usesAt_dfn hdl, refNames_mem]; rwa [getD_cla hdl] at hs) d' (by rw [firstAt_dfn]; exact hda)
      obtain ⟨q', hq'⟩ := List.mem_iff_getElem?.1 h1
      have hlt : q' < q := by
        rcases Nat.lt_or_ge q' q with h' | h'
        · exact h'
        · rw [List.getElem?_eq_none (by simp; omega)] at hq'; cases hq'
      rw [List.getElem?_take, if_pos hlt] at hq'
      simp only [Option.map_some, Option.some.injEq]
      exact ih q' hlt d' hq' f g (by omega) (by omega)
/-- The sizes that are found one after the other. -/
def sizesF (l : List Cla) (o : List Nat) : ByteArray → Option Nat := o.foldl (fun D i s => if s = (l.getD i cla0).name then some (szE D (l.getD i cla0).cond) else D s) (fun _ => none)
theorem sizesF_snoc (l : List Cla) (o : List Nat) (i : Nat) (s : ByteArray) : sizesF l (o ++ [i]) s = if s = (l.getD i cla0).name then some (szE (sizesF l o) (l.getD i cla0).cond) else sizesF l o s := by simp [sizesF]
theorem szE_bound {D : ByteArray → Option Nat} (hD : ∀ s n, D s = some n → n ≤ 2001) (e : Ex) (h : bareE e = true) : szE D e ≤ 2001 := by rw [szE_exp hD e h]; exact expE_le D e
theorem sizesF_spec {l : List Cla} {o : List Nat} (h : Topo (l.map Cla.dfn) o) (hu : ∀ i ∈ o, defAt l (l.getD i cla0).name = some i) (hb : ∀ i ∈ o, bareE (l.getD i cla0).cond = true) :
    ∀ p, p ≤ o.length → ∀ s, sizesF l (o.take p) s = match defAt l s with | some d => if d ∈ o.take p then some (expF l l.length (l.getD d cla0).cond) else none | none => none := by
  have hol : o.length ≤ l.length := by simpa using h.len
  intro p
  induction p with
  | zero =>
    intro _ s
    simp only [List.take_zero, List.not_mem_nil, if_false]
    cases defAt l s <;> rfl
  | succ p ih =>
    intro hp s
    have hp' : p < o.length := by omega
    have IH := ih (by omega)
    have hD : ∀ s n, sizesF l (o.take p) s = some n → n ≤ 2001 := by
      intro s n hn
      rw [IH s] at hn
      cases hd : defAt l s with
      | none => rw [hd] at hn; cases hn
      | some d =>
        rw [hd] at hn
        simp only at hn
        split at hn
        · cases hn; exact expF_le _ _ _
        · cases hn
    have him : o[p] ∈ o := List.getElem_mem hp'
    have hil : o[p] < l.length := by simpa using h.lt him
    rw [List.take_succ_eq_append_getElem hp', sizesF_snoc]
    have key : szE (sizesF l (o.take p)) (l.getD o[p] cla0).cond = expF l l.length (l.getD o[p] cla0).cond := by
      rw [szE_exp hD _ (hb _ him), expF_stable h p o[p] (List.getElem?_eq_getElem hp') l.length (l.length + 1) (by omega) (by omega), expF]
      refine expE_congr _ fun t ht => ?_
      rw [IH t]
      cases hda : defAt l t with
      | none => rfl
      | some d =>
        have h1 := h.after p o[p] (List.getElem?_eq_getElem hp') t (by rw [usesAt_dfn hil, refNames_mem]; rwa [getD_cla hil] at ht) d (by rw [firstAt_dfn]; exact hda)
        simp [h1]
    by_cases hs : s = (l.getD o[p] cla0).name
    · rw [if_pos hs, key, hs, hu _ him]
      simp only [List.mem_append, List.mem_singleton, or_true, if_true]
    · rw [if_neg hs, IH s]
      cases hd : defAt l s with
      | none => rfl
      | some d =>
        have hne : d ≠ o[p] := fun e => hs (by rw [← e]; exact (defAt_name hd).1.symm)
        simp only [List.mem_append, List.mem_singleton, hne, or_false]
/-- With all sizes found, the program's count is the reference's. -/
theorem sizes_exp {l : List Cla} {o : List Nat} (h : Topo (l.map Cla.dfn) o) (hu : ∀ i ∈ o, defAt l (l.getD i cla0).name = some i) (hb : ∀ i ∈ o, bareE (l.getD i cla0).cond = true) (e : Ex) (he : bareE e = true) : szE (sizesF l o) e = expanded l e := by
  have hs := sizesF_spec h hu hb o.length (Nat.le_refl _)
  rw [List.take_length] at hs
  have hD : ∀ s n, sizesF l o s = some n → n ≤ 2001 := by
    intro s n hn
    rw [hs s] at hn
    cases hd : defAt l s with
    | none => rw [hd] at hn; cases hn
    | some d =>
      rw [hd] at hn
      simp only at hn
      split at hn
      · cases hn; exact expF_le _ _ _
      · cases hn
  rw [szE_exp hD e he, expanded, expF]
  refine expE_congr _ fun t ht => ?_
  rw [hs t]
  cases hda : defAt l t with
  | none => rfl
  | some d =>
    have hdl := defAt_lt hda
    have : d ∈ o := (h.all d).2 (by rw [isDef_dfn hdl, ← getD_cla hdl, (defAt_name hda).2]; rfl)
    simp [this]
end Go.Proofs.YtfjlglefodndjaaGreatDoor
