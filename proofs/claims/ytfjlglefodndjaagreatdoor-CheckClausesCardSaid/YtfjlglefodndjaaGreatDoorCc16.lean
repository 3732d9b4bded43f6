/-
  Texts of the claim, joined: ROrd2, RCls, MapAt, Heap1.
-/
import Derived.Test.YtfjlglefodndjaaGreatDoorCc15
import Derived.Test.YtfjlglefodndjaaGreatDoorCc13
import Derived.Test.YtfjlglefodndjaaGreatDoorCc14
import Derived.Deep.LoopGhost
import Derived.Test.YtfjlglefodndjaaGreatDoorCc03
import Derived.StringKeys
import Derived.Maps.OwnSet
import Derived.Maps.Range
import Derived.Lib.Builder
namespace Go.Proofs.YtfjlglefodndjaaGreatDoor
open Go.RowKit

theorem elemIntsR : ElemT 30 3 (.int .i64 0) 1 8 := ⟨by kernel_rfl, by kernel_rfl, rfl, by omega⟩
def natCs (l : List Nat) : List Value := l.map fun (i : Nat) => Value.int .i64 (i : Int)
theorem owns_formR {w : World} {base : Nat} {e : TypeId} {size : Nat} {v : Value} {n : Nat} {xs : List Value} (h : w.ownsRow base e size v n xs) : ∃ a c, v = .slice a n c := by
  rcases h.2 with ⟨rfl, h0⟩ | ⟨g, cap, cur, rfl, _⟩
  · exact ⟨none, 0, by rw [h0]⟩
  · exact ⟨_, _, rfl⟩
/-- The reference's Order: an order, or ErrCycle. -/
def ROrdQ (l : List Dfn) (w : World) (e : Ending) (w' : World) : Prop := Ext w w' ∧ ((Sorts l ∧ ∃ a n c, e = .returned (.tuple #[.slice a n c, .int .i64 0])) ∨ (¬ Sorts l ∧ e = .returned (.tuple #[.slice none 0 0, .int .i64 10])))
def RO1 (w wb : World) (l : List Dfn) (bs n m : Nat) (v : Value) (wr : World) : Prop := ∃ o, m = countOf l - o.length ∧ RInv l o ∧ wr.ownsRow wb.heap.size 3 1 v o.length (natCs o) ∧ SeenAt bs (marks o n) wr ∧ Ext w wr ∧ wb.heap.size ≤ wr.heap.size
/-- Looking for the next: none so far, or found. -/
def RO2 (w3 : World) (l : List Dfn) (o : List Nat) (n : Nat) (nx lf i : Value) (wr : World) : Prop := ∃ k : Nat, i = .int .i64 k ∧ k ≤ n ∧ Ext w3 wr ∧
  ((nx = .int .i64 (-1) ∧ (∃ b : Bool, lf = .bool b ∧ (b = true ↔ ∃ j, j < k ∧ isDef l j = true ∧ j ∉ o)) ∧ ∀ j, j < k → isDef l j = true → j ∉ o → missL l o j ≠ []) ∨ (∃ (p : Nat) (b : Bool), nx = .int .i64 p ∧ lf = .bool b ∧ p < n ∧ isDef l p = true ∧ p ∉ o ∧ missL l o p = []))
def RO3 (w5 : World) (l : List Dfn) (o : List Nat) (nm : List ByteArray) (rd i : Value) (wr : World) : Prop := ∃ (k : Nat) (b : Bool), i = .int .i64 k ∧ k ≤ nm.length ∧ rd = .bool b ∧ (b = true ↔ ∀ s ∈ nm.take k, ∀ d, firstAt l s = some d → d ∈ o) ∧ Ext w5 wr
theorem ro3_step {l : List Dfn} {o : List Nat} {nm : List ByteArray} {k : Nat} (hk : k < nm.length) {b : Bool} (h : b = true ↔ ∀ s ∈ nm.take k, ∀ d, firstAt l s = some d → d ∈ o) {b' : Bool} (hb : b' = true ↔ ∀ d, firstAt l nm[k] = some d → d ∈ o) : (b && b') = true ↔ ∀ s ∈ nm.take (k + 1), ∀ d, firstAt l s = some d → d ∈ o := by
  rw [Bool.and_eq_true, h, hb, List.take_succ_eq_append_getElem hk]
  constructor
  · rintro ⟨h1, h2⟩ s hs d hd
    rcases List.mem_append.1 hs with h3 | h3
    · exact h1 s h3 d hd
    · simp only [List.mem_singleton] at h3; subst h3; exact h2 d hd
  · intro h1
    exact ⟨fun s hs => h1 s (List.mem_append_left _ hs), h1 nm[k] (List.mem_append_right _ (by simp))⟩
set_option maxRecDepth 100000 in
set_option maxHeartbeats 8000000 in
theorem rOrder_calls (l : List Cla) (a : Option Addr) (n c : Nat) (w : World) (hl : IsClas w l a n c) (hn : n ≤ 1000) (hsz : ∀ x ∈ l, x.cond.size ≤ 100000) :
    Calls Tryz.prog 37 #[.slice a n c] w (ROrdQ (l.map Cla.dfn) w) := by
  have HL := Lib.hid hl
  have HN := Lib.hid hl.len
  have HSZ := Lib.hid hsz
  obtain ⟨dl, hdl⟩ : ∃ dl, dl = l.map Cla.dfn := ⟨_, rfl⟩
  have HDL := Lib.hid hdl
  have HDN := Lib.hid (show n = dl.length by rw [hdl]; simpa using hl.len)
  rw [← hdl]
  clear hl hsz hdl
  obtain ⟨i0, hi0, hz0, hz1, hz2⟩ := info_parts elemBools.info
  have hcn : countOf dl ≤ 1000 := by
    have h1 := HDN.out
    have h2 : countOf dl ≤ dl.length := by
      unfold countOf
      have := List.length_filter_le (isDef dl) (List.range dl.length)
      simpa using this
    omega
  go_enter Tryz.func37, Tryz.ntmps37
  go_wp2_with (at_make; refine wpList_make_full _ rfl _ _ 106 rfl w.heap.size 4 i0 (.bool false) 1 elemBools.ht hi0 hz0 hz1 _ _ _ _ n rfl rfl rfl rfl ?c1 ?c2 ?c3 ?_)
  case c1 => rw [hz2]; omega
  case c2 => unfold maxLen; omega
  case c3 => omega
  intro wb hown3 hgrow3
  obtain ⟨bs, hbs⟩ : ∃ bs, bs = w.heap.size := ⟨_, rfl⟩
  rw [← hbs] at hown3 ⊢
  have HS3 := Lib.hid (SeenAt.of_owns hown3)
  have HX3 := Lib.hid (show Ext w wb from ⟨hgrow3.os, hgrow3.tape, hgrow3.output, hgrow3.size, fun k hk => hgrow3.block k hk (by simp)⟩)
  have HBS := Lib.hid hbs
  have hbl := HS3.out.lt
  clear hown3 hgrow3 hbs
  go_wp2_with fail
  go_loopg [4] (countOf dl) (RO1 w wb dl bs n)
  case atStart => exact ⟨[], rfl, RInv.start dl, World.ownsRow_nil _ _ _ _, by rw [marks_nil]; exact HS3.out, HX3.out, Nat.le_refl _⟩
  case round =>
    obtain ⟨o, hm, hinv, hown, hseen, hx, hwbz⟩ := hrel
    obtain ⟨wo, rfl⟩ : ∃ wo : World, wo = wr := ⟨_, rfl⟩
    have HM := Lib.hid hm
    have HI := Lib.hid hinv
    have HO := Lib.hid hown
    have HSE := Lib.hid hseen
    have HX := Lib.hid hx
    obtain ⟨oa, oc, hov⟩ := owns_formR hown
    subst hov
    have hol := hinv.le
    clear hm hinv hown hseen hx HS3 HX3
    go_wp2_with fail
    go_loopw [6, 7, 8] (RO2 wo dl o n) (fun _ _ i _ => n - (intOf i).toNat)
    case atStart => exact ⟨0, rfl, by omega, Ext.refl _, Or.inl ⟨rfl, ⟨false, rfl, by simp⟩, fun j h => by omega⟩⟩
    case round =>
      obtain ⟨k, rfl, hk, hxk, hcase⟩ := hrel
      obtain ⟨wk, rfl⟩ : ∃ wk : World, wk = wr := ⟨_, rfl⟩
      have HXK := Lib.hid hxk
      clear hxk
      rcases hcase with ⟨rfl, ⟨b, rfl, hb⟩, hno⟩ | ⟨p, b, rfl, rfl, hpn, hpd, hpo, hpm⟩
      · have HB := Lib.hid hb
        have HNO := Lib.hid hno
        clear hb hno
        by_cases hkn : k < n
        · have hkl : k < l.length := by have := HN.out; omega
          have t1 : decide ((k : Int) < (n : Int)) = true := decide_eq_true (by omega)
          obtain ⟨cb, coff, v, rfl, hcla, hrow⟩ := (HL.out.ext (HX.out.trans HXK.out)).at hkl
          obtain ⟨c0, c1, c2, c3, c4, c5, c6, c7, c8, c9⟩ := hrow.ten
          have HEX := Lib.hid hcla.2.2.1
          have hkk := hcla.1
          have HID := Lib.hid (show isDef dl k = (l[k].kind == 1) by rw [HDL.out]; exact isDef_dfn hkl)
          have HUS := Lib.hid (show usesAt dl k = refNames (namesE l[k].cond) by rw [HDL.out]; exact usesAt_dfn hkl)
          rw [hkk] at c0
          have hLk : k < (marks o n).length := by rw [marks_len]; exact hkn
          have hcs := (HSE.out.ext HXK.out).cell hLk
          rw [marks_at hkn] at hcs
          have ti0 : (0 : Int) ≤ (k : Int) := by omega
          have ti1 : (k : Int) < (n : Int) := by omega
          clear hcla hrow hkk c1 c8 c9
          by_cases hgo : isDef dl k = true ∧ k ∉ o
          · obtain ⟨hgd, hgo⟩ := hgo
            have tk : (l[k].kind != 1) = false := by rw [HID.out] at hgd; simp [bne, hgd]
            have tdone : decide (k ∈ o) = false := decide_eq_false hgo
            rw [tdone] at hcs
            clear tdone
            have HGO := Lib.hid hgo
            have HGD := Lib.hid hgd
            clear hgo hgd
            go_wp2_with fail
            obtain ⟨nm, hnm⟩ : ∃ nm, nm = refNames (namesE l[k].cond) := ⟨_, rfl⟩
            have hszk := HSZ.out _ (List.getElem_mem hkl)
            refine (rnames_calls l[k].cond _ _ (by omega) HEX.out).mono ?_
            rw [← hnm]
            rw [← hnm] at HUS
            rintro r w5 ⟨na, nc, rfl, hst, hx5⟩
            have HST := Lib.hid hst
            have HX5 := Lib.hid (HXK.out.trans hx5)
            have hnml : nm.length ≤ 100000 := by
              rw [hnm]
              have h1 : (refNames (namesE l[k].cond)).length ≤ (namesE l[k].cond).length := by have := fold_len (namesE l[k].cond) []; simpa [refNames] using this
              exact Nat.le_trans h1 (Nat.le_trans (namesE_len _) hszk)
            clear hst hx5 hnm c0 c2 c3 c4 c5 c6 c7 hcs HEX
            go_wp2_with fail
            go_loopw [9, 11] (RO3 w5 dl o nm) (fun _ i _ => nm.length - (intOf i).toNat)
            case atStart => exact ⟨0, true, rfl, by omega, rfl, by simp, Ext.refl _⟩
            case round =>
              obtain ⟨q, rd, rfl, hq, rfl, hrd, hxq⟩ := hrel
              have HRD := Lib.hid hrd
              have HXQ := Lib.hid hxq
              clear hrd hxq
              by_cases hqn : q < nm.length
              · have t2 : decide ((q : Int) < (nm.length : Int)) = true := decide_eq_true (by omega)
                obtain ⟨nb, noff, rfl, cn⟩ := (HST.out.ext HXQ.out).2.2.2 q hqn
                have hXall := HX.out.trans (HX5.out.trans HXQ.out)
                have HDC := Lib.hid (rDef_calls l _ n c nm[q] wr (HL.out.ext hXall) (by omega))
                have HFA := Lib.hid (show firstAt dl nm[q] = defAt l nm[q] by rw [HDL.out]; exact firstAt_dfn l _)
                cases hda : defAt l nm[q] with
                | none =>
                  rw [hda, optV_none] at HDC
                  have HN3 := Lib.hid (ro3_step hqn HRD.out (b' := true) (by rw [HFA.out, hda]; simp))
                  clear hda hXall
                  cases rd
                  all_goals
                    go_wp2_with fail
                    refine HDC.out.mono ?_
                    rintro r w6 ⟨rfl, rfl⟩
                    go_wp2_with fail
                    go_roundw
                    case rel => exact ⟨q + 1, _, by go_num, by omega, rfl, HN3.out, HXQ.out⟩
                    case measure => simp [intOf]; omega
                | some d =>
                  rw [hda, optV_some] at HDC
                  have hdl' : d < l.length := by
                    have := hda
                    unfold defAt at this
                    rw [List.findIdx?_eq_some_iff_getElem] at this
                    exact this.1
                  have hdn : d < n := by have := HN.out; omega
                  have HN3 := Lib.hid (ro3_step hqn HRD.out (b' := decide (d ∈ o)) (by rw [HFA.out, hda]; simp))
                  have hLd : d < (marks o n).length := by rw [marks_len]; exact hdn
                  have hcd := (HSE.out.ext (HX5.out.trans HXQ.out)).cell hLd
                  rw [marks_at hdn] at hcd
                  have td0 : (0 : Int) ≤ (d : Int) := by omega
                  have td1 : (d : Int) < (n : Int) := by omega
                  clear hda hXall
                  cases rd
                  all_goals
                    go_wp2_with fail
                    refine HDC.out.mono ?_
                    rintro r w6 ⟨rfl, rfl⟩
                    go_wp2_with fail
                    go_roundw
                    case rel => exact ⟨q + 1, _, by go_num, by omega, rfl, HN3.out, HXQ.out⟩
                    case measure => simp [intOf]; omega
              · have t2 : decide ((q : Int) < (nm.length : Int)) = false := decide_eq_false (by omega)
                have HMI := Lib.hid (show rd = true ↔ missL dl o k = [] by
                  rw [HRD.out, List.take_of_length_le (by omega), miss_nil, HUS.out])
                cases rd
                · go_wp2_with fail
                  go_roundw
                  case rel =>
                    refine ⟨k + 1, by go_num, by omega, HX5.out.trans HXQ.out, Or.inl ⟨rfl, ⟨true, rfl, ?_⟩, fun j hj hd ho => ?_⟩⟩
                    · exact ⟨fun _ => ⟨k, by omega, HGD.out, HGO.out⟩, fun _ => rfl⟩
                    · by_cases e : j = k
                      · subst e; intro h; have := HMI.out.2 h; cases this
                      · exact HNO.out j (by omega) hd ho
                  case measure => simp [intOf]; omega
                · go_wp2_with fail
                  go_roundw
                  case rel => exact ⟨k + 1, by go_num, by omega, HX5.out.trans HXQ.out, Or.inr ⟨k, true, rfl, rfl, hkn, HGD.out, HGO.out, HMI.out.1 rfl⟩⟩
                  case measure => simp [intOf]; omega
          · have HSK := Lib.hid (show ∃ b' : Bool, Value.bool b = .bool b' ∧ (b' = true ↔ ∃ j, j < k + 1 ∧ isDef dl j = true ∧ j ∉ o) from ⟨b, rfl, by
              rw [HB.out]
              constructor
              · rintro ⟨j, h1, h2⟩; exact ⟨j, by omega, h2⟩
              · rintro ⟨j, h1, h2, h3⟩
                refine ⟨j, ?_, h2, h3⟩
                rcases Nat.lt_or_ge j k with h | h
                · exact h
                · obtain rfl : j = k := by omega
                  exact absurd ⟨h2, h3⟩ hgo⟩)
            have HN2 := Lib.hid (show ∀ j, j < k + 1 → isDef dl j = true → j ∉ o → missL dl o j ≠ [] from fun j hj hd ho => by
              rcases Nat.lt_or_ge j k with h | h
              · exact HNO.out j h hd ho
              · obtain rfl : j = k := by omega
                exact absurd ⟨hd, ho⟩ hgo)
            by_cases hkd : isDef dl k = true
            · have tk : (l[k].kind != 1) = false := by rw [HID.out] at hkd; simp [bne, hkd]
              have hin : decide (k ∈ o) = true := decide_eq_true (Classical.byContradiction fun h => hgo ⟨hkd, h⟩)
              rw [hin] at hcs
              clear hin hgo hkd
              go_wp2_with fail
              go_roundw
              case rel => exact ⟨k + 1, by go_num, by omega, HXK.out, Or.inl ⟨rfl, HSK.out, HN2.out⟩⟩
              case measure => simp [intOf]; omega
            · have tk : (l[k].kind != 1) = true := by rw [HID.out] at hkd; simp [bne, hkd]
              clear hgo hkd
              go_wp2_with fail
              go_roundw
              case rel => exact ⟨k + 1, by go_num, by omega, HXK.out, Or.inl ⟨rfl, HSK.out, HN2.out⟩⟩
              case measure => simp [intOf]; omega
        · have t1 : decide ((k : Int) < (n : Int)) = false := decide_eq_false (by omega)
          have hkd : k = dl.length := by have := HDN.out; omega
          have HXE := Lib.hid (HX.out.trans HXK.out)
          cases hbc : b
          · have HTS := Lib.hid (show Sorts dl from ⟨o, HI.out.done fun i hi => Classical.byContradiction fun h => by
              have := HB.out.2 ⟨i, by rw [hkd]; exact isDef_lt hi, hi, h⟩
              rw [hbc] at this; cases this⟩)
            clear hkd
            go_wp2_with fail
            go_ret2
            exact ⟨HXE.out, Or.inl ⟨HTS.out, oa, _, oc, rfl⟩⟩
          · obtain ⟨j, hj1, hj2, hj3⟩ := HB.out.1 hbc
            have HTS := Lib.hid (show ¬ Sorts dl from RInv.stuck (fun i hi ho => HNO.out i (by rw [hkd]; exact isDef_lt hi) hi ho) hj2 hj3)
            clear hkd
            go_wp2_with fail
            go_ret2
            exact ⟨HXE.out, Or.inr ⟨HTS.out, rfl⟩⟩
      · have t2 : decide ((p : Int) < 0) = false := decide_eq_false (by omega)
        have HSN := Lib.hid (HI.out.snoc hpd hpo hpm)
        have hlt := HI.out.lt hpd hpo
        have HOK := Lib.hid (owns_chg HO.out (HXK.out.chg []) (by simp))
        have HSK := Lib.hid (HSE.out.ext HXK.out)
        have hbk := HSK.out.lt
        have hLp : p < (marks o n).length := by rw [marks_len]; exact hpn
        have hzk := HXK.out.size
        have hfs := HSK.out.free p
        have hcp := HSK.out.cell hLp
        have HSS := Lib.hid HSK.out
        have tp0 : (0 : Int) ≤ (p : Int) := by omega
        have tp1 : (p : Int) < (n : Int) := by omega
        clear hpd hpo hpm
        by_cases hkn : k < n
        case' pos => have t1 : decide ((k : Int) < (n : Int)) = true := decide_eq_true (by omega)
        case' neg => have t1 : decide ((k : Int) < (n : Int)) = false := decide_eq_false (by omega)
        all_goals
          go_wp2_with (at_builtin; refine wpList_append_at elemIntsR rfl _ _ rfl wb.heap.size _ o.length _ rfl HOK.out _ 1 1 rfl rfl rfl (by simp [Value.oneCell']) (by unfold maxLen; omega) (by omega) (by omega) ?_)
          intro v8 w8 hown8 hc8 hw8
          obtain ⟨a8, c8, hv8⟩ := owns_formR hown8
          subst hv8
          have hbr : bs ∉ rowOf (.slice oa o.length oc) := fun hm => by have := (HO.out.lt bs (mem_rowOf.1 hm)).1; omega
          have hS8 : SeenAt bs (marks o n) w8 := by
            obtain ⟨cur, g1, g2⟩ := HSS.out.row
            exact ⟨cur, hc8.blk g1 hbr, g2⟩
          have hf8 := hS8.free p
          have hc8' := hS8.cell hLp
          have HS9 := Lib.hid (hS8.set p true)
          rw [marks_set] at HS9
          have hbl8 := hS8.lt
          have HO8 := Lib.hid (show w8.ownsRow wb.heap.size 3 1 (.slice a8 (o.length + 1) c8) (o ++ [p]).length (natCs (o ++ [p])) by simpa [natCs] using hown8)
          have HX8 := Lib.hid (hc8.ext (HX.out.trans HXK.out) (fun q hq => by have h1 := (HO.out.lt q (mem_rowOf.1 hq)).1; have h2 := HBS.out; omega))
          have hz8 := hc8.size
          have hne8 : ∀ q, (Value.slice a8 (o.length + 1) c8).ownBlock = some q → q ∉ [bs] := fun q hq hm => by
            simp only [List.mem_singleton] at hm
            subst hm
            rcases hw8 q hq with e | e
            · exact hbr (mem_rowOf.2 e)
            · omega
          have HO9 := Lib.hid (owns_chg HO8.out ((Chg.refl [bs] w8).setCell (p := ⟨bs, p, none⟩) (Or.inl (by simp)) (.bool true)) hne8)
          clear hown8 hc8 hw8 hS8 hfs hcp hbr hne8
          go_wp2_with fail
          go_roundg (countOf dl - (o.length + 1))
          case rel => exact ⟨o ++ [p], by simp, HSN.out, HO9.out, HS9.out, HX8.out.setAbove (by simp; rw [HBS.out]; exact Nat.le_refl _) _, by simp; omega⟩
          case measure => have := HM.out; omega
end Go.Proofs.YtfjlglefodndjaaGreatDoor

namespace Go.Proofs.YtfjlglefodndjaaGreatDoor
open Go.RowKit

/-! treatyref09.Clauses. -/
theorem refExprB_size {e : Ex} (h : refExprB e = true) : e.size ≤ 100000 := by
  unfold refExprB refSize at h
  simp only [Bool.and_eq_true, decide_eq_true_eq] at h
  omega
theorem clauseB_cond {c : Cla} (h : clauseB c = true) : refExprB c.cond = true := by
  unfold clauseB at h
  simp only [Bool.and_eq_true] at h
  exact h.1.1.2
theorem claErr_valid {s : List Attr} {l : List Cla} {i : Nat} (h : claErr s l i = 0) (hi : i < l.length) : clauseB l[i] = true := by
  unfold claErr at h
  rw [getD_cla hi] at h
  cases hb : clauseB l[i]
  · rw [hb] at h; simp at h
  · rfl
theorem cls_bad {s : List Attr} {l : List Cla} (h : schemaErr s ≠ 0) : clausesErr s l = (0, schemaErr s) := by unfold clausesErr; rw [if_pos h]
theorem cls_many {s : List Attr} {l : List Cla} (h : schemaErr s = 0) (hn : 100 < l.length) : clausesErr s l = (0, 4) := by unfold clausesErr; rw [if_neg (by simp [h]), if_pos hn]
theorem cls_hit {s : List Attr} {l : List Cla} (h : schemaErr s = 0) (hn : ¬ 100 < l.length) {k : Nat} (hk : k < l.length) (h0 : ∀ j, j < k → claErr s l j = 0) (h1 : claErr s l k ≠ 0) : clausesErr s l = (k, claErr s l k) := by
  unfold clausesErr
  have := firstI_hit h1 h0 l.length hk
  rw [if_neg (by simp [h]), if_neg hn, this, if_pos h1]
theorem cls_cycle {s : List Attr} {l : List Cla} (h : schemaErr s = 0) (hn : ¬ 100 < l.length) (h0 : ∀ j, j < l.length → claErr s l j = 0) (hs : ¬ Sorts (l.map Cla.dfn)) : clausesErr s l = (0, 10) := by
  unfold clausesErr
  rw [if_neg (by simp [h]), if_neg hn, firstI_zero _ h0, if_neg (by simp), if_pos hs]
theorem cls_large {s : List Attr} {l : List Cla} (h : schemaErr s = 0) (hn : ¬ 100 < l.length) (h0 : ∀ j, j < l.length → claErr s l j = 0) (hs : Sorts (l.map Cla.dfn)) {k : Nat} (hk : k < l.length) (g0 : ∀ j, j < k → claLarge l j = 0) (g1 : claLarge l k = 4) : clausesErr s l = (k, 4) := by
  unfold clausesErr
  rw [if_neg (by simp [h]), if_neg hn, firstI_zero _ h0, if_neg (by simp), if_neg (by simp [hs]), firstI_hit (by rw [g1]; decide) g0 _ hk, g1]
theorem cls_good {s : List Attr} {l : List Cla} (h : schemaErr s = 0) (hn : ¬ 100 < l.length) (h0 : ∀ j, j < l.length → claErr s l j = 0) (hs : Sorts (l.map Cla.dfn)) (g0 : ∀ j, j < l.length → claLarge l j = 0) : clausesErr s l = (0, 0) := by
  unfold clausesErr
  rw [if_neg (by simp [h]), if_neg hn, firstI_zero _ h0, if_neg (by simp), if_neg (by simp [hs]), firstI_zero _ g0]
def clsV (r : Nat × Int) : Value := .tuple #[.int .i64 (r.1 : Nat), .int .i64 r.2]
theorem givesE_cls {r : Nat × Int} {i : Nat} {e : Int} {w w' : World} (h : r = (i, e)) (hx : Ext w w') : GivesE (clsV r) w (.returned (.tuple #[.int .i64 (i : Nat), .int .i64 e])) w' := by subst h; exact ⟨rfl, hx⟩
--BEGIN DEF C14
def c14V (b off n c k : Nat) (sa : Option Addr) (sn sc : Nat) (nm : ByteArray) (q : Nat) (ab : Bool) : Nat → Value → World → Prop
  | 0, u, _ => u = .agg #[.slice sa sn sc]
  | 1, u, _ => u = .slice (some ⟨b, off, none⟩) n c
  | 2, u, _ => u = .int .i64 k
  | 3, u, _ => u = .pointer (some ⟨b, off + k * 10, none⟩)
  | 4, u, _ => u = .pointer (some ⟨b, off + k * 10 + 1, none⟩)
  | 5, u, _ => u = .string nm
  | 6, u, _ => u = .tuple #[.int .i64 q, .bool ab]
  | 7, u, _ => u = .tuple #[.int .i64 q, .bool ab]
  | 8, u, _ => u = .int .i64 q
  | 9, u, _ => u = .bool ab
  | 10, u, _ => u = .int .i64 q
  | _, u, _ => u = .bool ab
--END DEF C14
def Cla.okk (c : Cla) : Prop := c.ok ∧ wbN c.unl < 1000000000000000
theorem Cla.okk.fit {c : Cla} (h : c.okk) : c.fit := h.1.fit
theorem wbN_of_cnt : (l : List Wb) → cntBacks l ≤ 40 → wbN l ≤ cntBacks l
  | [], _ => by simp [wbN]
  | .mk n c u :: r, h => by
    rw [cntBacks] at h ⊢
    have h1 := wbN_of_cnt u (by omega)
    have h2 := wbN_of_cnt r (by omega)
    rw [wbN]; omega
theorem wbOk_of : (d : Nat) → (l : List Wb) → backsB d l = true → wbFits l → wbOk l
  | _, [], _, _ => by unfold wbOk; trivial
  | d, .mk n c u :: r, h, hf => by
    rw [backsB] at h
    simp only [Bool.and_eq_true] at h
    rw [wbFits] at hf
    have := refExprB_size h.1.1.2
    unfold wbOk
    exact ⟨hf.1, hf.2.1, hf.2.2.1, by omega, wbOk_of _ u h.1.2 hf.2.2.2.2.2.1, wbOk_of d r h.2 hf.2.2.2.2.2.2⟩
theorem Cla.fit.okk {c : Cla} (h : c.fit) (hc : clauseB c = true) : c.okk := by
  have hx := refExprB_size (clauseB_cond hc)
  have key : wbOk c.unl ∧ wbN c.unl ≤ 40 := by
    unfold clauseB at hc
    simp only [Bool.and_eq_true, Bool.or_eq_true, decide_eq_true_eq] at hc
    rcases hc.1.2 with h0 | ⟨⟨_, h1⟩, h2⟩
    · rw [List.eq_nil_of_length_eq_zero h0]
      exact ⟨by unfold wbOk; trivial, by simp [wbN]⟩
    · exact ⟨wbOk_of 16 _ h2 h.2.2.2.2.2, Nat.le_trans (wbN_of_cnt _ h1) h1⟩
  exact ⟨⟨h.1, h.2.1, h.2.2.1, by omega, key.1, by omega⟩, by omega⟩
set_option maxRecDepth 100000 in
set_option maxHeartbeats 8000000 in
theorem rClauses_calls (s : List Attr) (l : List Cla) (sv : Value) (a : Option Addr) (n c : Nat) (w : World) (hs : IsSchema w s sv) (hf : ∀ x ∈ s, x.fits) (hsl : s.length ≤ 1000000000000000) (hl : IsClas w l a n c) (hn : n ≤ 1000000000000000) (hok : ∀ x ∈ l, x.fit) :
    Calls Tryz.prog 14 #[sv, .slice a n c] w (GivesE (clsV (clausesErr s l)) w) := by
  obtain ⟨sa, sn, sc, rfl, hsn⟩ := hs.slice
  have HS := Lib.hid hs
  have HL := Lib.hid hl
  have HN := Lib.hid hl.len
  have HF := Lib.hid hf
  have HOK := Lib.hid hok
  obtain ⟨R, hR⟩ : ∃ R, R = clausesErr s l := ⟨_, rfl⟩
  rw [← hR]
  have HR := Lib.hid hR
  clear hs hl hf hok hR hsn
  go_enter Tryz.func14, Tryz.ntmps14
  go_upto_region 1 with fail
  obtain ⟨wa, hwa⟩ : ∃ wa, wa = w.alloc (.cells #[.slice sa sn sc] 24) := ⟨_, rfl⟩
  have hxa : Ext w wa := by rw [hwa]; exact (Ext.refl _).alloc _
  have hb : wa.heap[w.heap.size]? = some (.cells #[.slice sa sn sc] 24 (0, 0)) := by rw [hwa]; exact alloc_new w _
  have HXA := Lib.hid hxa
  have HBA := Lib.hid hb
  obtain ⟨d0, df⟩ := blk1 hb
  rw [← hwa]
  clear hxa hb hwa
  go_wp2_with fail
  refine (rSchema_calls s _ wa (HS.out.ext HXA.out) HF.out hsl).mono ?_
  rintro r w1 ⟨rfl, hx1⟩
  have HX1 := Lib.hid (HXA.out.trans hx1)
  have HB1 := Lib.hid (hx1.blk HBA.out)
  clear hx1 d0 df
  by_cases hse : schemaErr s = 0
  case neg =>
    have tz : (schemaErr s != 0) = true := by simp [hse]
    have HQ := Lib.hid (HR.out.trans (cls_bad hse))
    go_wp2_with fail
    go_ret2
    exact givesE_cls HQ.out HX1.out
  have tz : (schemaErr s != 0) = false := by simp [hse]
  have HSE := Lib.hid hse
  clear hse
  by_cases hm : 100 < n
  · have tm : decide ((100 : Int) < (n : Int)) = true := decide_eq_true (by omega)
    have HQ := Lib.hid (HR.out.trans (cls_many HSE.out (by have := HN.out; omega)))
    go_wp2_with fail
    go_ret2
    exact givesE_cls HQ.out HX1.out
  have tm : decide ((100 : Int) < (n : Int)) = false := decide_eq_false (by omega)
  have HM := Lib.hid (show ¬ 100 < l.length by have := HN.out; omega)
  go_wp2_with fail
  go_loopw [7] (fun t wr => ∃ k : Nat, t = .int .i64 k ∧ k ≤ n ∧ (∀ j, j < k → claErr s l j = 0) ∧ wr.heap[w.heap.size]? = some (.cells #[.slice sa sn sc] 24 (0, 0)) ∧ Ext w wr) (fun t _ => n - (intOf t).toNat)
  case atStart => exact ⟨0, rfl, by omega, fun j h => by omega, HB1.out, HX1.out⟩
  case round =>
    obtain ⟨k, rfl, hk, hno, hbx, hxr⟩ := hrel
    have HNO := Lib.hid hno
    have HBX := Lib.hid hbx
    have HXR := Lib.hid hxr
    obtain ⟨d0, df⟩ := blk1 hbx
    clear hno hbx hxr HB1 HX1
    by_cases hkn : k < n
    · have hkl : k < l.length := by have := HN.out; omega
      have t1 : decide ((k : Int) < (n : Int)) = true := decide_eq_true (by omega)
      obtain ⟨b, off, v, rfl, hcla, hrow⟩ := (HL.out.ext HXR.out).at hkl
      obtain ⟨c0, c1, c2, c3, c4, c5, c6, c7, c8, c9⟩ := hrow.ten
      have HCLA := Lib.hid hcla
      have HROW := Lib.hid hrow
      have HOKF := Lib.hid (HOK.out _ (List.getElem_mem hkl))
      have ti0 : (0 : Int) ≤ (k : Int) := by omega
      have ti1 : (k : Int) < (n : Int) := by omega
      have HCE := Lib.hid (show claErr s l k = if clauseB l[k] = false then 5 else if (findAt l l[k].name).getD 0 < k then 8 else if (attrAt s l[k].name).isSome then 8 else if nodesErr s l l[k].cond ≠ 0 then nodesErr s l l[k].cond else backsErr s l l[k].unl by unfold claErr; rw [getD_cla hkl])
      have HHIT := Lib.hid (fun (e : Int) (h : claErr s l k = e) (h0 : e ≠ 0) => HR.out.trans (by rw [cls_hit HSE.out HM.out hkl HNO.out (by rw [h]; exact h0), h]))
      have HNAM := Lib.hid hcla.2.1
      clear hcla hrow
      go_upto_region 9 with fail
      go_wp2_with fail
      refine (rclause_fit l[k] v wr HCLA.out HOKF.out).mono ?_
      rintro r w3 ⟨rfl, hx3⟩
      have HX3 := Lib.hid (HXR.out.trans hx3)
      have HB3 := Lib.hid (hx3.blk HBX.out)
      have HC3 := Lib.hid (HCLA.out.mono hx3.sub)
      have HR3 := Lib.hid (HROW.out.mono hx3.sub)
      clear hx3 d0 df c0 c1 c2 c3 c4 c5 c6 c7 c8 c9 HBX HCLA HROW
      obtain ⟨d0, df⟩ := blk1 HB3.out
      obtain ⟨c0, c1, c2, c3, c4, c5, c6, c7, c8, c9⟩ := HR3.out.ten
      cases hcb : clauseB l[k]
      · have HQ := Lib.hid (HHIT.out 5 (by rw [HCE.out, hcb]; rfl) (by decide))
        clear hcb
        go_wp2_with fail
        go_ret2
        exact givesE_cls HQ.out HX3.out
      have HOKK := Lib.hid (HOKF.out.okk hcb)
      rw [hcb] at HCE
      simp only [Bool.true_eq_false, if_false] at HCE
      clear hcb
      go_wp2_with fail
      rw [HNAM.out]
      refine (rFind_calls l _ n c l[k].name w3 (HL.out.ext HX3.out) hn).mono ?_
      rintro r w4 ⟨rfl, rfl⟩
      unfold optV
      obtain ⟨F, hF⟩ : ∃ F, F = (findAt l l[k].name).getD 0 := ⟨_, rfl⟩
      rw [← hF] at HCE ⊢
      have hFl : F ≤ l.length := by
        rw [hF]
        cases hfa : findAt l l[k].name with
        | none => simp
        | some q =>
          unfold findAt at hfa
          rw [List.findIdx?_eq_some_iff_getElem] at hfa
          obtain ⟨h1, _⟩ := hfa
          simp only [Option.getD_some]; omega
      generalize (findAt l l[k].name).isSome = fb
      clear hF
      by_cases hfk : F < k
      · have tf : decide (F < k) = true := decide_eq_true hfk
        have HQ := Lib.hid (HHIT.out 8 (by rw [HCE.out, if_pos hfk]) (by decide))
        go_wp2_with fail
        go_ret2
        exact givesE_cls HQ.out HX3.out
      have tf : decide (F < k) = false := decide_eq_false hfk
      rw [if_neg hfk] at HCE
      clear hFl
      go_wp2_with fail
      have HIX := Lib.hid (fun (W : World) (hW : Ext w3 W) => rIndex_calls s _ l[k].name W (HS.out.ext (HX3.out.trans hW)) hsl)
      obtain ⟨q, hq⟩ : ∃ q, q = (attrAt s l[k].name).getD 0 := ⟨_, rfl⟩
      obtain ⟨ab, hab⟩ : ∃ ab, ab = (attrAt s l[k].name).isSome := ⟨_, rfl⟩
      have HIV := Lib.hid (show optV (attrAt s l[k].name) = .tuple #[.int .i64 (q : Nat), .bool ab] by rw [hq, hab]; rfl)
      rw [← hab] at HCE
      rw [HNAM.out] at c1
      obtain ⟨nm, hnm⟩ : ∃ nm, nm = l[k].name := ⟨_, rfl⟩
      rw [← hnm] at c1 HIX HIV
      clear hq hab hnm
      go_upto_region 14 with fail
      --BEGIN C14
      refine wp_region_grow (m := 12) [11] (GrG w3) GrE (GrP (c14V b off n c k sa sn sc nm q ab)) (by kernel_rfl) (by kernel_rfl) ((Ext.refl w3).drew) ?_ ?_ ?_
      · intro i k v W W' hi hk hne hout h hE
        have hE : Ext W W' := hE
        have hi' : i = 0 ∨ i = 1 ∨ i = 2 ∨ i = 3 ∨ i = 4 ∨ i = 5 ∨ i = 6 ∨ i = 7 ∨ i = 8 ∨ i = 9 ∨ i = 10 ∨ i = 11 := by omega
        clear hi hk hne hout
        rcases hi' with rfl | rfl | rfl | rfl | rfl | rfl | rfl | rfl | rfl | rfl | rfl | rfl
        · exact h
        · exact h
        · exact h
        · exact h
        · exact h
        · exact h
        · exact h
        · exact h
        · exact h
        · exact h
        · exact h
        · exact h
      · intro q op hq ho vs W hW hd ρ hρ
        have hq' : q = 0 ∨ q = 1 ∨ q = 2 ∨ q = 3 ∨ q = 4 ∨ q = 5 ∨ q = 6 ∨ q = 7 ∨ q = 8 ∨ q = 9 ∨ q = 10 ∨ q = 11 := by omega
        clear hq
        have o2 : ρ (.tmp 2) = .pointer (some ⟨w.heap.size, 0, none⟩) := hρ.out 2 rfl
        have o1 : ρ (.tmp 1) = .slice (some ⟨b, off, none⟩) n c := hρ.out 1 rfl
        have o7 : ρ (.tmp 7) = .int .i64 k := hρ.out 7 rfl
        have i1 := hρ.ins 1 54 (by omega) rfl (Nat.le_of_ble_eq_true rfl)
        have i2 := hρ.ins 2 55 (by omega) rfl (Nat.le_of_ble_eq_true rfl)
        have i3 := hρ.ins 3 56 (by omega) rfl (Nat.le_of_ble_eq_true rfl)
        have i4 := hρ.ins 4 57 (by omega) rfl (Nat.le_of_ble_eq_true rfl)
        have i0 := hρ.ins 0 53 (by omega) rfl (Nat.le_of_ble_eq_true rfl)
        have i5 := hρ.ins 5 58 (by omega) rfl (Nat.le_of_ble_eq_true rfl)
        have i6 := hρ.ins 6 59 (by omega) rfl (Nat.le_of_ble_eq_true rfl)
        have i7 := hρ.ins 7 52 (by omega) rfl (Nat.le_of_ble_eq_true rfl)
        have i8 := hρ.ins 8 60 (by omega) rfl (Nat.le_of_ble_eq_true rfl)
        have i9 := hρ.ins 9 61 (by omega) rfl (Nat.le_of_ble_eq_true rfl)
        have hc := hρ.const
        have hfn := hρ.func
        clear hρ
        have HW := Lib.hid (show Ext w3 W from hW)
        rcases hq' with rfl | rfl | rfl | rfl | rfl | rfl | rfl | rfl | rfl | rfl | rfl | rfl
        · cases ho
          clear hd
          have g0 := HW.out.cell d0
          unfold GivesOp
          go_simp
          exact ⟨Ext.refl W, rfl⟩
        · cases ho
          clear hd
          unfold GivesOp
          go_simp
          exact ⟨Ext.refl W, rfl⟩
        · cases ho
          clear hd
          unfold GivesOp
          go_simp
          exact ⟨Ext.refl W, rfl⟩
        · cases ho
          have h1 : vs 1 = .slice (some ⟨b, off, none⟩) n c := hd ⟨1, .data⟩ (by simp) rfl
          rw [h1] at i1
          have h2 : vs 2 = .int .i64 k := hd ⟨2, .data⟩ (by simp) rfl
          rw [h2] at i2
          clear hd
          unfold GivesOp
          go_simp
          exact ⟨Ext.refl W, rfl⟩
        · cases ho
          have h3 : vs 3 = .pointer (some ⟨b, off + k * 10, none⟩) := hd ⟨3, .data⟩ (by simp) rfl
          rw [h3] at i3
          clear hd
          unfold GivesOp
          go_simp
          exact ⟨Ext.refl W, rfl⟩
        · cases ho
          have h4 : vs 4 = .pointer (some ⟨b, off + k * 10 + 1, none⟩) := hd ⟨4, .data⟩ (by simp) rfl
          rw [h4] at i4
          clear hd
          have g1 := HW.out.cell c1
          unfold GivesOp
          go_simp
          exact ⟨Ext.refl W, rfl⟩
        · cases ho
          have h0 : vs 0 = .agg #[.slice sa sn sc] := hd ⟨0, .data⟩ (by simp) rfl
          rw [h0] at i0
          have h5 : vs 5 = .string nm := hd ⟨5, .data⟩ (by simp) rfl
          rw [h5] at i5
          clear hd
          unfold GivesOp
          go_simp
          refine (HIX.out W HW.out).mono ?_
          rw [HIV.out]
          rintro r w5 ⟨rfl, hx5⟩
          exact ⟨_, rfl, hx5, HW.out.trans hx5, rfl⟩
        · cases ho
          have h6 : vs 6 = .tuple #[.int .i64 q, .bool ab] := hd ⟨6, .data⟩ (by simp) rfl
          rw [h6] at i6
          clear hd
          unfold GivesOp
          go_simp
          exact ⟨Ext.refl W, rfl⟩
        · cases ho
          have h7 : vs 7 = .tuple #[.int .i64 q, .bool ab] := hd ⟨7, .data⟩ (by simp) rfl
          rw [h7] at i7
          clear hd
          unfold GivesOp
          go_simp
          exact ⟨Ext.refl W, rfl⟩
        · cases ho
          have h7 : vs 7 = .tuple #[.int .i64 q, .bool ab] := hd ⟨7, .data⟩ (by simp) rfl
          rw [h7] at i7
          clear hd
          unfold GivesOp
          go_simp
          exact ⟨Ext.refl W, rfl⟩
        · cases ho
          have h8 : vs 8 = .int .i64 q := hd ⟨8, .data⟩ (by simp) rfl
          rw [h8] at i8
          clear hd
          unfold GivesOp
          go_simp
          exact ⟨Ext.refl W, rfl⟩
        · cases ho
          have h9 : vs 9 = .bool ab := hd ⟨9, .data⟩ (by simp) rfl
          rw [h9] at i9
          clear hd
          unfold GivesOp
          go_simp
          exact ⟨Ext.refl W, rfl⟩
      intro vs W hW hR
      rw [if_pos (by decide +kernel)]
      have h11 : vs 11 = .bool ab := hR 11 (by simp) (by omega)
      simp only [acts, dstAt, List.range, List.range.loop, List.foldl_cons, List.foldl_nil, h11]
      go_simp
      have hW2 : Ext w3 W := hW
      clear hR hW h11
      --END C14
      have hx6 := hW2
      clear hW2
      have HX6 := Lib.hid (HX3.out.trans hx6)
      have HB6 := Lib.hid (hx6.blk HB3.out)
      have HR6 := Lib.hid (HR3.out.mono hx6.sub)
      have HC6 := Lib.hid (HC3.out.mono hx6.sub)
      obtain ⟨w6, hw6⟩ : ∃ w6, w6 = W := ⟨_, rfl⟩
      rw [← hw6] at HX6 HB6 HR6 HC6 ⊢
      clear hw6 hx6 HB3 HR3 HC3 d0 df c0 c1 c2 c3 c4 c5 c6 c7 c8 c9
      obtain ⟨d0, df⟩ := blk1 HB6.out
      obtain ⟨c0, c1, c2, c3, c4, c5, c6, c7, c8, c9⟩ := HR6.out.ten
      cases hat : ab
      case true =>
        have HQ := Lib.hid (HHIT.out 8 (by rw [HCE.out, hat]; rfl) (by decide))
        clear hat
        go_wp2_with fail
        go_ret2
        exact givesE_cls HQ.out HX6.out
      rw [hat] at HCE
      simp only [Bool.false_eq_true, if_false] at HCE
      clear hat
      go_wp2_with fail
      go_still_tail 7, (by kernel_rfl)
      change wpList _ _ _ _ _ w6.drew
      have hx7 : Ext w6 w6.drew := (Ext.refl w6).drew
      generalize w6.drew = w7 at hx7 ⊢
      have HX7 := Lib.hid (HX6.out.trans hx7)
      have HB7 := Lib.hid (hx7.blk HB6.out)
      have HR7 := Lib.hid (HR6.out.mono hx7.sub)
      have HC7 := Lib.hid (HC6.out.mono hx7.sub)
      clear hx7 d0 df c0 c1 c2 c3 c4 c5 c6 c7 c8 c9 HB6 HR6 HC6
      go_wp2_with fail
      refine (rnodesErr_calls s l HF.out hsl _ n c hn 1000000000000000 l[k].cond _ _ w7 HOKK.out.1.2.2.2.1 (by omega) HOKK.out.1.2.2.1 (HS.out.ext HX7.out) (HL.out.ext HX7.out) HC7.out.2.2.1).mono ?_
      rintro r w8 ⟨rfl, hx8⟩
      have HX8 := Lib.hid (HX7.out.trans hx8)
      have HB8 := Lib.hid (hx8.blk HB7.out)
      have HR8 := Lib.hid (HR7.out.mono hx8.sub)
      have HC8 := Lib.hid (HC7.out.mono hx8.sub)
      clear hx8 HB7 HR7 HC7
      obtain ⟨d0, df⟩ := blk1 HB8.out
      obtain ⟨c0, c1, c2, c3, c4, c5, c6, c7, c8, c9⟩ := HR8.out.ten
      obtain ⟨E1, hE1⟩ : ∃ E1, E1 = nodesErr s l l[k].cond := ⟨_, rfl⟩
      rw [← hE1] at HCE ⊢
      clear hE1
      by_cases hz : E1 = 0
      case neg =>
        have ty : (E1 != 0) = true := by simp [hz]
        have HQ := Lib.hid (HHIT.out E1 (by rw [HCE.out, if_pos hz]) hz)
        clear hz
        go_wp2_with fail
        go_ret2
        exact givesE_cls HQ.out HX8.out
      subst hz
      simp only [ne_eq, not_true_eq_false, if_false] at HCE
      have ty : ((0 : Int) != 0) = false := rfl
      go_wp2_with fail
      go_still_tail 7, (by kernel_rfl)
      change wpList _ _ _ _ _ w8.drew
      have hx9 : Ext w8 w8.drew := (Ext.refl w8).drew
      generalize w8.drew = w9 at hx9 ⊢
      have HX9 := Lib.hid (HX8.out.trans hx9)
      have HB9 := Lib.hid (hx9.blk HB8.out)
      have HR9 := Lib.hid (HR8.out.mono hx9.sub)
      have HC9 := Lib.hid (HC8.out.mono hx9.sub)
      clear hx9 d0 df c0 c1 c2 c3 c4 c5 c6 c7 c8 c9 HB8 HR8 HC8
      go_wp2_with fail
      refine (rbackErr_calls s l HF.out hsl _ n c hn 1000000000000000 l[k].unl _ _ _ _ w9 HOKK.out.2 (by omega) HOKK.out.1.2.2.2.2.1 (HS.out.ext HX9.out) (HL.out.ext HX9.out) HC9.out.2.2.2.2.2.2.1 HC9.out.2.2.2.1).mono ?_
      rintro r wA ⟨rfl, hxA⟩
      have HXA2 := Lib.hid (HX9.out.trans hxA)
      have HBA2 := Lib.hid (hxA.blk HB9.out)
      clear hxA HB9 HR9 HC9
      obtain ⟨E2, hE2⟩ : ∃ E2, E2 = backsErr s l l[k].unl := ⟨_, rfl⟩
      rw [← hE2] at HCE ⊢
      clear hE2
      by_cases hz2 : E2 = 0
      case neg =>
        have tz2 : (E2 != 0) = true := by simp [hz2]
        have HQ := Lib.hid (HHIT.out E2 HCE.out hz2)
        clear hz2
        go_wp2_with fail
        go_ret2
        exact givesE_cls HQ.out HXA2.out
      subst hz2
      go_wp2_with fail
      go_roundw
      case rel =>
        refine ⟨k + 1, by go_num, by omega, fun j hj => ?_, HBA2.out, HXA2.out⟩
        by_cases e' : j = k
        · subst e'; exact HCE.out
        · exact HNO.out j (by omega)
      case measure => simp [intOf]; omega
    · have t1 : decide ((k : Int) < (n : Int)) = false := decide_eq_false (by omega)
      have HNA := Lib.hid (show ∀ j, j < l.length → claErr s l j = 0 from fun j hj => HNO.out j (by have := HN.out; omega))
      have HSZ := Lib.hid (show ∀ x ∈ l, x.cond.size ≤ 100000 by
        intro x hx
        obtain ⟨j, hj, rfl⟩ := List.mem_iff_getElem.1 hx
        exact refExprB_size (clauseB_cond (claErr_valid (HNA.out j hj) hj)))
      clear HNO HBX d0 df
      go_wp2_with fail
      refine (rOrder_calls l a n c wr (HL.out.ext HXR.out) (by omega) HSZ.out).mono ?_
      rintro r w3 ⟨hx3, ⟨hso, oa, on, oc, rfl⟩ | ⟨hso, rfl⟩⟩
      · have HX3 := Lib.hid (HXR.out.trans hx3)
        have HSO := Lib.hid hso
        clear hx3 hso
        go_wp2_with fail
        go_loopw [16] (fun t wr => ∃ k : Nat, t = .int .i64 k ∧ k ≤ n ∧ (∀ j, j < k → claLarge l j = 0) ∧ Ext w wr) (fun t _ => n - (intOf t).toNat)
        case atStart => exact ⟨0, rfl, by omega, fun j h => by omega, HX3.out⟩
        case round =>
          obtain ⟨k2, rfl, hk2, hno, hxr⟩ := hrel
          have HNO := Lib.hid hno
          have HXR2 := Lib.hid hxr
          clear hno hxr HX3 HXR
          by_cases hkn2 : k2 < n
          · have hkl : k2 < l.length := by have := HN.out; omega
            have t2 : decide ((k2 : Int) < (n : Int)) = true := decide_eq_true (by omega)
            obtain ⟨b, off, v, rfl, hcla, hrow⟩ := (HL.out.ext HXR2.out).at hkl
            obtain ⟨c0, c1, c2, c3, c4, c5, c6, c7, c8, c9⟩ := hrow.ten
            have HCLA := Lib.hid hcla
            have HOKK := Lib.hid ((HOK.out _ (List.getElem_mem hkl)).okk (claErr_valid (HNA.out k2 hkl) hkl))
            have ti0 : (0 : Int) ≤ (k2 : Int) := by omega
            have ti1 : (k2 : Int) < (n : Int) := by omega
            have HLG := Lib.hid (show claLarge l k2 = if 2000 < expanded l l[k2].cond ∨ backsLarge l l[k2].unl = true then 4 else 0 by unfold claLarge; rw [getD_cla hkl])
            have HHIT := Lib.hid (fun (h : claLarge l k2 = 4) => HR.out.trans (cls_large HSE.out HM.out HNA.out HSO.out hkl HNO.out h))
            obtain ⟨E, hE⟩ : ∃ E, E = expanded l l[k2].cond := ⟨_, rfl⟩
            have HEE := Lib.hid hE
            rw [← hE] at HLG
            clear hcla hrow hE
            go_wp2_with fail
            refine (rExpanded_calls l _ n c (by omega) (fun x hx => by have := HSZ.out x hx; omega) l[k2].cond _ wr HOKK.out.1.2.2.2.1 (HL.out.ext HXR2.out) HCLA.out.2.2.1).mono ?_
            rw [← HEE.out]
            rintro r w5 ⟨rfl, hx5⟩
            have HX5 := Lib.hid (HXR2.out.trans hx5)
            have c85 := hx5.cell c8
            have HC5 := Lib.hid (HCLA.out.mono hx5.sub)
            clear hx5 c0 c1 c2 c3 c4 c5 c6 c7 c8 c9
            by_cases hz : 2000 < E
            · have tz : decide ((2000 : Int) < (E : Int)) = true := decide_eq_true (by omega)
              have HQ := Lib.hid (HHIT.out (by rw [HLG.out, if_pos (Or.inl hz)]))
              go_wp2_with fail
              go_ret2
              exact givesE_cls HQ.out HX5.out
            · have tz : decide ((2000 : Int) < (E : Int)) = false := decide_eq_false (by omega)
              have HL2 := Lib.hid (show claLarge l k2 = if backsLarge l l[k2].unl = true then 4 else 0 by rw [HLG.out]; simp only [hz, false_or])
              go_wp2_with fail
              refine (rbackLarge_calls l _ n c (by omega) (fun x hx => by have := HSZ.out x hx; omega) 1000000000000000 l[k2].unl _ _ _ w5 HOKK.out.2 (by omega) HOKK.out.1.2.2.2.2.1 (HL.out.ext HX5.out) HC5.out.2.2.2.2.2.2.1 HC5.out.2.2.2.1).mono ?_
              rintro r w6 ⟨rfl, hx6⟩
              have HX6 := Lib.hid (HX5.out.trans hx6)
              clear hx6 c85
              cases hb : backsLarge l l[k2].unl
              · have HZ := Lib.hid (show claLarge l k2 = 0 by rw [HL2.out, hb]; rfl)
                clear hb
                go_wp2_with fail
                go_roundw
                case rel =>
                  refine ⟨k2 + 1, by go_num, by omega, fun j hj => ?_, HX6.out⟩
                  by_cases e' : j = k2
                  · subst e'; exact HZ.out
                  · exact HNO.out j (by omega)
                case measure => simp [intOf]; omega
              · have HQ := Lib.hid (HHIT.out (by rw [HL2.out, hb]; rfl))
                clear hb
                go_wp2_with fail
                go_ret2
                exact givesE_cls HQ.out HX6.out
          · have t2 : decide ((k2 : Int) < (n : Int)) = false := decide_eq_false (by omega)
            have HQ := Lib.hid (HR.out.trans (cls_good HSE.out HM.out HNA.out HSO.out fun j hj => HNO.out j (by have := HN.out; omega)))
            go_wp2_with fail
            go_ret2
            exact givesE_cls (i := 0) HQ.out HXR2.out
      · have HX3 := Lib.hid (HXR.out.trans hx3)
        have HQ := Lib.hid (HR.out.trans (cls_cycle HSE.out HM.out HNA.out hso))
        clear hx3 hso
        go_wp2_with fail
        go_ret2
        exact givesE_cls (i := 0) HQ.out HX3.out
end Go.Proofs.YtfjlglefodndjaaGreatDoor

namespace Go.Proofs.YtfjlglefodndjaaGreatDoor
open Go.RowKit Go.Maps

/-! A map in memory as a function of its keys, whatever its elements are: each element is kept as the Go value itself. -/
def heldE (v : Value) : Option (DataW Value × List MemPlace) := some (.held v, [])
/-- The data D holds f. -/
def HoldsF (D : DataW Value) (f : Lit → Option Value) : Prop := ∀ x, WideAt.IsKeyLit x → Maps.has D x = (f x).isSome ∧ ∀ v, f x = some v → ∀ z, D.atKey x z = .held v
/-- Block b is a map with keys of type k, of at most n entries, that holds f. -/
def MapAt (w : World) (k : TypeId) (b n : Nat) (f : Lit → Option Value) : Prop := ∃ D : DataW Value, w.ownsMap Tryz.prog k heldE b n D ∧ HoldsF D f
open Classical in
noncomputable def setF (f : Lit → Option Value) (x : Lit) (v : Option Value) : Lit → Option Value := fun y => if y = x then v else f y
theorem setF_same (f : Lit → Option Value) (x : Lit) (v : Option Value) : setF f x v x = v := by simp [setF]
theorem setF_other (f : Lit → Option Value) {x y : Lit} (v : Option Value) (h : y ≠ x) : setF f x v y = f y := by simp [setF, h]
theorem MapAt.made (w : World) (k : TypeId) : MapAt (w.alloc (.map #[] 0)) k w.heap.size 0 (fun _ => none) :=
  ⟨.map [], World.ownsMap_made w _ k heldE, fun x _ => ⟨rfl, fun v h => by cases h⟩⟩
theorem MapAt.lt {w : World} {k : TypeId} {b n : Nat} {f : Lit → Option Value} (h : MapAt w k b n f) : b < w.heap.size := by obtain ⟨D, h, _⟩ := h; exact h.lt
theorem MapAt.more {w : World} {k : TypeId} {b n n' : Nat} {f : Lit → Option Value} (h : MapAt w k b n f) (hn : n ≤ n') : MapAt w k b n' f := by obtain ⟨D, h, hs⟩ := h; exact ⟨D, h.mono hn, hs⟩
theorem MapAt.chg {w w' : World} {k : TypeId} {b n : Nat} {f : Lit → Option Value} {N : List Nat} (h : MapAt w k b n f) (hc : Chg N w w') (hn : b ∉ N) : MapAt w' k b n f := by
  have hlt := h.lt
  obtain ⟨D, ⟨es, clock, hb, r⟩, hs⟩ := h
  exact ⟨D, ⟨es, clock, (hc.block b hlt hn).trans hb, r⟩, hs⟩
theorem MapAt.ext {w w' : World} {k : TypeId} {b n : Nat} {f : Lit → Option Value} (h : MapAt w k b n f) (he : Ext w w') : MapAt w' k b n f := h.chg (he.chg []) (by simp)
theorem MapAt.congr {w : World} {k : TypeId} {b n : Nat} {f g : Lit → Option Value} (h : MapAt w k b n f) (e : ∀ x, f x = g x) : MapAt w k b n g := by rw [show g = f from funext fun x => (e x).symm]; exact h
theorem grown_one {w w' : World} {b : Nat} (h : w.grownBy w' (some b)) : Chg [b] w w' := ⟨h.os, h.tape, h.output, h.size, fun k hk hn => h.block k hk (fun e => hn (by simp at e; simp [e]))⟩
theorem HoldsF.at {D : DataW Value} {f : Lit → Option Value} (h : HoldsF D f) {x : Lit} (hx : WideAt.IsKeyLit x) {v z : Value} (hv : DataW.held v = D.atKey x (.held z)) : v = (f x).getD z := by
  obtain ⟨h1, h2⟩ := h x hx
  cases hf : f x with
  | none =>
    rw [hf] at h1
    rw [atKey_of_not_has h1] at hv
    simpa using hv
  | some u =>
    rw [h2 u hf] at hv
    simpa using hv
theorem HoldsF.put {D : DataW Value} {f : Lit → Option Value} (h : HoldsF D f) (hD : IsMap D) {x : Lit} (hx : WideAt.IsKeyLit x) (v : Value) : HoldsF (D.put x (.held v)) (setF f x (some v)) := by
  intro y hy
  by_cases e : y = x
  · subst e
    rw [setF_same]
    refine ⟨by rw [has_put_same hD hx]; rfl, fun u hu z => ?_⟩
    rw [atKey_put_same hD hx]
    cases hu; rfl
  · rw [setF_other _ _ e]
    refine ⟨by rw [has_put_other e]; exact (h y hy).1, fun u hu z => ?_⟩
    rw [atKey_put_other e]
    exact (h y hy).2 u hu z
theorem HoldsF.del {D : DataW Value} {f : Lit → Option Value} (h : HoldsF D f) {x : Lit} (hx : WideAt.IsKeyLit x) : HoldsF (D.del x) (setF f x none) := by
  intro y hy
  by_cases e : y = x
  · subst e
    rw [setF_same]
    exact ⟨by rw [has_del_same]; rfl, fun u hu => by cases hu⟩
  · rw [setF_other _ _ e]
    refine ⟨by rw [has_del_other e]; exact (h y hy).1, fun u hu z => ?_⟩
    rw [atKey_del_other e]
    exact (h y hy).2 u hu z
/-- An empty map has size 0, and only that. -/
theorem HoldsF.size {D : DataW Value} {f : Lit → Option Value} (h : HoldsF D f) {es : List (Lit × DataW Value)} (hD : D = .map es) (hk : ∀ p ∈ es, WideAt.IsKeyLit p.1) : Maps.size D = 0 ↔ ∀ x, WideAt.IsKeyLit x → f x = none := by
  subst hD
  rw [size_eq]
  constructor
  · intro h0 x hx
    have := (h x hx).1
    rw [List.eq_nil_of_length_eq_zero h0] at this
    cases hf : f x with
    | none => rfl
    | some u => rw [hf] at this; simp [has_eq] at this
  · intro h0
    cases es with
    | nil => rfl
    | cons p r =>
      have hp := hk p (by simp)
      have := (h p.1 hp).1
      rw [h0 p.1 hp, has_eq] at this
      simp [WideAt.sameKey_self hp] at this
section
variable (w : World) {ops : Array Oper} {rest : List Oper} {o : Oper} {a : Act} {Q : Exit → Act → World → Prop}
theorem wpList_map_ok (hg : o.guard = none) (m x : Operand) (t : TypeId) (hop : o.op = Op.lookup t m x true) (k e : TypeId) (K : Keyed Tryz.prog k) (ht : Tryz.prog.underlying t = some (.map k e)) {z : Value} (hz : (zeroValue e).run Tryz.prog w = .ok z w) (b n : Nat) (f : Lit → Option Value)
    (hm : a.eval m = .map (some b)) (hmap : MapAt w k b n f) (key : Value) (kl : Lit) (hx : a.eval x = key) (hkey : keyOf Tryz.prog k key = some kl) (hkl : WideAt.IsKeyLit kl)
    (hK : wpList Tryz.prog ops Q rest (a.put o.dst (.tuple #[(f kl).getD z, .bool (f kl).isSome])) w) : wpList Tryz.prog ops Q (o :: rest) a w := by
  obtain ⟨D, hown, hf⟩ := hmap
  refine wpList_lookup_own_ok w hg m x t hop k e K ht heldE hz (.held z) [] rfl b n D hm hown key kl hx hkey fun v ps hv => ?_
  have e1 : DataW.held v = D.atKey kl (.held z) := by
    simp only [heldE, Option.some.injEq, Prod.mk.injEq] at hv
    exact hv.1
  rw [hf.at hkl e1, (hf kl hkl).1]
  exact hK
theorem wpList_map_get (hg : o.guard = none) (m x : Operand) (t : TypeId) (hop : o.op = Op.lookup t m x false) (k e : TypeId) (K : Keyed Tryz.prog k) (ht : Tryz.prog.underlying t = some (.map k e)) {z : Value} (hz : (zeroValue e).run Tryz.prog w = .ok z w) (b n : Nat) (f : Lit → Option Value)
    (hm : a.eval m = .map (some b)) (hmap : MapAt w k b n f) (key : Value) (kl : Lit) (hx : a.eval x = key) (hkey : keyOf Tryz.prog k key = some kl) (hkl : WideAt.IsKeyLit kl)
    (hK : wpList Tryz.prog ops Q rest (a.put o.dst ((f kl).getD z)) w) : wpList Tryz.prog ops Q (o :: rest) a w := by
  obtain ⟨D, hown, hf⟩ := hmap
  refine wpList_plain hg fun K' hK' => ?_
  obtain ⟨v, ps, hrun, hv⟩ := hown.lookup K ht hz (zd := .held z) (zp := []) rfl hkey
  have e1 : DataW.held v = D.atKey kl (.held z) := by
    simp only [heldE, Option.some.injEq, Prod.mk.injEq] at hv
    exact hv.1
  rw [← hf.at hkl e1] at hK
  unfold Oper.wp
  simp [execOp, hop, hm, hx, hrun, Result.andThen]
  exact hK' _ _ hK
theorem wpList_map_put (hg : o.guard = none) (m x v : Operand) (t : TypeId) (hop : o.op = Op.mapUpdate t m x v) (k e : TypeId) (K : Keyed Tryz.prog k) (ht : Tryz.prog.underlying t = some (.map k e)) (b n : Nat) (f : Lit → Option Value)
    (hm : a.eval m = .map (some b)) (hmap : MapAt w k b n f) (hn : n < maxLen) (key val : Value) (kl : Lit) (hx : a.eval x = key) (hv : a.eval v = val) (hkey : keyOf Tryz.prog k key = some kl) (hkl : WideAt.IsKeyLit kl)
    (hK : ∀ w', MapAt w' k b (n + 1) (setF f kl (some val)) → Chg [b] w w' → wpList Tryz.prog ops Q rest (a.put o.dst undef) w') : wpList Tryz.prog ops Q (o :: rest) a w := by
  obtain ⟨D, hown, hf⟩ := hmap
  refine wpList_mapUpdate_own w hg m x v t hop k e K ht heldE b n D hm hown hn key val kl hx hv hkey (.held val) [] rfl fun w' h1 h2 => ?_
  exact hK w' ⟨_, h1, hf.put hown.isMap hkl val⟩ (grown_one h2)
theorem wpList_map_del (hg : o.guard = none) (m x : Operand) (t k : TypeId) (hop : o.op = Op.call { callee := Callee.builtin Builtin.delete, args := #[m, x], argTypes := #[t, k] }) (e : TypeId) (K : Keyed Tryz.prog k) (ht : Tryz.prog.underlying t = some (.map k e)) (b n : Nat) (f : Lit → Option Value)
    (hm : a.eval m = .map (some b)) (hmap : MapAt w k b n f) (key : Value) (kl : Lit) (hx : a.eval x = key) (hkey : keyOf Tryz.prog k key = some kl) (hkl : WideAt.IsKeyLit kl)
    (hK : ∀ w', MapAt w' k b n (setF f kl none) → Chg [b] w w' → wpList Tryz.prog ops Q rest (a.put o.dst (.tuple #[])) w') : wpList Tryz.prog ops Q (o :: rest) a w := by
  obtain ⟨D, hown, hf⟩ := hmap
  refine wpList_delete_own w hg m x t k hop e K ht heldE b n D hm hown key kl hx hkey fun w' h1 h2 => ?_
  exact hK w' ⟨_, h1, hf.del hkl⟩ (grown_one h2.grown)
theorem wpList_map_len (hg : o.guard = none) (m : Operand) (t : TypeId) (hop : o.op = Op.call { callee := Callee.builtin Builtin.len, args := #[m], argTypes := #[t] }) (k e : TypeId) (K : Keyed Tryz.prog k) (ht : Tryz.prog.underlying t = some (.map k e)) (b n : Nat) (f : Lit → Option Value)
    (hm : a.eval m = .map (some b)) (hmap : MapAt w k b n f)
    (hK : ∀ s : Nat, s ≤ n → (s = 0 ↔ ∀ x, WideAt.IsKeyLit x → f x = none) → wpList Tryz.prog ops Q rest (a.put o.dst (.int .i64 s)) w) : wpList Tryz.prog ops Q (o :: rest) a w := by
  obtain ⟨D, hown, hf⟩ := hmap
  refine wpList_len_own w hg m t hop k e ht heldE b n D hm hown ?_
  obtain ⟨es, hes, _, hk⟩ := hown.entries K
  exact hK _ hown.size_le (hf.size hes hk)
end
end Go.Proofs.YtfjlglefodndjaaGreatDoor

namespace Go.Proofs.YtfjlglefodndjaaGreatDoor
open Go.RowKit

/-- A pile of integers in a block of its own (number b, from B on; one cell: a slice whose row the pile owns): T the block's type, e the elements' type. -/
def PileAt (T e : TypeId) (B b : Nat) (xs : List Int) (w : World) : Prop :=
  B ≤ b ∧ ∃ v, w.heap[b]? = some (.cells #[v] T (0, 0)) ∧ w.ownsRow B e 1 v xs.length (xs.map fun z => Value.int .i64 z) ∧ v.ownBlock ≠ some b
theorem PileAt.fresh (T e : TypeId) (w : World) : PileAt T e w.heap.size w.heap.size [] (w.alloc (.cells #[.slice none 0 0] T)) :=
  ⟨Nat.le_refl _, .slice none 0 0, heap_alloc_new w _, World.ownsRow_nil _ _ _ _, by simp [Value.ownBlock]⟩
theorem PileAt.lt {T e : TypeId} {B b : Nat} {xs : List Int} {w : World} (h : PileAt T e B b xs w) : b < w.heap.size := by
  obtain ⟨_, v, hb, _⟩ := h
  rcases Nat.lt_or_ge b w.heap.size with h' | h'
  · exact h'
  · simp [Array.getElem?_eq_none h'] at hb
theorem PileAt.ext {T e : TypeId} {B b : Nat} {xs : List Int} {w w' : World} (h : PileAt T e B b xs w) (hx : Ext w w') : PileAt T e B b xs w' := by
  have hlt := h.lt
  obtain ⟨hB, v, hb, hown, hne⟩ := h
  refine ⟨hB, v, (hx.block b hlt).trans hb, hown.kept (row := none) ⟨hx.os, hx.tape, hx.output, hx.size, fun k hk _ => hx.block k hk⟩ ?_, hne⟩
  rcases hown.2 with ⟨hv, _⟩ | ⟨g, cap, cur, hv, _⟩
  · exact Or.inl (by rw [hv]; rfl)
  · exact Or.inr (by rw [hv]; simp [Value.ownBlock])
/-- What a pile's slice is: nil, or a row of its own with these cells. -/
theorem PileAt.parts {T e : TypeId} {B b : Nat} {xs : List Int} {w : World} (h : PileAt T e B b xs w) : B ≤ b ∧ ((xs = [] ∧ w.heap[b]? = some (.cells #[.slice none 0 0] T (0, 0))) ∨
    ∃ g cap cur, w.heap[b]? = some (.cells #[.slice (some ⟨g, 0, none⟩) xs.length cap] T (0, 0)) ∧ B ≤ g ∧ g ≠ b ∧ w.heap[g]? = some (.cells cur e (0, 0)) ∧ xs.length ≤ cap ∧ cap ≤ maxLen ∧ cur.size = cap ∧ cur.toList.take xs.length = xs.map fun z => Value.int .i64 z) := by
  obtain ⟨hB, v, hb, hown, hne⟩ := h
  refine ⟨hB, ?_⟩
  rcases hown.2 with ⟨rfl, h0⟩ | ⟨g, cap, cur, rfl, hg1, hg2, hg3, hg4, hg5, hg6⟩
  · exact Or.inl ⟨List.eq_nil_of_length_eq_zero h0, hb⟩
  · refine Or.inr ⟨g, cap, cur, hb, hg1, fun e => hne (by simp [Value.ownBlock, e]), hg2, hg3, hg4, ?_, ?_⟩
    · simpa using hg5
    · simpa using hg6
/-- One element is overwritten. -/
theorem pile_set {T e : TypeId} {B b g cap : Nat} {cur : Array Value} {xs : List Int} {w : World} (hB : B ≤ b) (hb : w.heap[b]? = some (.cells #[.slice (some ⟨g, 0, none⟩) xs.length cap] T (0, 0))) (hg1 : B ≤ g) (hgb : g ≠ b) (hg : w.heap[g]? = some (.cells cur e (0, 0)))
    (h1 : xs.length ≤ cap) (h2 : cap ≤ maxLen) (h3 : cur.size = cap) (h4 : cur.toList.take xs.length = xs.map fun z => Value.int .i64 z) {i : Nat} (z : Int) :
    PileAt T e B b (xs.set i z) (w.setCell ⟨g, i, none⟩ (.int .i64 z)) ∧ Chg [g] w (w.setCell ⟨g, i, none⟩ (.int .i64 z)) := by
  refine ⟨⟨hB, .slice (some ⟨g, 0, none⟩) xs.length cap, ?_, ⟨?_, .inr ⟨g, cap, cur.setIfInBounds i (.int .i64 z), ?_, hg1, ?_, ?_, h2, ?_, ?_⟩⟩, ?_⟩, (Chg.refl _ _).setCell (Or.inl (by simp)) _⟩
  · rw [Below.heap_setCell _ _ _ _ (by simpa using fun h => hgb h.symm)]; exact hb
  · simp
  · simp
  · simp [World.setCell, Array.getElem?_modify, hg]
  · simpa using h1
  · simpa using h3
  · simp only [Array.toList_setIfInBounds, List.length_set, Nat.mul_one]
    rw [List.take_set, h4, List.map_set]
  · simp [Value.ownBlock, hgb]
/-- What a walk reads of a pile. -/
theorem pile_cell {e : TypeId} {g : Nat} {cur : Array Value} {xs : List Int} {w : World} (hg : w.heap[g]? = some (.cells cur e (0, 0))) (h4 : cur.toList.take xs.length = xs.map fun z => Value.int .i64 z) {i : Nat} (hi : i < xs.length) : w.cell? ⟨g, i, none⟩ = some (.int .i64 xs[i]) ∧ w.frozen? ⟨g, i, none⟩ = false := by
  have h5 : (cur.toList.take xs.length)[i]? = some (.int .i64 xs[i]) := by rw [h4]; simp [hi]
  rw [List.getElem?_take, if_pos hi] at h5
  refine ⟨?_, Lib.frozen_of_heap hg i⟩
  rw [Lib.cell_of_heap hg]
  simpa using h5
/-- The last element is taken away. -/
theorem pile_less {T e : TypeId} {B b g cap : Nat} {cur : Array Value} {xs : List Int} {w : World} (hB : B ≤ b) (hb : w.heap[b]? = some (.cells #[.slice (some ⟨g, 0, none⟩) xs.length cap] T (0, 0))) (hg1 : B ≤ g) (hgb : g ≠ b) (hg : w.heap[g]? = some (.cells cur e (0, 0)))
    (h1 : xs.length ≤ cap) (h2 : cap ≤ maxLen) (h3 : cur.size = cap) (h4 : cur.toList.take xs.length = xs.map fun z => Value.int .i64 z) :
    PileAt T e B b xs.dropLast (w.setCell ⟨b, 0, none⟩ (.slice (some ⟨g, 0, none⟩) (xs.length - 1) cap)) ∧ Chg [b] w (w.setCell ⟨b, 0, none⟩ (.slice (some ⟨g, 0, none⟩) (xs.length - 1) cap)) := by
  refine ⟨⟨hB, .slice (some ⟨g, 0, none⟩) (xs.length - 1) cap, ?_, ⟨?_, .inr ⟨g, cap, cur, ?_, hg1, ?_, ?_, h2, ?_, ?_⟩⟩, ?_⟩, (Chg.refl _ _).setCell (Or.inl (by simp)) _⟩
  · simp [World.setCell, Array.getElem?_modify, hb]
  · simp
  · simp
  · rw [Below.heap_setCell _ _ _ _ (by simpa using hgb)]; exact hg
  · simp; omega
  · simpa using h3
  · have h5 : cur.toList.take (xs.length - 1) = (cur.toList.take xs.length).take (xs.length - 1) := by rw [List.take_take]; congr 1; omega
    simp only [List.length_dropLast, Nat.mul_one]
    rw [h5, h4, ← List.map_take, List.dropLast_eq_take]
  · simp [Value.ownBlock, hgb]
end Go.Proofs.YtfjlglefodndjaaGreatDoor
