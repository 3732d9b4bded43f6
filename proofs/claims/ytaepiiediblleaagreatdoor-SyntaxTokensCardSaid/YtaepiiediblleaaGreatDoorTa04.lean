/-
  Texts of the claim, joined: Parse3.
-/
import Derived.Test.YtaepiiediblleaaGreatDoorTa03
namespace Go.Proofs.YtaepiiediblleaaGreatDoor
open Go.RowKit

theorem elemStr : ElemT 25 9 (.string ⟨#[]⟩) 1 16 := ⟨by kernel_rfl, by kernel_rfl, rfl, by decide⟩

theorem owns_chg {N : List Nat} {w w' : World} {base : Nat} {e : TypeId} {size : Nat} {v : Value} {n : Nat} {xs : List Value} (h : w.ownsRow base e size v n xs) (hc : Chg N w w') (hN : ∀ k, v.ownBlock = some k → k ∉ N) : w'.ownsRow base e size v n xs := by
  refine ⟨h.1, ?_⟩
  rcases h.2 with hn | ⟨g, cap, cur, rfl, hb, hgg, rest⟩
  · exact .inl hn
  · refine .inr ⟨g, cap, cur, rfl, hb, ?_, rest⟩
    rw [hc.block g (Array.getElem?_eq_some_iff.1 hgg).1 (hN g rfl)]
    exact hgg
theorem PC.chg {toks : List Tok} {ta : Option Addr} {tn tc : Nat} {w0 w : World} {bp k : Nat} {vl : Value} (h : PC toks ta tn tc w0 w bp k vl) {w' : World} {N : List Nat} (hc : Chg N w w') (hN : bp ∉ N) (hN0 : ∀ x ∈ N, w0.heap.size ≤ x) : PC toks ta tn tc w0 w' bp k vl :=
  ⟨h.ht, hc.ext h.hx hN0, (hc.block bp (blk_lt h.hb) hN).trans h.hb, h.hbp, h.hk, h.htn, h.hz⟩
/-- What an append may have changed. -/
def rowOf (v : Value) : List Nat := match v.ownBlock with | some k => [k] | none => []
theorem mem_rowOf {v : Value} {k : Nat} : k ∈ rowOf v ↔ v.ownBlock = some k := by
  unfold rowOf
  cases v.ownBlock with
  | none => simp
  | some x => simp [eq_comm]
theorem grown_chg {w w' : World} {v : Value} (h : w.grownBy w' v.ownBlock) : Chg (rowOf v) w w' :=
  ⟨h.os, h.tape, h.output, h.size, fun k hk hn => h.block k hk (fun e => hn (mem_rowOf.2 e.symm))⟩

def strCells (s : ByteArray) : List Value := [.string s]
theorem strs_of_owns {w : World} {base : Nat} {l : List ByteArray} {v : Value} (h : w.ownsRow base 9 1 v l.length (l.flatMap strCells)) (M : List Nat) (hM : ∀ x ∈ M, x < base) : ∃ a c, v = .slice a l.length c ∧ IsStrs (mask w M) l a l.length c ∧ IsStrs w l a l.length c := by
  have hlt := h.lt
  obtain ⟨a, c, rfl, hr⟩ := IsRows.of_owns (f := strCells) (fun _ => rfl) h
  have hs : IsStrs w l a l.length c := ⟨hr.1, hr.2.1, hr.2.2.1, fun i hi => by
    obtain ⟨b, off, e1, e2⟩ := hr.2.2.2 i hi
    have := e2 0 (by simp [strCells])
    simp only [strCells, List.getElem_cons_zero, Nat.mul_one, Nat.add_zero] at this
    exact ⟨b, off, e1, this⟩⟩
  refine ⟨a, c, rfl, ⟨hs.1, hs.2.1, hs.2.2.1, fun i hi => ?_⟩, hs⟩
  obtain ⟨b, off, e1, e2⟩ := hs.2.2.2 i hi
  refine ⟨b, off, e1, ?_⟩
  rw [mask_cell, if_neg, e2]
  intro hm
  have h1 := hM _ hm
  have h2 := (hlt b (by rw [e1]; rfl)).1
  simp only at h1
  omega

def textAt (toks : List Tok) (k : Nat) : ByteArray := match toks[k]? with | some t => t.text | none => ⟨#[]⟩
/-- The words of a list from the k-th token on, after acc: the words, the error, the place. -/
def listLoop (toks : List Tok) : Nat → Nat → List ByteArray → List ByteArray × Int × Nat
  | 0, k, _ => ([], 5, k)
  | f + 1, k, acc =>
    if nameTokB toks k = false then ([], 5, k) else
    if acc.length = 12 then ([], 4, k) else
    if textAt toks k ∈ acc then ([], 8, k) else
    if acceptB toks (k + 1) 4 ⟨#[44]⟩ = true then listLoop toks f (k + 2) (acc ++ [textAt toks k]) else
    if acceptB toks (k + 1) 4 ⟨#[41]⟩ = true then (acc ++ [textAt toks k], 0, k + 2) else ([], 5, k + 1)
def listF (toks : List Tok) (k : Nat) : List ByteArray × Int × Nat := if acceptB toks k 4 ⟨#[40]⟩ = true then listLoop toks 14 (k + 1) [] else ([], 5, k)

def ListQ (R : List ByteArray × Int × Nat) (toks : List Tok) (ta : Option Addr) (tn tc : Nat) (w0 w : World) (bp : Nat) (vl : Value) (e : Ending) (w' : World) : Prop :=
  ∃ a n c, e = .returned (.tuple #[.slice a n c, .int .i64 R.2.1]) ∧ (∀ M : List Nat, (∀ x ∈ M, x < w.heap.size) → IsStrs (mask w' M) R.1 a n c) ∧ Chg [bp] w w' ∧ PC toks ta tn tc w0 w' bp R.2.2 vl
theorem listQ_err {toks : List Tok} {ta : Option Addr} {tn tc : Nat} {w0 w : World} {bp k : Nat} {vl : Value} {R : List ByteArray × Int × Nat} {b : Int} {w' : World} (hR : R = ([], b, k)) (hc : Chg [bp] w w') (h : PC toks ta tn tc w0 w' bp k vl) : ListQ R toks ta tn tc w0 w bp vl (.returned (.tuple #[.slice none 0 0, .int .i64 b])) w' := by
  subst hR; exact ⟨none, 0, 0, rfl, fun M _ => ⟨rfl, by omega, Or.inl ⟨rfl, rfl⟩, fun i hi => by simp at hi⟩, hc, h⟩

theorem nameTok_lt {toks : List Tok} {ta : Option Addr} {tn tc : Nat} {w0 w : World} {bp k : Nat} {vl : Value} (h : PC toks ta tn tc w0 w bp k vl) (hn : nameTokB toks k = true) : k < tn := by
  by_cases hlt : k < tn
  · exact hlt
  · rw [nameTokB, (h.past hlt).1] at hn; cases hn

/-- At the head of a round. -/
def ListI (R : List ByteArray × Int × Nat) (toks : List Tok) (ta : Option Addr) (tn tc : Nat) (w0 w : World) (bp : Nat) (vl : Value) (m : Nat) (v : Value) (wr : World) : Prop :=
  ∃ (k : Nat) (acc : List ByteArray), m = 13 - acc.length ∧ acc.length ≤ 12 ∧ wr.ownsRow w.heap.size 9 1 v acc.length (acc.flatMap strCells) ∧ PC toks ta tn tc w0 wr bp k vl ∧ Chg [bp] w wr ∧ listLoop toks (14 - acc.length) k acc = R

set_option maxRecDepth 100000 in
set_option maxHeartbeats 2000000 in
theorem list_calls {toks : List Tok} {ta : Option Addr} {tn tc : Nat} {w0 w : World} {bp k : Nat} {vl : Value} (h : PC toks ta tn tc w0 w bp k vl) :
    Calls Tryz.prog 78 #[.pointer (some ⟨bp, 0, none⟩)] w (ListQ (listF toks k) toks ta tn tc w0 w bp vl) := by
  have HP := Lib.hid h
  have hbw := h.cells.2.2.2.2
  have hw0 := h.hx.size
  have hbp := h.hbp
  cases h1 : acceptB toks k 4 ⟨#[40]⟩
  · have H := Lib.hid (show listF toks k = ([], 5, k) by rw [listF, if_neg (by simp [h1])])
    have H1 := Lib.hid h1
    generalize listF toks k = R at *
    clear h h1
    go_enter Tryz.func78, Tryz.ntmps78
    go_wp2_with fail
    refine (HP.out.accept _ _).mono ?_
    rintro r w1 ⟨rfl, hc1, hp1⟩
    rw [H1.out] at hp1 ⊢
    have HP1 := Lib.hid hp1
    have HC1 := Lib.hid hc1
    clear hp1 hc1
    go_wp2_with fail
    go_ret2
    exact listQ_err H.out HC1.out HP1.out
  · have H := Lib.hid (show listF toks k = listLoop toks 14 (k + 1) [] by rw [listF, if_pos h1])
    have H1 := Lib.hid h1
    generalize listF toks k = R at *
    clear h h1
    go_enter Tryz.func78, Tryz.ntmps78
    go_wp2_with fail
    refine (HP.out.accept _ _).mono ?_
    rintro r w1 ⟨rfl, hc1, hp1⟩
    rw [H1.out] at hp1 ⊢
    have HP1 := Lib.hid hp1
    have HC1 := Lib.hid hc1
    clear hp1 hc1
    go_wp2_with fail
    go_loopg [4] 13 (ListI R toks ta tn tc w0 w bp vl)
    case atStart => exact ⟨k + 1, [], rfl, by simp, World.ownsRow_nil _ _ _ _, HP1.out, HC1.out, H.out.symm⟩
    case round =>
      clear HP1 HC1 HP H1 H
      obtain ⟨k1, acc, hm, hacc, hown, hp, hc, hloop⟩ := hrel
      have HM := Lib.hid hm
      have HO := Lib.hid hown
      have HP := Lib.hid hp
      have HC := Lib.hid hc
      have HL := Lib.hid hloop
      have htn := hp.htn
      clear hm hown hp hc hloop
      obtain ⟨a, c, rfl, -, hstr⟩ := strs_of_owns HO.out [] (by simp)
      have HSTR := Lib.hid hstr
      clear hstr
      cases h1 : nameTokB toks k1
      · have H := Lib.hid (show R = ([], 5, k1) by rw [← HL.out, show 14 - acc.length = (13 - acc.length) + 1 by omega, listLoop, if_pos h1])
        have H1 := Lib.hid h1
        clear h1
        go_wp2_with fail
        refine (isName_calls HP.out).mono ?_
        rintro r w1 ⟨rfl, hx1⟩
        rw [H1.out]
        have HX1 := Lib.hid hx1
        clear hx1
        go_wp2_with fail
        go_ret2
        exact listQ_err H.out (HC.out.then (HX1.out.chg _)) (HP.out.ext HX1.out)
      · have hlt := nameTok_lt HP.out h1
        have HL1 := Lib.hid (show R = if acc.length = 12 then ([], 4, k1) else
            if textAt toks k1 ∈ acc then ([], 8, k1) else
            if acceptB toks (k1 + 1) 4 ⟨#[44]⟩ = true then listLoop toks (13 - acc.length) (k1 + 2) (acc ++ [textAt toks k1]) else
            if acceptB toks (k1 + 1) 4 ⟨#[41]⟩ = true then (acc ++ [textAt toks k1], 0, k1 + 2) else ([], 5, k1 + 1) by
          rw [← HL.out, show 14 - acc.length = (13 - acc.length) + 1 by omega, listLoop, if_neg (show ¬ nameTokB toks k1 = false by simp [h1])])
        have H1 := Lib.hid h1
        clear h1 HL
        go_wp2_with fail
        refine (isName_calls HP.out).mono ?_
        rintro r w1 ⟨rfl, hx1⟩
        rw [H1.out]
        have hp1 := HP.out.ext hx1
        have HP1 := Lib.hid hp1
        have HC1 := Lib.hid (HC.out.then (hx1.chg _))
        have HO1 := Lib.hid (owns_ext HO.out hx1)
        have HSTR1 := Lib.hid (HSTR.out.ext hx1)
        clear HP HC HO HSTR
        obtain ⟨c0, c1, c2, cf, hb1⟩ := hp1.cells
        obtain ⟨T, b, off, hT, hTs, rfl, hbw1, g0, g1, g2⟩ := hp1.tok hlt
        have HT := Lib.hid (show textAt toks k1 = T.text by rw [textAt, hT])
        have ti : (k1 : Int) < (tn : Int) := by omega
        have ti0 : (0 : Int) ≤ (k1 : Int) := by omega
        clear hT hp1 hx1
        by_cases h4 : acc.length = 12
        · have H := Lib.hid (show R = ([], 4, k1) by rw [HL1.out, if_pos h4])
          have t4 : ((acc.length : Int) == 12) = true := by simp [h4]
          clear h4
          go_wp2_with fail
          go_quiet (fail)
          go_wp2_with fail
          go_ret2
          exact listQ_err H.out (HC1.out.drewN _) (HP1.out.ext (Ext.drewN (Ext.refl _) _))
        · have t4 : ((acc.length : Int) == 12) = false := by simp; omega
          by_cases h5 : T.text ∈ acc
          · have H := Lib.hid (show R = ([], 8, k1) by rw [HL1.out, if_neg h4, HT.out, if_pos h5])
            have H5 := Lib.hid h5
            clear h5 h4
            go_wp2_with fail
            go_quiet (fail)
            go_wp2_with fail
            refine (contains_calls acc _ _ _ _ _ (by omega) (HSTR1.out.ext (Ext.drewN (Ext.refl _) _))).mono ?_
            rintro r w2 ⟨rfl, rfl⟩
            rw [decide_eq_true H5.out]
            go_wp2_with fail
            go_ret2
            exact listQ_err H.out (HC1.out.drewN _) (HP1.out.ext (Ext.drewN (Ext.refl _) _))
          · have HL2 := Lib.hid (show R = if acceptB toks (k1 + 1) 4 ⟨#[44]⟩ = true then listLoop toks (13 - acc.length) (k1 + 2) (acc ++ [T.text]) else
                if acceptB toks (k1 + 1) 4 ⟨#[41]⟩ = true then (acc ++ [T.text], 0, k1 + 2) else ([], 5, k1 + 1) by rw [HL1.out, if_neg h4, HT.out, if_neg h5])
            have H5 := Lib.hid h5
            clear h5 HL1 HT
            go_wp2_with fail
            go_quiet (fail)
            go_wp2_with fail
            refine (contains_calls acc _ _ _ _ _ (by omega) (HSTR1.out.ext (Ext.drewN (Ext.refl _) _))).mono ?_
            rintro r w2 ⟨rfl, rfl⟩
            rw [decide_eq_false H5.out]
            have HOW := Lib.hid (fun n => owns_ext HO1.out (Ext.drewN (Ext.refl w1) n))
            have hz := HC1.out.size
            go_wp2_with (at_builtin; refine wpList_append_new elemStr rfl _ _ rfl w.heap.size _ _ _ rfl (HOW.out _) _ 1 1 rfl ?c0 rfl ?c1 ?c2 ?c3 ?c4 ?_)
            case c0 => simp
            case c1 => simp [Value.oneCell']
            case c2 => simp only [maxLen]; omega
            case c3 => omega
            case c4 => simpa using hz
            intro v2 w2 hown2 hgrow2
            have hcg : Chg (rowOf (.slice a acc.length c)) w1 w2 := ((Chg.refl _ w1).drewN _).then (grown_chg hgrow2)
            have hrow : ∀ x ∈ rowOf (.slice a acc.length c), w.heap.size ≤ x := fun x hx => (HO1.out.lt x (mem_rowOf.1 hx)).1
            have hp2 := HP1.out.chg hcg (fun hx => by have := hrow _ hx; omega) (fun x hx => by have := hrow x hx; omega)
            have HP2 := Lib.hid hp2
            have HC2 := Lib.hid (HC1.out.trans hcg (fun x hx => Or.inr (hrow x hx)))
            have HO2 := Lib.hid (show w2.ownsRow w.heap.size 9 1 v2 (acc ++ [T.text]).length ((acc ++ [T.text]).flatMap strCells) by simpa [strCells] using hown2)
            clear HP1 HC1 HO1 HSTR1 HOW hown2 hgrow2 hcg hrow c0 c1 c2 cf g0 g1 g2 hb1
            obtain ⟨c0, c1, c2, cf, hb2⟩ := hp2.cells
            clear hp2
            have HN := Lib.hid (HP2.out.next hlt)
            have HCN := Lib.hid (HC2.out.setCell (p := ⟨bp, 1, none⟩) (Or.inl (by simp)) (.int .i64 ((k1 : Int) + 1)))
            have HON := Lib.hid (owns_chg HO2.out ((Chg.refl [bp] w2).setCell (p := ⟨bp, 1, none⟩) (Or.inl (by simp)) (.int .i64 ((k1 : Int) + 1))) (fun x hx => by have := (HO2.out.lt x hx).1; simp; omega))
            go_wp2_with fail
            clear HP2 HC2 HO2 c0 c1 c2 cf hb2
            generalize w2.setCell ⟨bp, 1, none⟩ (.int .i64 ((k1 : Int) + 1)) = w3 at *
            cases h6 : acceptB toks (k1 + 1) 4 ⟨#[44]⟩
            · have HL3 := Lib.hid (show R = if acceptB toks (k1 + 1) 4 ⟨#[41]⟩ = true then (acc ++ [T.text], 0, k1 + 2) else ([], 5, k1 + 1) by rw [HL2.out, if_neg (by simp [h6])])
              have H6 := Lib.hid h6
              clear h6 HL2
              refine (HN.out.accept _ _).mono ?_
              rintro r w4 ⟨rfl, hc4, hp4⟩
              rw [H6.out] at hp4 ⊢
              have HP4 := Lib.hid hp4
              have HC4 := Lib.hid (HCN.out.then hc4)
              have HO4 := Lib.hid (owns_chg HON.out hc4 (fun x hx => by have := (HON.out.lt x hx).1; simp; omega))
              clear hp4 hc4
              go_wp2_with fail
              cases h7 : acceptB toks (k1 + 1) 4 ⟨#[41]⟩
              · have H := Lib.hid (show R = ([], 5, k1 + 1) by rw [HL3.out, if_neg (by simp [h7])])
                have H7 := Lib.hid h7
                clear h7
                refine (HP4.out.accept _ _).mono ?_
                rintro r w5 ⟨rfl, hc5, hp5⟩
                simp only [Bool.false_eq_true, if_false] at hp5 ⊢
                rw [H7.out] at hp5 ⊢
                have HP5 := Lib.hid hp5
                have HC5 := Lib.hid (HC4.out.then hc5)
                clear hp5 hc5
                go_wp2_with fail
                go_ret2
                exact listQ_err H.out HC5.out HP5.out
              · have H := Lib.hid (show R = (acc ++ [T.text], 0, k1 + 2) by rw [HL3.out, if_pos h7])
                have H7 := Lib.hid h7
                clear h7
                refine (HP4.out.accept _ _).mono ?_
                rintro r w5 ⟨rfl, hc5, hp5⟩
                simp only [Bool.false_eq_true, if_false] at hp5 ⊢
                rw [H7.out] at hp5 ⊢
                have HP5 := Lib.hid hp5
                have HC5 := Lib.hid (HC4.out.then hc5)
                have HO5 := Lib.hid (owns_chg HO4.out hc5 (fun x hx => by have := (HO4.out.lt x hx).1; simp; omega))
                clear hp5 hc5
                go_wp2_with fail
                go_ret2
                rw [H.out]
                obtain ⟨a5, c5, rfl, -⟩ := strs_of_owns HO5.out [] (by simp)
                refine ⟨a5, _, c5, rfl, fun M hM => ?_, HC5.out, HP5.out⟩
                obtain ⟨a6, c6, e6, h8, -⟩ := strs_of_owns HO5.out M hM
                simp only [Value.slice.injEq] at e6
                obtain ⟨rfl, -, rfl⟩ := e6
                exact h8
            · have H := Lib.hid (show R = listLoop toks (13 - acc.length) (k1 + 2) (acc ++ [T.text]) by rw [HL2.out, if_pos h6])
              have H6 := Lib.hid h6
              clear h6 HL2
              refine (HN.out.accept _ _).mono ?_
              rintro r w4 ⟨rfl, hc4, hp4⟩
              rw [H6.out] at hp4 ⊢
              have HP4 := Lib.hid hp4
              have HC4 := Lib.hid (HCN.out.then hc4)
              have HO4 := Lib.hid (owns_chg HON.out hc4 (fun x hx => by have := (HON.out.lt x hx).1; simp; omega))
              clear hp4 hc4
              go_wp2_with fail
              go_roundg (12 - acc.length)
              case measure => have := HM.out; omega
              case rel => exact ⟨k1 + 2, acc ++ [T.text], by simp only [List.length_append, List.length_singleton]; omega, by simp only [List.length_append, List.length_singleton]; omega, HO4.out, HP4.out, HC4.out, by rw [H.out]; simp only [List.length_append, List.length_singleton]; rw [show 14 - (acc.length + 1) = 13 - acc.length by omega]⟩
end Go.Proofs.YtaepiiediblleaaGreatDoor
