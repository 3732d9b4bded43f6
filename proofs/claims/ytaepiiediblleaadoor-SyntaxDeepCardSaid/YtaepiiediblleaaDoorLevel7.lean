import Derived.Test.YtaepiiediblleaaDoorLevel6
namespace Go.Proofs.YtaepiiediblleaaDoor
open Go.RowKit

/-- Negations and parentheses before an operand: the place, and the levels. -/
def prefixF (toks : List Tok) : Nat → Nat → List Lvl → Lvl → Nat × List Lvl × Lvl
  | 0, k, li, t => (k, li, t)
  | f + 1, k, li, t =>
    if acceptB toks k 1 wNot = true then prefixF toks f (k + 1) li ⟨t.nots + 1, t.ands, t.ors⟩ else
    if acceptB toks k 4 ⟨#[40]⟩ = true then prefixF toks f (k + 1) (li ++ [t]) lvl0 else (k, li, t)

/-- The parser's state, in memory; M: the blocks that it writes. -/
def PS (toks : List Tok) (ta : Option Addr) (tn tc : Nat) (w0 w : World) (bp k : Nat) (li : List Lvl) (t : Lvl) (M X : List Nat) : Prop :=
  ∃ vl l x, PI toks ta tn tc w0 w bp k vl (li ++ [t]) (l ++ [x]) M (X ++ M) ∧ li.length = l.length

def PrefixQ (R : Nat × List Lvl × Lvl) (toks : List Tok) (ta : Option Addr) (tn tc : Nat) (w0 w : World) (bp : Nat) (M X : List Nat) (e : Ending) (w' : World) : Prop :=
  e = .returned (.tuple #[]) ∧ ∃ M', PS toks ta tn tc w0 w' bp R.1 R.2.1 R.2.2 M' X ∧ Chg M w w' ∧ ∀ y ∈ M', y ∈ M ∨ w.heap.size ≤ y

theorem accept_lt {toks : List Tok} {ta : Option Addr} {tn tc : Nat} {w0 w : World} {bp k : Nat} {vl : Value} (h : PC toks ta tn tc w0 w bp k vl) {kind : Int} {text : ByteArray} (ha : acceptB toks k kind text = true) : k < tn := by
  by_cases hlt : k < tn
  · exact hlt
  · rw [acceptB, (h.past hlt).1] at ha; cases ha

/-- One negation more. -/
theorem PI.inc {toks : List Tok} {ta : Option Addr} {tn tc : Nat} {w0 w : World} {bp k g cap : Nat} {li : List Lvl} {t : Lvl} {l : List LvlV} {x : LvlV} {M X : List Nat} (h : PI toks ta tn tc w0 w bp k (.slice (some ⟨g, 0, none⟩) (l.length + 1) cap) (li ++ [t]) (l ++ [x]) M (X ++ M)) (hll : li.length = l.length)
    (n : Nat) (hpot : potAll (li ++ [⟨n, t.ands, t.ors⟩]) ≤ 2 * k) :
    ∃ x' M', PI toks ta tn tc w0 (w.setCell ⟨g, l.length * 3, none⟩ (.int .i64 n)) bp k (.slice (some ⟨g, 0, none⟩) (l.length + 1) cap) (li ++ [⟨n, t.ands, t.ors⟩]) (l ++ [x']) M' (X ++ M') ∧ Chg M w (w.setCell ⟨g, l.length * 3, none⟩ (.int .i64 n)) ∧ ∀ y ∈ M', y ∈ M ∨ w.heap.size ≤ y := by
  have hrn := h.rowsNot
  have hgx : ∀ y ∈ x.rows, y ≠ g := fun y hy e => (hrn y hy).1 (by subst e; simp [rowOf, Value.ownBlock])
  have hc : Chg [g] w (w.setCell ⟨g, l.length * 3, none⟩ (.int .i64 n)) := (Chg.refl [g] w).setCell (Or.inl (by simp)) _
  refine ⟨⟨n, x.va, x.vo⟩, h.finish (N := [g]) X (fun y hy => List.mem_append_left _ hy) hll (fun y hy => Or.inl (by simpa using hy)) hc ?_ (fun y hy => Or.inl hy) (fun y hy => ?_) h.rowsNd ?_ hpot (h.tidy t (by simp))⟩
  · have hown := h.own
    rw [List.length_append, List.length_singleton] at hown
    have h1 := (hown.stored (l.length * 3) (.int .i64 n)).1
    have e0 := set_tail l x.cells 0 (.int .i64 n)
    rw [Nat.add_zero] at e0
    rw [flatMap_snoc, e0] at h1
    exact h1
  · have := h.hKlt y (h.hK y (hrn y hy).2.2)
    simpa using this
  · intro M' hsub
    have hl := h.lastR hll
    exact ⟨rfl, hl.2.1.chg hc (fun y hy => by simpa using hgx y (List.mem_append_left _ (mem_rowOf.2 hy))) (hsub w hc (fun y hy => Or.inl hy)), hl.2.2.chg hc (fun y hy => by simpa using hgx y (List.mem_append_right _ (mem_rowOf.2 hy))) (hsub w hc (fun y hy => Or.inl hy))⟩

/-- At the head of a round of prefix. -/
def PrefixI (R : Nat × List Lvl × Lvl) (toks : List Tok) (ta : Option Addr) (tn tc : Nat) (w0 w : World) (bp : Nat) (M X : List Nat) (m : Nat) (_ : Value) (wr : World) : Prop :=
  ∃ k li t M', PS toks ta tn tc w0 wr bp k li t M' X ∧ Chg M w wr ∧ (∀ y ∈ M', y ∈ M ∨ w.heap.size ≤ y) ∧ m = tn - k ∧ prefixF toks (tn - k + 1) k li t = R

set_option maxRecDepth 100000 in
set_option maxHeartbeats 4000000 in
theorem prefix_calls {toks : List Tok} {ta : Option Addr} {tn tc : Nat} {w0 w : World} {bp k : Nat} {li : List Lvl} {t : Lvl} {M X : List Nat} (h : PS toks ta tn tc w0 w bp k li t M X) (ho : HasOps w0) :
    Calls Tryd.prog 76 #[.pointer (some ⟨bp, 0, none⟩)] w (PrefixQ (prefixF toks (tn - k + 1) k li t) toks ta tn tc w0 w bp M X) := by
  obtain ⟨R, hR⟩ : ∃ R, R = prefixF toks (tn - k + 1) k li t := ⟨_, rfl⟩
  rw [← hR]
  have HS := Lib.hid h
  have HO := Lib.hid ho
  have HR := Lib.hid hR
  clear h ho hR
  go_enter Tryd.func76, Tryd.ntmps76
  go_wp2_with fail
  go_loopg [2] (tn - k) (PrefixI R toks ta tn tc w0 w bp M X)
  case atStart => exact ⟨k, li, t, M, HS.out, Chg.refl _ _, fun y hy => Or.inl hy, rfl, HR.out.symm⟩
  case round =>
    clear HS HR
    obtain ⟨k1, l1, t1, M1, ⟨vl, l, x, hI, hll⟩, hc, hMM, hm, hpf⟩ := hrel
    have HI := Lib.hid hI
    have HC := Lib.hid hc
    have HMM := Lib.hid hMM
    have HM := Lib.hid hm
    have HPF := Lib.hid hpf
    have hsm := hI.small
    have hkt := hI.pc.hk
    have hcn := hI.cnt
    have hbM : bp ∈ M1 := by rw [hI.hM]; simp
    clear hI hc hMM hm hpf
    obtain ⟨o1, o2, o4, o5, o6, o7, o8, olt⟩ := opsAt HO.out HI.out.pc.hx
    cases h1 : acceptB toks k1 1 wNot
    · cases h2 : acceptB toks k1 4 ⟨#[40]⟩
      · have H := Lib.hid (show R = (k1, l1, t1) by rw [← HPF.out, prefixF, if_neg (by simp [h1]), if_neg (by simp [h2])])
        have H1 := Lib.hid h1
        have H2 := Lib.hid h2
        clear h1 h2
        go_wp2_with fail
        refine (HI.out.pc.acceptN H1.out).mono ?_
        rintro r w1 ⟨rfl, hc1, hp1⟩
        have HC1 := Lib.hid hc1
        have HP1 := Lib.hid hp1
        clear hc1 hp1 o1 o2 o4 o5 o6 o7 o8 olt
        go_wp2_with fail
        refine (HP1.out.acceptN H2.out).mono ?_
        rintro r w2 ⟨rfl, hc2, hp2⟩
        have HC2 := Lib.hid (HC1.out.then hc2)
        have HP2 := Lib.hid hp2
        clear hc2 hp2
        go_wp2_with fail
        go_end0
        rw [H.out]
        exact ⟨rfl, M1, ⟨vl, l, x, HI.out.step HC2.out HP2.out (by omega), hll⟩, HC.out.trans HC2.out (by simpa using HMM.out bp hbM), HMM.out⟩
      · have hklt := accept_lt HI.out.pc h2
        have H := Lib.hid (show prefixF toks (tn - (k1 + 1) + 1) (k1 + 1) (l1 ++ [t1]) lvl0 = R by
          have := HPF.out
          rw [prefixF, if_neg (by simp [h1]), if_pos h2] at this
          rw [show tn - (k1 + 1) + 1 = tn - k1 by omega]
          exact this)
        have H1 := Lib.hid h1
        have H2 := Lib.hid h2
        clear h1 h2
        go_wp2_with fail
        refine (HI.out.pc.acceptN H1.out).mono ?_
        rintro r w1 ⟨rfl, hc1, hp1⟩
        have HC1 := Lib.hid hc1
        have HP1 := Lib.hid hp1
        clear hc1 hp1 o1 o2 o4 o5 o6 o7 o8 olt
        go_wp2_with fail
        refine (HP1.out.acceptY H2.out).mono ?_
        rintro r w2 ⟨rfl, hc2, hp2⟩
        have HC2 := Lib.hid (HC1.out.then hc2)
        have hI2 := Lib.hid (HI.out.step HC2.out hp2 (by omega))
        clear hc2 hp2 HP1 HC1
        obtain ⟨g, cap, rfl, hgM, hgb, hg0, hgw, -, -, -, -, hl6⟩ := hI2.out.at
        obtain ⟨c0, c1, c2, cf, hbw⟩ := hI2.out.pc.cells
        have hown := hI2.out.own
        rw [List.length_append, List.length_singleton] at hown
        have HOW := Lib.hid hown
        have hb0 := hI2.out.pc.hx.size
        clear hown
        go_wp2_with (at_builtin; refine wpList_append2 elemLevel rfl _ _ rfl w0.heap.size _ _ _ rfl HOW.out _ 1 1 rfl ?c0 rfl ?c1 (by omega) ?c2 (by omega) ?c4 ?_)
        case c0 => simp
        case c1 => simp [Value.oneCell']
        case c2 => omega
        case c4 => omega
        intro g6 cap6 w6 ho6 hg6 hl6' hlt6
        have hne : some bp ≠ Value.ownBlock (.slice (some ⟨g, 0, none⟩) (l.length + 1) cap) := fun e => hgb (by simpa [Value.ownBlock] using e.symm)
        have e1 : w6.cell? ⟨bp, 2, none⟩ = some (.slice (some ⟨g, 0, none⟩) (l.length + 1) cap) := hg6.cell (((Ext.refl w2).alloc _).cell c2) hne
        have e2 : w6.frozen? ⟨bp, 2, none⟩ = false := by
          rw [World.frozen?_of_block (hg6.block bp (by simp; omega) hne)]; exact (((Ext.refl w2).alloc _).frozen c2).trans (cf _)
        have HG6 := Lib.hid hg6
        have HL6 := Lib.hid hl6'
        have HLT := Lib.hid hlt6
        have HO6 := Lib.hid ho6
        clear hg6 hl6' hlt6 ho6 c0 c1 c2 cf hne
        go_wp2_with fail
        go_roundg (tn - (k1 + 1))
        case measure => have := HM.out; omega
        case rel =>
          have e3 : (l ++ [x]).length = l.length + 1 := by simp
          obtain ⟨M', h1, h2, h3⟩ := hI2.out.push (g6 := g6) (cap6 := cap6) (w6 := w6) (by rw [e3, flatMap_snoc, List.append_assoc]; exact HO6.out) HG6.out HL6.out HLT.out (by simpa using hcn)
          rw [e3] at h1 h2
          refine ⟨k1 + 1, l1 ++ [t1], lvl0, M', ⟨_, l ++ [x], lvlV0, h1, by simp [hll]⟩, (HC.out.trans HC2.out (by simpa using HMM.out bp hbM)).trans h2 HMM.out, fun y hy => ?_, rfl, H.out⟩
          rcases h3 y hy with h | h
          · exact HMM.out y h
          · exact Or.inr (Nat.le_trans (HC.out.trans HC2.out (by simpa using HMM.out bp hbM)).size h)
    · have hklt := accept_lt HI.out.pc h1
      have H := Lib.hid (show prefixF toks (tn - (k1 + 1) + 1) (k1 + 1) l1 ⟨t1.nots + 1, t1.ands, t1.ors⟩ = R by
        have := HPF.out
        rw [prefixF, if_pos h1] at this
        rw [show tn - (k1 + 1) + 1 = tn - k1 by omega]
        exact this)
      have H1 := Lib.hid h1
      clear h1
      go_wp2_with fail
      refine (HI.out.pc.acceptY H1.out).mono ?_
      rintro r w1 ⟨rfl, hc1, hp1⟩
      have HC1 := Lib.hid hc1
      have hI1 := Lib.hid (HI.out.step hc1 hp1 (by omega))
      clear hc1 hp1 o1 o2 o4 o5 o6 o7 o8 olt
      obtain ⟨g, cap, rfl, hgM, hgb, hg0, hgw, -, -, -, -, hl6⟩ := hI1.out.at
      go_wp2_with fail
      refine (top_calls' g l.length cap bp _ hI1.out.pc.cells.2.2.1 hl6).mono ?_
      rintro r w2 ⟨rfl, hx2⟩
      have hI2 := Lib.hid (hI1.out.ext hx2)
      have HC2 := Lib.hid (HC1.out.then (hx2.chg _))
      clear hx2 hI1 HC1
      obtain ⟨g', cap', e1, -, -, -, hgw2, c0, -, -, cf, -⟩ := hI2.out.at
      simp only [Value.slice.injEq, Option.some.injEq, Addr.mk.injEq, and_true, true_and] at e1
      obtain ⟨rfl, rfl⟩ := e1
      have hxn : x.nots = t1.nots := (hI2.out.lastR hll).1
      rw [hxn] at c0
      have hpt := HI.out.pot
      have hnb : t1.nots ≤ 2 * k1 := by rw [potAll_snoc] at hpt; unfold Lvl.pot at hpt; omega
      have HPT := Lib.hid hpt
      clear hxn hpt
      go_wp2_with fail
      go_roundg (tn - (k1 + 1))
      case measure => have := HM.out; omega
      case rel =>
        obtain ⟨x', M', h1, h2, h3⟩ := hI2.out.inc hll (t1.nots + 1) (by
          have := HPT.out
          rw [potAll_snoc] at this ⊢
          unfold Lvl.pot at this ⊢
          simp only
          omega)
        refine ⟨k1 + 1, l1, ⟨t1.nots + 1, t1.ands, t1.ors⟩, M', ⟨_, l, x', h1, hll⟩, (HC.out.trans HC2.out (by simpa using HMM.out bp hbM)).trans h2 HMM.out, fun y hy => ?_, rfl, H.out⟩
        rcases h3 y hy with h | h
        · exact HMM.out y h
        · exact Or.inr (Nat.le_trans (HC.out.trans HC2.out (by simpa using HMM.out bp hbM)).size h)
end Go.Proofs.YtaepiiediblleaaDoor
