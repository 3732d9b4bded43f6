/-
  Texts of the claim, joined: Level7, Level8, Level9, Gram.
-/
import Derived.Test.YtaepiiediblleaaGreatDoorBa07
namespace Go.Proofs.YtaepiiediblleaaGreatDoor
open Go.RowKit

/-- Negations and parentheses before an operand: the place, and the levels. -/
def prefixF (toks : List Tok) : Nat → Nat → List Lvl → Lvl → Nat × List Lvl × Lvl
  | 0, k, li, t => (k, li, t)
  | f + 1, k, li, t =>
    if acceptB toks k 1 wNot = true then prefixF toks f (k + 1) li ⟨t.nots + 1, t.ands, t.ors⟩ else
    if acceptB toks k 4 ⟨#[40]⟩ = true then prefixF toks f (k + 1) (li ++ [t]) lvl0 else (k, li, t)

/-- The parser's state, in memory; M: the blocks that it writes. -/
def PS (toks : List Tok) (ta : Option Addr) (tn tc : Nat) (w0 w : World) (bp k : Nat) (li : List Lvl) (t : Lvl) (M X : List Nat) : Prop :=
  ∃ vl l x, PI toks ta tn tc w0 w bp k vl (li ++ [t]) (l ++ [x]) M (X ++ M) ∧ li.length = l.length

def PrefixQ (R : Nat × List Lvl × Lvl) (toks : List Tok) (ta : Option Addr) (tn tc : Nat) (w0 w : World) (bp : Nat) (M X : List Nat) (e : Ending) (w' : World) : Prop :=
  e = .returned (.tuple #[]) ∧ ∃ M', PS toks ta tn tc w0 w' bp R.1 R.2.1 R.2.2 M' X ∧ Chg M w w' ∧ ∀ y ∈ M', y ∈ M ∨ w.heap.size ≤ y

theorem accept_lt {toks : List Tok} {ta : Option Addr} {tn tc : Nat} {w0 w : World} {bp k : Nat} {vl : Value} (h : PC toks ta tn tc w0 w bp k vl) {kind : Int} {text : ByteArray} (ha : acceptB toks k kind text = true) : k < tn := by
  by_cases hlt : k < tn
  · exact hlt
  · rw [acceptB, (h.past hlt).1] at ha; cases ha

/-- One negation more. -/
theorem PI.inc {toks : List Tok} {ta : Option Addr} {tn tc : Nat} {w0 w : World} {bp k g cap : Nat} {li : List Lvl} {t : Lvl} {l : List LvlV} {x : LvlV} {M X : List Nat} (h : PI toks ta tn tc w0 w bp k (.slice (some ⟨g, 0, none⟩) (l.length + 1) cap) (li ++ [t]) (l ++ [x]) M (X ++ M)) (hll : li.length = l.length)
    (n : Nat) (hpot : potAll (li ++ [⟨n, t.ands, t.ors⟩]) ≤ 2 * k) :
    ∃ x' M', PI toks ta tn tc w0 (w.setCell ⟨g, l.length * 3, none⟩ (.int .i64 n)) bp k (.slice (some ⟨g, 0, none⟩) (l.length + 1) cap) (li ++ [⟨n, t.ands, t.ors⟩]) (l ++ [x']) M' (X ++ M') ∧ Chg M w (w.setCell ⟨g, l.length * 3, none⟩ (.int .i64 n)) ∧ ∀ y ∈ M', y ∈ M ∨ w.heap.size ≤ y := by
  have hrn := h.rowsNot
  have hgx : ∀ y ∈ x.rows, y ≠ g := fun y hy e => (hrn y hy).1 (by subst e; simp [rowOf, Value.ownBlock])
  have hc : Chg [g] w (w.setCell ⟨g, l.length * 3, none⟩ (.int .i64 n)) := (Chg.refl [g] w).setCell (Or.inl (by simp)) _
  refine ⟨⟨n, x.va, x.vo⟩, h.finish (N := [g]) X (fun y hy => List.mem_append_left _ hy) hll (fun y hy => Or.inl (by simpa using hy)) hc ?_ (fun y hy => Or.inl hy) (fun y hy => ?_) h.rowsNd ?_ hpot (h.tidy t (by simp))⟩
  · have hown := h.own
    rw [List.length_append, List.length_singleton] at hown
    have h1 := (hown.stored (l.length * 3) (.int .i64 n)).1
    have e0 := set_tail l x.cells 0 (.int .i64 n)
    rw [Nat.add_zero] at e0
    rw [flatMap_snoc, e0] at h1
    exact h1
  · have := h.hKlt y (h.hK y (hrn y hy).2.2)
    simpa using this
  · intro M' hsub
    have hl := h.lastR hll
    exact ⟨rfl, hl.2.1.chg hc (fun y hy => by simpa using hgx y (List.mem_append_left _ (mem_rowOf.2 hy))) (hsub w hc (fun y hy => Or.inl hy)), hl.2.2.chg hc (fun y hy => by simpa using hgx y (List.mem_append_right _ (mem_rowOf.2 hy))) (hsub w hc (fun y hy => Or.inl hy))⟩

/-- At the head of a round of prefix. -/
def PrefixI (R : Nat × List Lvl × Lvl) (toks : List Tok) (ta : Option Addr) (tn tc : Nat) (w0 w : World) (bp : Nat) (M X : List Nat) (m : Nat) (_ : Value) (wr : World) : Prop :=
  ∃ k li t M', PS toks ta tn tc w0 wr bp k li t M' X ∧ Chg M w wr ∧ (∀ y ∈ M', y ∈ M ∨ w.heap.size ≤ y) ∧ m = tn - k ∧ prefixF toks (tn - k + 1) k li t = R

set_option maxRecDepth 100000 in
set_option maxHeartbeats 4000000 in
theorem prefix_calls {toks : List Tok} {ta : Option Addr} {tn tc : Nat} {w0 w : World} {bp k : Nat} {li : List Lvl} {t : Lvl} {M X : List Nat} (h : PS toks ta tn tc w0 w bp k li t M X) (ho : HasOps w0) :
    Calls Tryz.prog 38 #[.pointer (some ⟨bp, 0, none⟩)] w (PrefixQ (prefixF toks (tn - k + 1) k li t) toks ta tn tc w0 w bp M X) := by
  obtain ⟨R, hR⟩ : ∃ R, R = prefixF toks (tn - k + 1) k li t := ⟨_, rfl⟩
  rw [← hR]
  have HS := Lib.hid h
  have HO := Lib.hid ho
  have HR := Lib.hid hR
  clear h ho hR
  go_enter Tryz.func38, Tryz.ntmps38
  go_wp2_with fail
  go_loopg [2] (tn - k) (PrefixI R toks ta tn tc w0 w bp M X)
  case atStart => exact ⟨k, li, t, M, HS.out, Chg.refl _ _, fun y hy => Or.inl hy, rfl, HR.out.symm⟩
  case round =>
    clear HS HR
    obtain ⟨k1, l1, t1, M1, ⟨vl, l, x, hI, hll⟩, hc, hMM, hm, hpf⟩ := hrel
    have HI := Lib.hid hI
    have HC := Lib.hid hc
    have HMM := Lib.hid hMM
    have HM := Lib.hid hm
    have HPF := Lib.hid hpf
    have hsm := hI.small
    have hkt := hI.pc.hk
    have hcn := hI.cnt
    have hbM : bp ∈ M1 := by rw [hI.hM]; simp
    clear hI hc hMM hm hpf
    obtain ⟨o1, o2, o4, o5, o6, o7, o8, olt⟩ := opsAt HO.out HI.out.pc.hx
    cases h1 : acceptB toks k1 1 wNot
    · cases h2 : acceptB toks k1 4 ⟨#[40]⟩
      · have H := Lib.hid (show R = (k1, l1, t1) by rw [← HPF.out, prefixF, if_neg (by simp [h1]), if_neg (by simp [h2])])
        have H1 := Lib.hid h1
        have H2 := Lib.hid h2
        clear h1 h2
        go_wp2_with fail
        refine (HI.out.pc.acceptN H1.out).mono ?_
        rintro r w1 ⟨rfl, hc1, hp1⟩
        have HC1 := Lib.hid hc1
        have HP1 := Lib.hid hp1
        clear hc1 hp1 o1 o2 o4 o5 o6 o7 o8 olt
        go_wp2_with fail
        refine (HP1.out.acceptN H2.out).mono ?_
        rintro r w2 ⟨rfl, hc2, hp2⟩
        have HC2 := Lib.hid (HC1.out.then hc2)
        have HP2 := Lib.hid hp2
        clear hc2 hp2
        go_wp2_with fail
        go_end0
        rw [H.out]
        exact ⟨rfl, M1, ⟨vl, l, x, HI.out.step HC2.out HP2.out (by omega), hll⟩, HC.out.trans HC2.out (by simpa using HMM.out bp hbM), HMM.out⟩
      · have hklt := accept_lt HI.out.pc h2
        have H := Lib.hid (show prefixF toks (tn - (k1 + 1) + 1) (k1 + 1) (l1 ++ [t1]) lvl0 = R by
          have := HPF.out
          rw [prefixF, if_neg (by simp [h1]), if_pos h2] at this
          rw [show tn - (k1 + 1) + 1 = tn - k1 by omega]
          exact this)
        have H1 := Lib.hid h1
        have H2 := Lib.hid h2
        clear h1 h2
        go_wp2_with fail
        refine (HI.out.pc.acceptN H1.out).mono ?_
        rintro r w1 ⟨rfl, hc1, hp1⟩
        have HC1 := Lib.hid hc1
        have HP1 := Lib.hid hp1
        clear hc1 hp1 o1 o2 o4 o5 o6 o7 o8 olt
        go_wp2_with fail
        refine (HP1.out.acceptY H2.out).mono ?_
        rintro r w2 ⟨rfl, hc2, hp2⟩
        have HC2 := Lib.hid (HC1.out.then hc2)
        have hI2 := Lib.hid (HI.out.step HC2.out hp2 (by omega))
        clear hc2 hp2 HP1 HC1
        obtain ⟨g, cap, rfl, hgM, hgb, hg0, hgw, -, -, -, -, hl6⟩ := hI2.out.at
        obtain ⟨c0, c1, c2, cf, hbw⟩ := hI2.out.pc.cells
        have hown := hI2.out.own
        rw [List.length_append, List.length_singleton] at hown
        have HOW := Lib.hid hown
        have hb0 := hI2.out.pc.hx.size
        clear hown
        go_wp2_with (at_builtin; refine wpList_append2 elemLevel rfl _ _ rfl w0.heap.size _ _ _ rfl HOW.out _ 1 1 rfl ?c0 rfl ?c1 (by omega) ?c2 (by omega) ?c4 ?_)
        case c0 => simp
        case c1 => simp [Value.oneCell']
        case c2 => omega
        case c4 => omega
        intro g6 cap6 w6 ho6 hg6 hl6' hlt6
        have hne : some bp ≠ Value.ownBlock (.slice (some ⟨g, 0, none⟩) (l.length + 1) cap) := fun e => hgb (by simpa [Value.ownBlock] using e.symm)
        have e1 : w6.cell? ⟨bp, 2, none⟩ = some (.slice (some ⟨g, 0, none⟩) (l.length + 1) cap) := hg6.cell (((Ext.refl w2).alloc _).cell c2) hne
        have e2 : w6.frozen? ⟨bp, 2, none⟩ = false := by
          rw [World.frozen?_of_block (hg6.block bp (by simp; omega) hne)]; exact (((Ext.refl w2).alloc _).frozen c2).trans (cf _)
        have HG6 := Lib.hid hg6
        have HL6 := Lib.hid hl6'
        have HLT := Lib.hid hlt6
        have HO6 := Lib.hid ho6
        clear hg6 hl6' hlt6 ho6 c0 c1 c2 cf hne
        go_wp2_with fail
        go_roundg (tn - (k1 + 1))
        case measure => have := HM.out; omega
        case rel =>
          have e3 : (l ++ [x]).length = l.length + 1 := by simp
          obtain ⟨M', h1, h2, h3⟩ := hI2.out.push (g6 := g6) (cap6 := cap6) (w6 := w6) (by rw [e3, flatMap_snoc, List.append_assoc]; exact HO6.out) HG6.out HL6.out HLT.out (by simpa using hcn)
          rw [e3] at h1 h2
          refine ⟨k1 + 1, l1 ++ [t1], lvl0, M', ⟨_, l ++ [x], lvlV0, h1, by simp [hll]⟩, (HC.out.trans HC2.out (by simpa using HMM.out bp hbM)).trans h2 HMM.out, fun y hy => ?_, rfl, H.out⟩
          rcases h3 y hy with h | h
          · exact HMM.out y h
          · exact Or.inr (Nat.le_trans (HC.out.trans HC2.out (by simpa using HMM.out bp hbM)).size h)
    · have hklt := accept_lt HI.out.pc h1
      have H := Lib.hid (show prefixF toks (tn - (k1 + 1) + 1) (k1 + 1) l1 ⟨t1.nots + 1, t1.ands, t1.ors⟩ = R by
        have := HPF.out
        rw [prefixF, if_pos h1] at this
        rw [show tn - (k1 + 1) + 1 = tn - k1 by omega]
        exact this)
      have H1 := Lib.hid h1
      clear h1
      go_wp2_with fail
      refine (HI.out.pc.acceptY H1.out).mono ?_
      rintro r w1 ⟨rfl, hc1, hp1⟩
      have HC1 := Lib.hid hc1
      have hI1 := Lib.hid (HI.out.step hc1 hp1 (by omega))
      clear hc1 hp1 o1 o2 o4 o5 o6 o7 o8 olt
      obtain ⟨g, cap, rfl, hgM, hgb, hg0, hgw, -, -, -, -, hl6⟩ := hI1.out.at
      go_wp2_with fail
      refine (top_calls' g l.length cap bp _ hI1.out.pc.cells.2.2.1 hl6).mono ?_
      rintro r w2 ⟨rfl, hx2⟩
      have hI2 := Lib.hid (hI1.out.ext hx2)
      have HC2 := Lib.hid (HC1.out.then (hx2.chg _))
      clear hx2 hI1 HC1
      obtain ⟨g', cap', e1, -, -, -, hgw2, c0, -, -, cf, -⟩ := hI2.out.at
      simp only [Value.slice.injEq, Option.some.injEq, Addr.mk.injEq, and_true, true_and] at e1
      obtain ⟨rfl, rfl⟩ := e1
      have hxn : x.nots = t1.nots := (hI2.out.lastR hll).1
      rw [hxn] at c0
      have hpt := HI.out.pot
      have hnb : t1.nots ≤ 2 * k1 := by rw [potAll_snoc] at hpt; unfold Lvl.pot at hpt; omega
      have HPT := Lib.hid hpt
      clear hxn hpt
      go_wp2_with fail
      go_roundg (tn - (k1 + 1))
      case measure => have := HM.out; omega
      case rel =>
        obtain ⟨x', M', h1, h2, h3⟩ := hI2.out.inc hll (t1.nots + 1) (by
          have := HPT.out
          rw [potAll_snoc] at this ⊢
          unfold Lvl.pot at this ⊢
          simp only
          omega)
        refine ⟨k1 + 1, l1, ⟨t1.nots + 1, t1.ands, t1.ors⟩, M', ⟨_, l, x', h1, hll⟩, (HC.out.trans HC2.out (by simpa using HMM.out bp hbM)).trans h2 HMM.out, fun y hy => ?_, rfl, H.out⟩
        rcases h3 y hy with h | h
        · exact HMM.out y h
        · exact Or.inr (Nat.le_trans (HC.out.trans HC2.out (by simpa using HMM.out bp hbM)).size h)
end Go.Proofs.YtaepiiediblleaaGreatDoor

namespace Go.Proofs.YtaepiiediblleaaGreatDoor
open Go.RowKit

/-- What closed hands back: the last level's part; the other levels stay. -/
def ClosedQ (q : Part) (toks : List Tok) (ta : Option Addr) (tn tc : Nat) (w0 w : World) (bp k : Nat) (li : List Lvl) (l : List LvlV) (M X : List Nat) (e : Ending) (w' : World) : Prop :=
  ∃ (v : PartV) (vl' : Value) (M' : List Nat), e = .returned v.val ∧ PI toks ta tn tc w0 w' bp k vl' li l M' (X ++ M') ∧ PartR (mask w' (X ++ M')) q v ∧ Chg M w w' ∧ ∀ y ∈ M', y ∈ M

theorem potAll_le {li : List Lvl} {t : Lvl} {n : Nat} (h : potAll (li ++ [t]) ≤ n) : potAll li ≤ n := by rw [potAll_snoc] at h; omega

/-- The last level is dropped. -/
theorem PI.pop {toks : List Tok} {ta : Option Addr} {tn tc : Nat} {w0 w : World} {bp k g cap : Nat} {li : List Lvl} {t : Lvl} {l : List LvlV} {x : LvlV} {M K : List Nat} (h : PI toks ta tn tc w0 w bp k (.slice (some ⟨g, 0, none⟩) (l.length + 1) cap) (li ++ [t]) (l ++ [x]) M K) (hll : li.length = l.length) :
    PI toks ta tn tc w0 (w.setCell ⟨bp, 2, none⟩ (.slice (some ⟨g, 0, none⟩) l.length cap)) bp k (.slice (some ⟨g, 0, none⟩) l.length cap) li l (bp :: ([g] ++ l.flatMap LvlV.rows)) K := by
  have hbM : bp ∈ M := by rw [h.hM]; simp
  have hnd := h.nd
  rw [h.hM, rows_snoc] at hnd
  have hc : Chg [bp] w (w.setCell ⟨bp, 2, none⟩ (.slice (some ⟨g, 0, none⟩) l.length cap)) := (Chg.refl [bp] w).setCell (Or.inl (by simp)) _
  have hsub : Sub (mask w K) (mask (w.setCell ⟨bp, 2, none⟩ (.slice (some ⟨g, 0, none⟩) l.length cap)) K) := mask_sub_mask fun y hy hn => ⟨hn, hc.block y hy (by simp; intro e; subst e; exact hn (h.hK _ hbM))⟩
  have hgb : g ≠ bp := by
    intro e
    rw [e] at hnd
    simp [rowOf, Value.ownBlock] at hnd
  have hM' : ∀ y ∈ bp :: ([g] ++ l.flatMap LvlV.rows), y ∈ M := by
    intro y hy
    rw [h.hM, rows_snoc]
    rcases List.mem_cons.1 hy with rfl | hy
    · simp
    · rcases List.mem_append.1 hy with hy | hy
      · simp at hy; subst hy; simp [rowOf, Value.ownBlock]
      · exact List.mem_cons_of_mem _ (List.mem_append_right _ (List.mem_append_left _ hy))
  refine ⟨h.pc.step hc ?_ h.pc.hk, ?_, hll, ?_, rfl, ?_, fun y hy => h.hK y (hM' y hy), ?_, potAll_le h.pot, ?_, fun z hz => h.tidy z (List.mem_append_left _ hz), h.small⟩
  · exact heap_setCell_same w bp 2 _ _ (.slice (some ⟨g, 0, none⟩) l.length cap) h.pc.hb
  · rcases h.own.2 with ⟨h', _⟩ | ⟨g2, cap2, cur, h', hb, hg, hle, hmx, hsz, htk⟩
    · simp at h'
    · simp only [Value.slice.injEq, Option.some.injEq, Addr.mk.injEq, and_true] at h'
      obtain ⟨rfl, -, rfl⟩ := h'
      have hl3 := length_flatMap_of LvlV.cells 3 (fun _ => rfl) l
      refine ⟨hl3, .inr ⟨g, cap, cur, rfl, hb, (heap_setCell_other _ _ _ _ (by simpa using hgb)).trans hg, by simp at hle; omega, hmx, hsz, ?_⟩⟩
      rw [flatMap_snoc] at htk
      have e1 : (cur.toList.take ((l ++ [x]).length * 3)).take (l.length * 3) = cur.toList.take (l.length * 3) := by
        rw [List.take_take]
        congr 1
        simp only [List.length_append, List.length_singleton]
        omega
      rw [← e1, htk, List.take_append_of_le_length (by omega), List.take_of_length_le (by omega)]
  · intro i h1 h2
    have := h.lvl i (by simp; omega) (by simp; omega)
    simp only [List.getElem_append_left h1, List.getElem_append_left h2] at this
    refine this.chg hc (fun y hy h' => ?_) hsub
    simp at h'
    subst h'
    rw [List.nodup_cons] at hnd
    exact hnd.1 (List.mem_append_right _ (List.mem_append_left _ (List.mem_flatMap.2 ⟨l[i], List.getElem_mem h2, hy⟩)))
  · rw [show bp :: (rowOf (.slice (some ⟨g, 0, none⟩) (l.length + 1) cap) ++ (l.flatMap LvlV.rows ++ x.rows)) = (bp :: ([g] ++ l.flatMap LvlV.rows)) ++ x.rows by simp [rowOf, Value.ownBlock]] at hnd
    rw [List.nodup_append] at hnd
    exact hnd.1
  · intro y hy
    have := h.hKlt y hy
    simpa using this
  · have := h.cnt
    simp at this
    omega

theorem tidy_snoc {l : List Part} {q : Part} (h : Tidy l) (hq : q.depth ≤ q.size) : Tidy (l ++ [q]) := fun z hz => by
  rcases List.mem_append.1 hz with hz | hz
  · exact h z hz
  · simp at hz; subst hz; exact hq

/-- The second call of joined. -/
theorem closed_join {w2 w4 w6 : World} {K : List Nat} {ors : List Part} {vos : List PartV} {q : Part} {vq : PartV} {o : Obj} {vo : Value} {base g6 cap6 : Nat} (hpo : PartsR (mask w2 K) ors vos) (hx4 : Ext w2 w4) (hq : PartR (mask w4 K) q vq)
    (ho6 : w6.ownsRow base 56 8 (.slice (some ⟨g6, 0, none⟩) (ors.length + 1) cap6) (ors.length + 1) (vos.flatMap PartV.cells ++ vq.cells)) (hg6 : (w4.alloc o).grownBy w6 vo.ownBlock) (hvo : ∀ y, vo.ownBlock = some y → y ∈ K) (hK : ∀ y ∈ K, y < w2.heap.size)
    (ht : Tidy ors) (hqt : q.depth ≤ q.size) (hs : sumSize ors + q.size ≤ 100000000) (hn : ors.length ≤ 100000000) :
    Calls Tryz.prog 81 #[.int .i64 8, .slice (some ⟨g6, 0, none⟩) (ors.length + 1) cap6] w6 (PartQ (joinedF 8 (ors ++ [q])) K w6) := by
  have hs4 := hx4.size
  have hs6 := hg6.size
  simp at hs6
  have hsub : ∀ wx, Ext wx w4 → Sub (mask wx K) (mask w6 K) := fun wx hx => mask_sub_mask fun y hy hn => ⟨hn, (((hx.chg (rowOf vo)).alloc o).grown hg6 (fun y hy => Or.inl (mem_rowOf.2 hy))).block y hy (fun h => hn (hvo y (mem_rowOf.1 h)))⟩
  have e1 : (vos ++ [vq]).flatMap PartV.cells = vos.flatMap PartV.cells ++ vq.cells := by simp
  have e2 : (vos ++ [vq]).length = ors.length + 1 := by simp [hpo.1]
  rw [← e1, ← e2] at ho6
  obtain ⟨a, c, e3, hr⟩ := IsRows.of_owns (f := PartV.cells) (fun _ => rfl) ho6
  simp only [Value.slice.injEq, true_and] at e3
  obtain ⟨rfl, rfl⟩ := e3
  rw [e2] at hr
  exact joined_calls 8 (ors ++ [q]) (vos ++ [vq]) _ (ors.length + 1) cap6 K w6 hr ((hpo.mono (hsub w2 hx4)).snoc (hq.mono (hsub w4 (Ext.refl _)))) (fun y hy => by have := hK y hy; omega) (tidy_snoc ht hqt) (by rw [sumSize_append]; simp only [sumSize]; omega) (by omega)

/-- The state behind closed. -/
theorem closed_fin {toks : List Tok} {ta : Option Addr} {tn tc : Nat} {w0 w w2 w8 W : World} {bp k g cap br bt : Nat} {li : List Lvl} {l : List LvlV} {M X : List Nat} {vo : Value} {q : Part} {v : PartV}
    (h3 : PI toks ta tn tc w0 w2 bp k (.slice (some ⟨g, 0, none⟩) l.length cap) li l (bp :: ([g] ++ l.flatMap LvlV.rows)) (br :: bt :: (X ++ M))) (hM' : ∀ y ∈ bp :: ([g] ++ l.flatMap LvlV.rows), y ∈ M) (hbr : w.heap.size ≤ br) (hw0 : w0.heap.size ≤ w.heap.size)
    (hMlt : ∀ y ∈ M, y < w.heap.size) (hM0 : ∀ y, vo.ownBlock = some y → y ∈ M ∧ w0.heap.size ≤ y ∧ y ∉ bp :: ([g] ++ l.flatMap LvlV.rows)) (hcw : Chg [bp] w w2) (hbM : bp ∈ M) (hc8 : Chg (rowOf vo) w2 w8) (hcW : Chg [br] w8 W) (hq : PartR (mask w8 (br :: bt :: (X ++ M))) q v) :
    PI toks ta tn tc w0 W bp k (.slice (some ⟨g, 0, none⟩) l.length cap) li l (bp :: ([g] ++ l.flatMap LvlV.rows)) (X ++ (bp :: ([g] ++ l.flatMap LvlV.rows))) ∧ PartR (mask W (X ++ (bp :: ([g] ++ l.flatMap LvlV.rows)))) q v ∧ Chg M w W := by
  have hcc : Chg (br :: rowOf vo) w2 W := (hc8.mono (fun y hy => List.mem_cons_of_mem _ hy)).then (hcW.mono (by simp))
  have hNK : ∀ y ∈ br :: rowOf vo, y ∈ br :: bt :: (X ++ M) := fun y hy => by
    rcases List.mem_cons.1 hy with rfl | hy
    · simp
    · exact List.mem_cons_of_mem _ (List.mem_cons_of_mem _ (List.mem_append_right _ (hM0 y (mem_rowOf.1 hy)).1))
  have hXK : ∀ y, y ∈ X ++ (bp :: ([g] ++ l.flatMap LvlV.rows)) → y ∈ br :: bt :: (X ++ M) := fun y hy => by
    rcases List.mem_append.1 hy with hy | hy
    · exact List.mem_cons_of_mem _ (List.mem_cons_of_mem _ (List.mem_append_left _ hy))
    · exact h3.hK y hy
  refine ⟨h3.chg hcc (fun y hy h => ?_) (fun y hy => ?_) (mask_sub_mask fun y hy hn => ⟨fun h => hn (hXK y h), hcc.block y hy (fun h => hn (hNK y h))⟩) (fun y hy => List.mem_append_right _ hy) (fun y hy => ?_), hq.mono (mask_sub_mask fun y hy hn => ⟨fun h => hn (hXK y h), hcW.block y hy (fun h => hn (by simp at h; subst h; simp))⟩), ?_⟩
  · rcases List.mem_cons.1 h with rfl | h
    · have := hMlt y (hM' y hy); omega
    · exact (hM0 y (mem_rowOf.1 h)).2.2 hy
  · rcases List.mem_cons.1 hy with rfl | hy
    · omega
    · exact (hM0 y (mem_rowOf.1 hy)).2.1
  · have := h3.hKlt y (hXK y hy)
    have := hcc.size
    omega
  · have h1 : Chg M w w2 := hcw.mono (by simpa using hbM)
    refine h1.trans hcc (fun y hy => ?_)
    rcases List.mem_cons.1 hy with rfl | hy
    · exact Or.inr hbr
    · exact Or.inl (hM0 y (mem_rowOf.1 hy)).1

set_option maxRecDepth 100000 in
set_option maxHeartbeats 4000000 in
theorem closed_calls {toks : List Tok} {ta : Option Addr} {tn tc : Nat} {w0 w : World} {bp k : Nat} {vl : Value} {li : List Lvl} {t : Lvl} {l : List LvlV} {x : LvlV} {M X : List Nat} (h : PI toks ta tn tc w0 w bp k vl (li ++ [t]) (l ++ [x]) M (X ++ M)) (hll : li.length = l.length) :
    Calls Tryz.prog 42 #[.pointer (some ⟨bp, 0, none⟩)] w (ClosedQ (joinedF 8 (t.ors ++ [joinedF 7 t.ands])) toks ta tn tc w0 w bp k li l M X) := by
  have HI := Lib.hid h
  have hsm := h.small
  have hkt := h.pc.hk
  obtain ⟨g, cap, rfl, hgM, hgb, hg0, hgw, -, -, -, -, hl6⟩ := h.at
  have hbw := h.pc.cells.2.2.2.2
  have HB := Lib.hid (show ∀ o, Ext w (w.alloc o) from fun o => (Ext.refl w).alloc o)
  clear h
  go_enter Tryz.func42, Tryz.ntmps42
  go_wp2_with fail
  refine (top_calls' g l.length cap bp _ ((HI.out.ext (HB.out _)).pc.cells.2.2.1) hl6).mono ?_
  rintro r w1 ⟨rfl, hx1⟩
  have hE1 := Lib.hid ((HB.out _).trans hx1)
  have hR1 := Lib.hid (hx1.blk (alloc_new w _))
  have hI1 := Lib.hid (HI.out.ext hE1.out)
  clear hx1
  obtain ⟨g', cap', e1, -, -, -, hgw1, c0, c1, c2, cf, -⟩ := hI1.out.at
  simp only [Value.slice.injEq, Option.some.injEq, Addr.mk.injEq, and_true, true_and] at e1
  obtain ⟨rfl, rfl⟩ := e1
  obtain ⟨aa, ca, vas, eva, hra, hpa⟩ := ownParts_rows (hI1.out.lastR hll).2.1
  obtain ⟨oa, oc, ovs, evo, -, -⟩ := ownParts_rows (hI1.out.lastR hll).2.2
  rw [eva] at c1
  rw [evo] at c2
  obtain ⟨f0, f1, f2, ff, hbw1⟩ := hI1.out.pc.cells
  have hcap : l.length + 1 ≤ cap := by
    rcases hI1.out.own.2 with ⟨h', _⟩ | ⟨g2, cap2, cur, h', _, _, hle, _⟩
    · simp at h'
    · simp only [Value.slice.injEq] at h'
      rw [← h'.2.2] at hle
      simpa using hle
  have s1 : (0 : Int) ≤ ((l.length + 1 : Nat) : Int) - 1 := by omega
  have s2 : ((l.length + 1 : Nat) : Int) - 1 ≤ (cap : Int) := by omega
  have s3 : (((l.length + 1 : Nat) : Int) - 1).toNat = l.length := by omega
  have hz1 := blk_lt hR1.out
  go_wp2_with fail
  go_region
  go_wp2_with fail
  clear s1 s2 s3 f0 f1 f2 ff c0 c1 c2 cf hra hpa
  have hMlt : ∀ y ∈ M, y < w.heap.size := fun y hy => HI.out.hKlt y (HI.out.hK y hy)
  have hXlt : ∀ y ∈ X ++ M, y < w.heap.size := HI.out.hKlt
  have hs1 := hE1.out.size
  have hI1' := Lib.hid (show PI toks ta tn tc w0 w1 bp k _ (li ++ [t]) (l ++ [x]) M (w.heap.size :: (X ++ M)) from HI.out.chg (hE1.out.chg []) (by simp) (by simp) (mask_sub_mask fun y hy hn => ⟨by rw [List.mem_cons, not_or]; exact ⟨by omega, hn⟩, hE1.out.block y hy⟩) (fun y hy => List.mem_cons_of_mem _ (HI.out.hK y hy)) (fun y hy => by
    rcases List.mem_cons.1 hy with rfl | hy
    · exact hz1
    · have := hXlt y hy; omega))
  have hI2 := Lib.hid (hI1'.out.pop hll)
  have hC2 := Lib.hid (show Chg [bp] w1 (((w1.setCell ⟨bp, 2, none⟩ (.slice (some ⟨g, 0, none⟩) l.length cap)).alloc (.cells #[.int .i64 x.nots, .slice aa t.ands.length ca, .slice oa t.ors.length oc] 51)).drew) from (((Chg.refl [bp] w1).setCell (Or.inl (by simp)) _).alloc _).drew)
  have hT2 := Lib.hid (show (((w1.setCell ⟨bp, 2, none⟩ (.slice (some ⟨g, 0, none⟩) l.length cap)).alloc (.cells #[.int .i64 x.nots, .slice aa t.ands.length ca, .slice oa t.ors.length oc] 51)).drew).heap[w1.heap.size]? = some (.cells #[.int .i64 x.nots, .slice aa t.ands.length ca, .slice oa t.ors.length oc] 51 (0, 0)) by
    have := alloc_new (w1.setCell ⟨bp, 2, none⟩ (.slice (some ⟨g, 0, none⟩) l.length cap)) (.cells #[.int .i64 x.nots, .slice aa t.ands.length ca, .slice oa t.ors.length oc] 51)
    rw [World.size_setCell] at this
    exact this)
  have hI3 := Lib.hid (hI2.out.chg (K' := w.heap.size :: w1.heap.size :: (X ++ M)) (((((Ext.refl _).alloc (.cells #[.int .i64 x.nots, .slice aa t.ands.length ca, .slice oa t.ors.length oc] 51)).drew)).chg []) (by simp) (by simp) (mask_sub_mask fun y hy hn => ⟨by
      simp only [List.mem_cons, not_or] at hn ⊢
      simp at hy
      exact ⟨hn.1, by omega, hn.2⟩, Below.heap_alloc _ _ _ hy⟩) (fun y hy => by
      have := hI2.out.hK y hy
      simp only [List.mem_cons] at this ⊢
      rcases this with h' | h'
      · exact Or.inl h'
      · exact Or.inr (Or.inr h')) (fun y hy => by
      have h2 : ∀ (A : World) (o : Obj), ((A.alloc o).drew).heap.size = A.heap.size + 1 := fun A o => by simp
      rw [h2, World.size_setCell]
      simp only [List.mem_cons] at hy
      rcases hy with rfl | rfl | hy
      · omega
      · omega
      · have := hXlt y hy; omega))
  clear hI2
  generalize (((w1.setCell ⟨bp, 2, none⟩ (.slice (some ⟨g, 0, none⟩) l.length cap)).alloc (.cells #[.int .i64 x.nots, .slice aa t.ands.length ca, .slice oa t.ors.length oc] 51)).drew) = w2 at *
  -- the state behind the second region
  have hbM : bp ∈ M := by rw [HI.out.hM]; simp
  have hrn := HI.out.rowsNot
  have hz2 := blk_lt hT2.out
  have hCw2 := Lib.hid ((hE1.out.chg [bp]).then hC2.out)
  have hS2 := Lib.hid (show Sub (mask w (X ++ M)) (mask w2 (w.heap.size :: w1.heap.size :: (X ++ M))) from mask_sub_mask fun y hy hn => ⟨by rw [List.mem_cons, List.mem_cons, not_or, not_or]; exact ⟨by omega, by omega, hn⟩, hCw2.out.block y hy (by simp; intro e; subst e; exact hn (List.mem_append_right _ hbM))⟩)
  have d1 := Lib.hid ((HI.out.lastR hll).2.1.chg hCw2.out (fun y hy h' => by simp at h'; subst h'; exact (hrn y (List.mem_append_left _ (mem_rowOf.2 hy))).2.1 rfl) hS2.out)
  have d2 := Lib.hid ((HI.out.lastR hll).2.2.chg hCw2.out (fun y hy h' => by simp at h'; subst h'; exact (hrn y (List.mem_append_right _ (mem_rowOf.2 hy))).2.1 rfl) hS2.out)
  have hR2 := Lib.hid (hC2.out.blk hR1.out (by simp; omega))
  obtain ⟨aa', ca', vas, eva', hra, hpa⟩ := ownParts_rows d1.out
  obtain ⟨rfl, rfl⟩ : aa = aa' ∧ ca = ca' := by
    rw [eva] at eva'
    simp only [Value.slice.injEq, true_and] at eva'
    exact eva'
  obtain ⟨vos, hov, hpo⟩ := d2.out
  have HEVO := Lib.hid evo
  rw [evo] at hov
  have hpot := HI.out.pot
  rw [potAll_snoc] at hpot
  unfold Lvl.pot at hpot
  rw [sumPot_eq, sumPot_eq] at hpot
  have hb1 : sumSize t.ands ≤ 2 * k := by omega
  have hb2 : sumSize t.ors ≤ 2 * k := by omega
  have hb3 : t.ands.length ≤ 2 * k := by omega
  have hb4 : t.ors.length ≤ 2 * k := by omega
  have htd := HI.out.tidy t (by simp)
  have hq7 := joinedF_size 7 t.ands
  have HJ1 := Lib.hid (fun (W : World) (hx : Ext w2 W) => joined_calls 7 t.ands vas aa t.ands.length ca (w.heap.size :: w1.heap.size :: (X ++ M)) W (hra.ext hx) (hpa.mono (mask_ext _ hx)) (fun y hy => Nat.lt_of_lt_of_le (hI3.out.hKlt y hy) hx.size) htd.1 (by omega) (by omega))
  have HOV := Lib.hid hov
  have HPO := Lib.hid hpo
  have HQT := Lib.hid (joinedF_tidy 7 _ htd.1)
  have HVK := Lib.hid (show ∀ y, x.vo.ownBlock = some y → y ∈ M from fun y hy => (hrn y (List.mem_append_right _ (mem_rowOf.2 hy))).2.2)
  have HJ2 := Lib.hid (fun (w4 w6 : World) (vq : PartV) (o : Obj) (g6 cap6 : Nat) (hx4 : Ext w2 w4) (hq : PartR (mask w4 (w.heap.size :: w1.heap.size :: (X ++ M))) (joinedF 7 t.ands) vq) (ho6 : w6.ownsRow w0.heap.size 56 8 (.slice (some ⟨g6, 0, none⟩) (t.ors.length + 1) cap6) (t.ors.length + 1) (vos.flatMap PartV.cells ++ vq.cells)) (hg6 : (w4.alloc o).grownBy w6 (Value.slice oa t.ors.length oc).ownBlock) =>
    closed_join hpo hx4 hq ho6 hg6 (fun y hy => List.mem_cons_of_mem _ (List.mem_cons_of_mem _ (List.mem_append_right _ (HVK.out y (by rw [HEVO.out]; exact hy))))) hI3.out.hKlt htd.2 (joinedF_tidy 7 _ htd.1) (by omega) (by omega))
  obtain ⟨t0, t1, t2, tf⟩ := blk3 hT2.out
  have hsz2 := hI3.out.pc.hx.size
  have hne : ∀ y, (Value.slice oa t.ors.length oc).ownBlock = some y → y < w.heap.size := fun y hy => hMlt y (HVK.out y (by rw [HEVO.out]; exact hy))
  have HNE := Lib.hid hne
  have HTD := Lib.hid htd
  have HRN := Lib.hid hrn
  have HML := Lib.hid hMlt
  have HM1 := Lib.hid (show ∀ y ∈ bp :: ([g] ++ l.flatMap LvlV.rows), y ∈ M from fun y hy => by
    rw [HI.out.hM, rows_snoc]
    rcases List.mem_cons.1 hy with rfl | hy
    · simp
    · rcases List.mem_append.1 hy with hy | hy
      · simp at hy; subst hy; simp [rowOf, Value.ownBlock]
      · exact List.mem_cons_of_mem _ (List.mem_append_right _ (List.mem_append_left _ hy)))
  have HW0 := Lib.hid HI.out.pc.hx.size
  have HM0 := Lib.hid (show ∀ y, x.vo.ownBlock = some y → y ∈ M ∧ w0.heap.size ≤ y ∧ y ∉ bp :: ([g] ++ l.flatMap LvlV.rows) from fun y hy => by
    obtain ⟨_, ho1, _⟩ := (HI.out.lastR hll).2.2
    refine ⟨HVK.out y hy, (ho1.lt y hy).1, fun h => ?_⟩
    have hnd := HI.out.nd
    rw [HI.out.hM, rows_snoc, show bp :: (rowOf (.slice (some ⟨g, 0, none⟩) (l.length + 1) cap) ++ (l.flatMap LvlV.rows ++ x.rows)) = (bp :: ([g] ++ l.flatMap LvlV.rows)) ++ x.rows by simp [rowOf, Value.ownBlock], List.nodup_append] at hnd
    exact hnd.2.2 y h y (List.mem_append_right _ (mem_rowOf.2 hy)) rfl)
  clear hra hpa hov hpo hpot htd hne hrn hMlt eva evo eva' d1 d2 hq7
  go_region_law (first
    | (refine step_append1 info_part rfl _ _ rfl w0.heap.size _ t.ors.length _ rfl _ 1 1 vq.cells rfl rfl (by simp [PartV.cells, Value.oneCell']) (by omega) (by omega) (by omega) (w4.heap.size + 1) (owns_ext HOV.out (hEx4.alloc _)) (by intro j hj; rw [World.cell?_alloc_at _ _ _ _ rfl]; simp [PartV.cells]) (by simp; omega) (by simp) ?_; intro g6 cap6 w6 ho6 hg6 hl6' hlt6)
    | (go_simp; go_at_call 81; ((with_reducible refine (HJ1.out _ (Ext.drew (Ext.refl w2))).mono ?_); rintro r w4 ⟨vq, rfl, hvq, hx4⟩); have hEx4 : Ext w2 w4 := (Ext.drew (Ext.refl w2)).trans hx4; have u2 : w4.cell? ⟨w1.heap.size, 2, none⟩ = some (.slice oa t.ors.length oc) := hEx4.cell t2; have hz4 := hEx4.size; have hg4 : w1.heap.size < w4.heap.size := (by omega); unfold PartV.val)
    | (go_simp; go_at_call 81; ((with_reducible refine (HJ2.out w4 w6 vq _ g6 cap6 hEx4 hvq ho6 hg6).mono ?_); rintro r w8 ⟨v8, rfl, hv8, hx8⟩); have hc8 : Chg (rowOf (Value.slice oa t.ors.length oc)) w2 w8 := (((hEx4.chg (rowOf (Value.slice oa t.ors.length oc))).alloc _).grown hg6 (fun y hy => Or.inl (mem_rowOf.2 hy))).then (hx8.chg _); obtain ⟨p0, p1, p2, p3, p4, p5, p6, p7, pf⟩ := blk8 (hc8.blk hR2.out (fun h => Nat.lt_irrefl _ (HNE.out _ (mem_rowOf.1 h)))); unfold PartV.val))
  all_goals
    have HC8 := Lib.hid hc8
    have HV8 := Lib.hid hv8
    clear hc8 hv8
    go_wp2_with fail
    rw [← HEVO.out] at HC8
    refine bodyPost_ret (v := v8.val) (by simp [results, Tryz.results42, go_sem, PartV.val, p0, p1, p2, p3, p4, p5, p6, p7]) rfl ⟨v8, .slice (some ⟨g, 0, none⟩) l.length cap, bp :: ([g] ++ l.flatMap LvlV.rows), rfl, ?_⟩
    have key := fun (W : World) (hcW : Chg [w.heap.size] w8 W) => closed_fin hI3.out HM1.out (Nat.le_refl _) HW0.out HML.out HM0.out hCw2.out hbM HC8.out hcW HV8.out
    refine (fun h => ⟨h.1, h.2.1, h.2.2, HM1.out⟩) (key _ ?_)
    repeat (with_reducible (refine Chg.setCell ?_ ?_ _))
    exact Chg.refl _ _
    all_goals (refine Or.inl ?_; simp)
end Go.Proofs.YtaepiiediblleaaGreatDoor

namespace Go.Proofs.YtaepiiediblleaaGreatDoor
open Go.RowKit

def withPart (t : Lvl) (p : Part) : Lvl := ⟨0, t.ands ++ [itF t.nots p], t.ors⟩
def wholeF (t : Lvl) : Part := joinedF 8 (t.ors ++ [joinedF 7 t.ands])

/-- The parser's run: outer (true): before an operand; inner (false): behind one. -/
def runF (toks : List Tok) (tn : Nat) : Nat → Bool → Nat → List Lvl → Lvl → Part × Int × Nat
  | 0, _, k, _, _ => (⟨ex0, 0, 0⟩, 5, k)
  | f + 1, true, k, li, t =>
    let a := prefixF toks (tn - k + 1) k li t
    let o := operandF toks a.1
    if o.2.1 ≠ 0 then (⟨ex0, 0, 0⟩, o.2.1, o.2.2) else runF toks tn f false o.2.2 a.2.1 (withPart a.2.2 o.1)
  | f + 1, false, k, li, t =>
    if acceptB toks k 1 wAnd = true then runF toks tn f true (k + 1) li t else
    if acceptB toks k 1 wOr = true then runF toks tn f true (k + 1) li ⟨t.nots, [], t.ors ++ [joinedF 7 t.ands]⟩ else
    match li.getLast? with
    | none => (wholeF t, 0, k)
    | some t' => if acceptB toks k 4 ⟨#[41]⟩ = true then runF toks tn f false (k + 1) li.dropLast (withPart t' (wholeF t)) else (⟨ex0, 0, 0⟩, 5, k)

theorem listLoop_ge (toks : List Tok) : ∀ (f k : Nat) (acc : List ByteArray), k ≤ (listLoop toks f k acc).2.2
  | 0, k, acc => by simp [listLoop]
  | f + 1, k, acc => by
    have := listLoop_ge toks f (k + 2) (acc ++ [textAt toks k])
    rw [listLoop]
    (repeat' split) <;> simp <;> omega
theorem listF_ge (toks : List Tok) (k : Nat) : k ≤ (listF toks k).2.2 := by
  have := listLoop_ge toks 14 (k + 1) []
  rw [listF]
  split <;> simp <;> omega
theorem boundF_ge (toks : List Tok) (k : Nat) (n : Int) : k ≤ (boundF toks k n).2.2 := by
  unfold boundF
  (repeat' split) <;> simp
theorem intervalF_ge (toks : List Tok) (k : Nat) : k ≤ (intervalF toks k).2.2.2 := by
  have h1 := boundF_ge toks k (-1000000000)
  have h2 := boundF_ge toks ((boundF toks k (-1000000000)).2.2 + 1) (boundF toks k (-1000000000)).1
  unfold intervalF
  simp only
  (repeat' split) <;> simp only <;> omega
theorem operandF_ok (toks : List Tok) (k : Nat) (h : (operandF toks k).2.1 = 0) : (operandF toks k).1.size = 1 ∧ (operandF toks k).1.depth = 1 ∧ k + 1 ≤ (operandF toks k).2.2 := by
  have h1 := listF_ge toks (k + 2)
  have h2 := intervalF_ge toks (k + 2)
  revert h
  unfold operandF
  (repeat' split) <;> simp <;> omega
theorem prefixF_ge (toks : List Tok) : ∀ (f k : Nat) (li : List Lvl) (t : Lvl), k ≤ (prefixF toks f k li t).1
  | 0, k, li, t => by simp [prefixF]
  | f + 1, k, li, t => by
    have h1 := prefixF_ge toks f (k + 1) li ⟨t.nots + 1, t.ands, t.ors⟩
    have h2 := prefixF_ge toks f (k + 1) (li ++ [t]) lvl0
    rw [prefixF]
    (repeat' split) <;> simp <;> omega
theorem wholeF_size (t : Lvl) : (wholeF t).size ≤ 2 + sumSize t.ors + sumSize t.ands := by
  have h1 := joinedF_size 8 (t.ors ++ [joinedF 7 t.ands])
  have h2 := joinedF_size 7 t.ands
  rw [sumSize_append] at h1
  simp only [sumSize] at h1
  unfold wholeF
  omega
theorem wholeF_tidy (t : Lvl) (h : Tidy t.ands ∧ Tidy t.ors) : (wholeF t).depth ≤ (wholeF t).size := joinedF_tidy 8 _ (tidy_snoc h.2 (joinedF_tidy 7 _ h.1))

/-- From state to state. -/
def Moves (toks : List Tok) (ta : Option Addr) (tn tc : Nat) (w0 w : World) (bp k : Nat) (li : List Lvl) (t : Lvl) (M X : List Nat) (w' : World) : Prop :=
  ∃ M', PS toks ta tn tc w0 w' bp k li t M' X ∧ Chg M w w' ∧ ∀ y ∈ M', y ∈ M ∨ w.heap.size ≤ y

theorem add_ps {toks : List Tok} {ta : Option Addr} {tn tc : Nat} {w0 w : World} {bp k : Nat} {li : List Lvl} {t : Lvl} {M X : List Nat} (h : PS toks ta tn tc w0 w bp k li t M X) (p : Part) (v : PartV) (hp : PartR (mask w (X ++ M)) p v) (hpt : p.depth ≤ p.size) (hpot : potAll (li ++ [t]) + p.size + 1 ≤ 2 * k) :
    Calls Tryz.prog 40 #[.pointer (some ⟨bp, 0, none⟩), v.val] w (fun e w' => e = .returned (.tuple #[]) ∧ Moves toks ta tn tc w0 w bp k li (withPart t p) M X w') := by
  obtain ⟨vl, l, x, hI, hll⟩ := h
  refine (add_calls hI hll p v hp hpt hpot).mono ?_
  rintro e w' ⟨he, x', M', h1, h2, h3⟩
  exact ⟨he, M', ⟨vl, l, x', h1, hll⟩, h2, h3⟩

/-- What another does, and where the run goes on. -/
theorem another_ps {toks : List Tok} {ta : Option Addr} {tn tc : Nat} {w0 w : World} {bp k : Nat} {li : List Lvl} {t : Lvl} {M X : List Nat} (h : PS toks ta tn tc w0 w bp k li t M X) (ho : HasOps w0) (hne : t.ands ≠ []) :
    Calls Tryz.prog 41 #[.pointer (some ⟨bp, 0, none⟩)] w (fun e w' => e = .returned (.bool (acceptB toks k 1 wAnd || acceptB toks k 1 wOr)) ∧
      Moves toks ta tn tc w0 w bp (if acceptB toks k 1 wAnd || acceptB toks k 1 wOr then k + 1 else k) li (if acceptB toks k 1 wAnd then t else if acceptB toks k 1 wOr then ⟨t.nots, [], t.ors ++ [joinedF 7 t.ands]⟩ else t) M X w') := by
  obtain ⟨vl, l, x, hI, hll⟩ := h
  cases h1 : acceptB toks k 1 wAnd
  · cases h2 : acceptB toks k 1 wOr
    · refine (another_none hI ho h1 h2).mono ?_
      rintro e w' ⟨he, x', M', g1, g2, g3⟩
      exact ⟨he, M', ⟨vl, l, x', g1, hll⟩, g2, g3⟩
    · refine (another_or hI hll ho h1 h2 hne).mono ?_
      rintro e w' ⟨he, x', M', g1, g2, g3⟩
      exact ⟨he, M', ⟨vl, l, x', g1, hll⟩, g2, g3⟩
  · refine (another_and hI ho h1).mono ?_
    rintro e w' ⟨he, x', M', g1, g2, g3⟩
    exact ⟨he, M', ⟨vl, l, x', g1, hll⟩, g2, g3⟩
theorem operandF_ge0 (toks : List Tok) (k : Nat) : k ≤ (operandF toks k).2.2 := by
  have h1 := listF_ge toks (k + 2)
  have h2 := intervalF_ge toks (k + 2)
  unfold operandF
  (repeat' split) <;> simp <;> omega
end Go.Proofs.YtaepiiediblleaaGreatDoor

namespace Go.Proofs.YtaepiiediblleaaGreatDoor

mutual
def Ex.depth : Ex → Nat
  | .mk _ _ _ _ _ args => depths args + 1
def depths : List Ex → Nat
  | [] => 0
  | e :: r => max e.depth (depths r)
end
theorem Ex.depth_eq (e : Ex) : e.depth = depths e.args + 1 := by cases e; simp [Ex.depth, Ex.args]
theorem Ex.size_eq (e : Ex) : e.size = 1 + sizes e.args := by cases e; simp [Ex.size, Ex.args]
mutual
theorem Ex.depth_le : (e : Ex) → e.depth ≤ e.size
  | .mk _ _ _ _ _ args => by have := depths_le args; simp [Ex.depth, Ex.size]; omega
theorem depths_le : (l : List Ex) → depths l ≤ sizes l
  | [] => by simp [depths]
  | e :: r => by have := Ex.depth_le e; have := depths_le r; simp [depths, sizes]; omega
end
theorem depths_append (l m : List Ex) : depths (l ++ m) = max (depths l) (depths m) := by
  induction l with
  | nil => simp [depths]
  | cons e r ih => simp only [List.cons_append, depths, ih]; omega
theorem depths_take_succ (l : List Ex) (k : Nat) (hk : k < l.length) : depths (l.take (k + 1)) = max (depths (l.take k)) l[k].depth := by
  rw [List.take_succ_eq_append_getElem hk, depths_append]; simp [depths]
theorem depths_mem {l : List Ex} {e : Ex} (h : e ∈ l) : e.depth ≤ depths l := by
  induction l with
  | nil => simp at h
  | cons a r ih =>
    rcases List.mem_cons.1 h with rfl | h
    · simp only [depths]; omega
    · have := ih h; simp only [depths]; omega
theorem sizes_mem {l : List Ex} {e : Ex} (h : e ∈ l) : e.size ≤ sizes l := by
  induction l with
  | nil => simp at h
  | cons a r ih =>
    rcases List.mem_cons.1 h with rfl | h
    · simp [sizes]
    · have := ih h; simp [sizes]; omega

/-- An expression as a part: beyond the limits only its size and its depth. -/
def partOf (e : Ex) : Part := if 300 < e.size ∨ 16 < e.depth then ⟨ex0, e.size, e.depth⟩ else ⟨e, e.size, e.depth⟩
theorem partOf_size (e : Ex) : (partOf e).size = e.size := by unfold partOf; split <;> rfl
theorem partOf_depth (e : Ex) : (partOf e).depth = e.depth := by unfold partOf; split <;> rfl
theorem partOf_ex {e : Ex} (h1 : e.size ≤ 300) (h2 : e.depth ≤ 16) : (partOf e).ex = e := by unfold partOf; rw [if_neg (by omega)]
theorem sumSize_partOf (l : List Ex) : sumSize (l.map partOf) = sizes l := by
  induction l with
  | nil => simp [sumSize, sizes]
  | cons a r ih => simp [sumSize, sizes, ih, partOf_size]
theorem maxDepth_foldl (l : List Ex) : ∀ d, (l.map partOf).foldl (fun d p => max d p.depth) d = max d (depths l) := by
  induction l with
  | nil => intro d; simp [depths]
  | cons a r ih => intro d; simp only [List.map_cons, List.foldl_cons, depths, ih, partOf_depth]; omega
theorem maxDepth_partOf (l : List Ex) : maxDepth (l.map partOf) = depths l := by unfold maxDepth; rw [maxDepth_foldl]; omega
theorem map_partOf_ex {l : List Ex} (h1 : sizes l ≤ 300) (h2 : depths l ≤ 16) : (l.map partOf).map (·.ex) = l := by
  rw [List.map_map]
  have : ∀ e ∈ l, ((·.ex) ∘ partOf) e = id e := fun e he => by
    have h3 := sizes_mem he
    have h4 := depths_mem he
    exact partOf_ex (by omega) (by omega)
  rw [List.map_congr_left this]
  simp
theorem composedF_partOf (op : Int) (l : List Ex) : composedF op (l.map partOf) = partOf (.mk op ⟨#[]⟩ [] 0 0 l) := by
  have e1 : partOf (.mk op ⟨#[]⟩ [] 0 0 l) = if 300 < 1 + sizes l ∨ 16 < depths l + 1 then ⟨ex0, 1 + sizes l, depths l + 1⟩ else ⟨.mk op ⟨#[]⟩ [] 0 0 l, 1 + sizes l, depths l + 1⟩ := by
    by_cases h : 300 < 1 + sizes l ∨ 16 < depths l + 1
    · rw [partOf, if_pos (by simpa only [Ex.size, Ex.depth] using h), if_pos h]; simp only [Ex.size, Ex.depth]
    · rw [partOf, if_neg (by simpa only [Ex.size, Ex.depth] using h), if_neg h]; simp only [Ex.size, Ex.depth]
  rw [e1, composedF, sumSize_partOf, maxDepth_partOf]
  by_cases h : 300 < 1 + sizes l ∨ 16 < depths l + 1
  · rw [if_pos h, if_pos h]
  · rw [if_neg h, if_neg h, map_partOf_ex (by omega) (by omega)]
/-- The operator with all arguments, or the only one. -/
def joinE (op : Int) (l : List Ex) : Ex := match l with | [e] => e | l => .mk op ⟨#[]⟩ [] 0 0 l
theorem joinedF_partOf (op : Int) (l : List Ex) : joinedF op (l.map partOf) = partOf (joinE op l) := by
  match l with
  | [] => exact composedF_partOf op []
  | [e] => rfl
  | a :: b :: r => exact composedF_partOf op (a :: b :: r)
theorem itF_swap (n : Nat) (p : Part) : itF n (composedF 6 [p]) = itF (n + 1) p := by
  induction n with
  | zero => rfl
  | succ n ih => rw [itF, ih]; rfl

/-- What is read: atom, with negations, with and, with or. -/
inductive Lev where
  | atom | neg | ands | ors

def operandE (toks : List Tok) (k : Nat) : Ex × Int × Nat := ((operandF toks k).1.ex, (operandF toks k).2.1, (operandF toks k).2.2)

/-- The grammar: from the k-th token on, after the arguments acc, these are read: an expression, 0 and the index behind it, or an error and its index. -/
inductive Gr (toks : List Tok) : Lev → Nat → List Ex → Ex → Int → Nat → Prop
  | parenOk {k e k1} : acceptB toks k 4 ⟨#[40]⟩ = true → Gr toks .ors (k + 1) [] e 0 k1 → acceptB toks k1 4 ⟨#[41]⟩ = true → Gr toks .atom k [] e 0 (k1 + 1)
  | parenErr {k e er k1} : acceptB toks k 4 ⟨#[40]⟩ = true → Gr toks .ors (k + 1) [] e er k1 → er ≠ 0 → Gr toks .atom k [] ex0 er k1
  | parenNo {k e k1} : acceptB toks k 4 ⟨#[40]⟩ = true → Gr toks .ors (k + 1) [] e 0 k1 → acceptB toks k1 4 ⟨#[41]⟩ = false → Gr toks .atom k [] ex0 5 k1
  | operand {k} : acceptB toks k 4 ⟨#[40]⟩ = false → Gr toks .atom k [] (operandF toks k).1.ex (operandF toks k).2.1 (operandF toks k).2.2
  | notOk {k e k1} : acceptB toks k 1 wNot = true → Gr toks .neg (k + 1) [] e 0 k1 → Gr toks .neg k [] (.mk 6 ⟨#[]⟩ [] 0 0 [e]) 0 k1
  | notErr {k e er k1} : acceptB toks k 1 wNot = true → Gr toks .neg (k + 1) [] e er k1 → er ≠ 0 → Gr toks .neg k [] ex0 er k1
  | negAtom {k e er k1} : acceptB toks k 1 wNot = false → Gr toks .atom k [] e er k1 → Gr toks .neg k [] e er k1
  | andStep {k acc e k1 e2 er k2} : Gr toks .neg k [] e 0 k1 → acceptB toks k1 1 wAnd = true → Gr toks .ands (k1 + 1) (acc ++ [e]) e2 er k2 → Gr toks .ands k acc e2 er k2
  | andStop {k acc e k1} : Gr toks .neg k [] e 0 k1 → acceptB toks k1 1 wAnd = false → Gr toks .ands k acc (joinE 7 (acc ++ [e])) 0 k1
  | andErr {k acc e er k1} : Gr toks .neg k [] e er k1 → er ≠ 0 → Gr toks .ands k acc ex0 er k1
  | orStep {k acc e k1 e2 er k2} : Gr toks .ands k [] e 0 k1 → acceptB toks k1 1 wOr = true → Gr toks .ors (k1 + 1) (acc ++ [e]) e2 er k2 → Gr toks .ors k acc e2 er k2
  | orStop {k acc e k1} : Gr toks .ands k [] e 0 k1 → acceptB toks k1 1 wOr = false → Gr toks .ors k acc (joinE 8 (acc ++ [e])) 0 k1
  | orErr {k acc e er k1} : Gr toks .ands k [] e er k1 → er ≠ 0 → Gr toks .ors k acc ex0 er k1

def bd (tn : Nat) (m : Bool) (k : Nat) : Nat := if m then 2 * (tn - k) + 2 else 2 * (tn - k) + 1

theorem acceptB_lt {toks : List Tok} {k : Nat} {kind : Int} {text : ByteArray} (h : acceptB toks k kind text = true) : k < toks.length := by
  by_cases hlt : k < toks.length
  · exact hlt
  · rw [acceptB, List.getElem?_eq_none (by omega)] at h; cases h

theorem runF_fuel (toks : List Tok) : ∀ (f g : Nat) (m : Bool) (k : Nat) (li : List Lvl) (t : Lvl), bd toks.length m k ≤ f → bd toks.length m k ≤ g → runF toks toks.length f m k li t = runF toks toks.length g m k li t := by
  intro f
  induction f with
  | zero => intro g m k li t h; unfold bd at h; split at h <;> omega
  | succ f ih =>
    intro g m k li t hf hg
    obtain ⟨g, rfl⟩ : ∃ g', g = g' + 1 := ⟨g - 1, by unfold bd at hg; split at hg <;> omega⟩
    cases m with
    | true =>
      simp only [bd, if_true] at hf hg
      simp only [runF]
      split
      · rfl
      · have h1 := prefixF_ge toks (toks.length - k + 1) k li t
        have h2 := operandF_ge0 toks (prefixF toks (toks.length - k + 1) k li t).1
        refine ih g false _ _ _ ?_ ?_ <;> (simp only [bd, Bool.false_eq_true, if_false]; omega)
    | false =>
      simp only [bd, Bool.false_eq_true, if_false] at hf hg
      simp only [runF]
      split
      · rename_i h
        have := acceptB_lt h
        refine ih g true _ _ _ ?_ ?_ <;> (simp only [bd, if_true]; omega)
      · split
        · rename_i h
          have := acceptB_lt h
          refine ih g true _ _ _ ?_ ?_ <;> (simp only [bd, if_true]; omega)
        · split
          · rfl
          · split
            · rename_i h
              have := acceptB_lt h
              refine ih g false _ _ _ ?_ ?_ <;> (simp only [bd, Bool.false_eq_true, if_false]; omega)
            · rfl

/-- The run with enough steps. -/
def run (toks : List Tok) (m : Bool) (k : Nat) (li : List Lvl) (t : Lvl) : Part × Int × Nat := runF toks toks.length (bd toks.length m k) m k li t
theorem runF_run (toks : List Tok) {f : Nat} {m : Bool} {k : Nat} {li : List Lvl} {t : Lvl} (h : bd toks.length m k ≤ f) : runF toks toks.length f m k li t = run toks m k li t := runF_fuel toks _ _ _ _ _ _ h (Nat.le_refl _)

theorem runF_true (toks : List Tok) (tn f k : Nat) (li : List Lvl) (t : Lvl) : runF toks tn (f + 1) true k li t =
    if (operandF toks (prefixF toks (tn - k + 1) k li t).1).2.1 ≠ 0 then (⟨ex0, 0, 0⟩, (operandF toks (prefixF toks (tn - k + 1) k li t).1).2.1, (operandF toks (prefixF toks (tn - k + 1) k li t).1).2.2) else
    runF toks tn f false (operandF toks (prefixF toks (tn - k + 1) k li t).1).2.2 (prefixF toks (tn - k + 1) k li t).2.1 (withPart (prefixF toks (tn - k + 1) k li t).2.2 (operandF toks (prefixF toks (tn - k + 1) k li t).1).1) := by rw [runF]
/-- The run behind the prefix. -/
def runA (toks : List Tok) (a : Nat × List Lvl × Lvl) : Part × Int × Nat :=
  if (operandF toks a.1).2.1 ≠ 0 then (⟨ex0, 0, 0⟩, (operandF toks a.1).2.1, (operandF toks a.1).2.2) else run toks false (operandF toks a.1).2.2 a.2.1 (withPart a.2.2 (operandF toks a.1).1)
theorem run_true (toks : List Tok) (k : Nat) (li : List Lvl) (t : Lvl) : run toks true k li t = runA toks (prefixF toks (toks.length - k + 1) k li t) := by
  have h1 := prefixF_ge toks (toks.length - k + 1) k li t
  have h2 := operandF_ge0 toks (prefixF toks (toks.length - k + 1) k li t).1
  show runF toks toks.length (2 * (toks.length - k) + 1 + 1) true k li t = _
  rw [runF_true, runA]
  split
  · rfl
  · refine runF_run toks (m := false) ?_
    simp only [bd, Bool.false_eq_true, if_false]; omega
theorem run_not {toks : List Tok} {k : Nat} {li : List Lvl} {t : Lvl} (h : acceptB toks k 1 wNot = true) : run toks true k li t = run toks true (k + 1) li ⟨t.nots + 1, t.ands, t.ors⟩ := by
  have hk := acceptB_lt h
  rw [run_true, run_true, prefixF, if_pos h, show toks.length - (k + 1) + 1 = toks.length - k by omega]
theorem run_paren {toks : List Tok} {k : Nat} {li : List Lvl} {t : Lvl} (h0 : acceptB toks k 1 wNot = false) (h : acceptB toks k 4 ⟨#[40]⟩ = true) : run toks true k li t = run toks true (k + 1) (li ++ [t]) lvl0 := by
  have hk := acceptB_lt h
  rw [run_true, run_true, prefixF, if_neg (by simp [h0]), if_pos h, show toks.length - (k + 1) + 1 = toks.length - k by omega]
theorem run_operand {toks : List Tok} {k : Nat} {li : List Lvl} {t : Lvl} (h0 : acceptB toks k 1 wNot = false) (h : acceptB toks k 4 ⟨#[40]⟩ = false) : run toks true k li t = runA toks (k, li, t) := by
  rw [run_true, prefixF, if_neg (by simp [h0]), if_neg (by simp [h])]
theorem run_and {toks : List Tok} {k : Nat} {li : List Lvl} {t : Lvl} (h : acceptB toks k 1 wAnd = true) : run toks false k li t = run toks true (k + 1) li t := by
  have hk := acceptB_lt h
  show runF toks toks.length (2 * (toks.length - k) + 1) false k li t = _
  rw [runF, if_pos h]
  exact runF_run toks (by simp only [bd, if_true]; omega)

def contClose (toks : List Tok) (k : Nat) (li : List Lvl) (p : Part) : Part × Int × Nat := match li.getLast? with
  | none => (p, 0, k)
  | some t' => if acceptB toks k 4 ⟨#[41]⟩ = true then run toks false (k + 1) li.dropLast (withPart t' p) else (⟨ex0, 0, 0⟩, 5, k)
def contOr (toks : List Tok) (k : Nat) (li : List Lvl) (p : Part) (ors : List Part) : Part × Int × Nat :=
  if acceptB toks k 1 wOr = true then run toks true (k + 1) li ⟨0, [], ors ++ [p]⟩ else contClose toks k li (joinedF 8 (ors ++ [p]))
theorem run_or {toks : List Tok} {k : Nat} {li : List Lvl} {ands ors : List Part} (h : acceptB toks k 1 wAnd = false) : run toks false k li ⟨0, ands, ors⟩ = contOr toks k li (joinedF 7 ands) ors := by
  show runF toks toks.length (2 * (toks.length - k) + 1) false k li _ = _
  rw [runF, if_neg (by simp [h]), contOr]
  split
  · rename_i h2
    have hk := acceptB_lt h2
    exact runF_run toks (by simp only [bd, if_true]; omega)
  · rw [contClose]
    cases li.getLast? with
    | none => rfl
    | some t' =>
      simp only [wholeF]
      split
      · rename_i h2
        have hk := acceptB_lt h2
        exact runF_run toks (by simp only [bd, Bool.false_eq_true, if_false]; omega)
      · rfl

/-- What the grammar reads is what the parser's run comes to. -/
def Says (toks : List Tok) : Lev → Nat → List Ex → Ex → Int → Nat → Prop
  | .atom, k, _, e, er, k1 => acceptB toks k 1 wNot = false → ∀ li t, run toks true k li t = if er ≠ 0 then (⟨ex0, 0, 0⟩, er, k1) else run toks false k1 li (withPart t (partOf e))
  | .neg, k, _, e, er, k1 => ∀ li t, run toks true k li t = if er ≠ 0 then (⟨ex0, 0, 0⟩, er, k1) else run toks false k1 li (withPart t (partOf e))
  | .ands, k, acc, e, er, k1 => ∀ li ors, run toks true k li ⟨0, acc.map partOf, ors⟩ = if er ≠ 0 then (⟨ex0, 0, 0⟩, er, k1) else contOr toks k1 li (partOf e) ors
  | .ors, k, acc, e, er, k1 => ∀ li, run toks true k li ⟨0, [], acc.map partOf⟩ = if er ≠ 0 then (⟨ex0, 0, 0⟩, er, k1) else contClose toks k1 li (partOf e)

theorem acceptB_two {toks : List Tok} {k : Nat} {a b : Int} {s t : ByteArray} (h : acceptB toks k a s = true) (hab : a ≠ b) : acceptB toks k b t = false := by
  unfold acceptB at *
  cases hk : toks[k]? with
  | none => rfl
  | some x =>
    rw [hk] at h
    simp only [Bool.and_eq_true, beq_iff_eq] at h
    simp only [Bool.and_eq_false_iff]
    left
    simp [h.1, hab]

theorem partOf_operand {toks : List Tok} {k : Nat} (h : (operandF toks k).2.1 = 0) : partOf (operandF toks k).1.ex = (operandF toks k).1 := by
  have h2 := operandF_ok toks k h
  have h3 : (operandF toks k).1.ex.args = [] := by
    unfold operandF
    (repeat' split) <;> rfl
  have h4 := Ex.size_eq (operandF toks k).1.ex
  have h5 := Ex.depth_eq (operandF toks k).1.ex
  rw [h3] at h4 h5
  simp only [sizes, depths] at h4 h5
  unfold partOf
  rw [if_neg (by omega), h4, h5]
  generalize operandF toks k = R at *
  obtain ⟨⟨ex, s, d⟩, er, k1⟩ := R
  simp only at h2 ⊢
  rw [h2.1, h2.2.1]

theorem Gr.says {toks : List Tok} {s : Lev} {k : Nat} {acc : List Ex} {e : Ex} {er : Int} {k1 : Nat} (h : Gr toks s k acc e er k1) : Says toks s k acc e er k1 := by
  induction h with
  | parenOk h1 _ h2 ih =>
    intro h0 li t
    rw [run_paren h0 h1, show lvl0 = ⟨0, [], ([] : List Ex).map partOf⟩ from rfl, ih (li ++ [t])]
    simp [contClose, h2]
  | parenErr h1 _ h2 ih =>
    intro h0 li t
    rw [run_paren h0 h1, show lvl0 = ⟨0, [], ([] : List Ex).map partOf⟩ from rfl, ih (li ++ [t])]
    simp [h2]
  | parenNo h1 _ h2 ih =>
    intro h0 li t
    rw [run_paren h0 h1, show lvl0 = ⟨0, [], ([] : List Ex).map partOf⟩ from rfl, ih (li ++ [t])]
    simp [contClose, h2]
  | operand h1 =>
    intro h0 li t
    rw [run_operand h0 h1, runA]
    split
    · rfl
    · rename_i h
      rw [partOf_operand (by simpa using h)]
  | notOk h1 _ ih =>
    intro li t
    rw [run_not h1, ih]
    simp only [ne_eq, not_true_eq_false, if_false]
    rename_i e2 _ _
    have := composedF_partOf 6 [e2]
    simp only [withPart, ← this, List.map_cons, List.map_nil, itF_swap]
  | notErr h1 _ h2 ih =>
    intro li t
    rw [run_not h1, ih]
    simp [h2]
  | negAtom h1 _ ih => exact ih h1
  | andStep _ h2 _ ih1 ih2 =>
    intro li ors
    rw [ih1]
    simp only [ne_eq, not_true_eq_false, if_false, withPart, itF]
    rw [run_and h2]
    have := ih2 li ors
    simpa using this
  | andStop _ h2 ih =>
    intro li ors
    rw [ih]
    simp only [ne_eq, not_true_eq_false, if_false, withPart, itF]
    rw [run_or h2, ← joinedF_partOf]
    simp
  | andErr _ h2 ih =>
    intro li ors
    rw [ih]
    simp [h2]
  | orStep _ h2 _ ih1 ih2 =>
    intro li
    have := ih1 li
    rw [show ([] : List Part) = ([] : List Ex).map partOf from rfl, this]
    simp only [ne_eq, not_true_eq_false, if_false]
    rw [contOr, if_pos h2]
    have := ih2 li
    simpa using this
  | orStop _ h2 ih =>
    intro li
    have := ih li
    rw [show ([] : List Part) = ([] : List Ex).map partOf from rfl, this]
    simp only [ne_eq, not_true_eq_false, if_false]
    rw [contOr, if_neg (by simp [h2]), ← joinedF_partOf]
    simp
  | orErr _ h2 ih =>
    intro li
    have := ih li
    rw [show ([] : List Part) = ([] : List Ex).map partOf from rfl, this]
    simp [h2]

theorem Gr.run {toks : List Tok} {k : Nat} {e : Ex} {er : Int} {k1 : Nat} (h : Gr toks .ors k [] e er k1) : run toks true k [] lvl0 = if er ≠ 0 then (⟨ex0, 0, 0⟩, er, k1) else (partOf e, 0, k1) := by
  have := h.says []
  rw [show lvl0 = ⟨0, [], ([] : List Ex).map partOf⟩ from rfl, this]
  simp [contClose]
end Go.Proofs.YtaepiiediblleaaGreatDoor
