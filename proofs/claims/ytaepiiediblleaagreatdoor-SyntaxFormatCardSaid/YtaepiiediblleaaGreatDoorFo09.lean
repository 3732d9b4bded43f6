/-
  Texts of the claim, joined: Level4, Level5, Level6, Level7, Level8.
-/
import Derived.Test.YtaepiiediblleaaGreatDoorFo08
namespace Go.Proofs.YtaepiiediblleaaGreatDoor
open Go.RowKit

/-- Only the place has changed. -/
theorem PI.step {toks : List Tok} {ta : Option Addr} {tn tc : Nat} {w0 w : World} {bp k : Nat} {vl : Value} {lv : List Lvl} {lvs : List LvlV} {M K : List Nat} (h : PI toks ta tn tc w0 w bp k vl lv lvs M K) {w' : World} {k' : Nat} (hc : Chg [bp] w w') (hp : PC toks ta tn tc w0 w' bp k' vl) (hk : k ≤ k') : PI toks ta tn tc w0 w' bp k' vl lv lvs M K := by
  have hnd := h.nd
  rw [h.hM, List.nodup_cons] at hnd
  have hbK : bp ∈ K := h.hK bp (by rw [h.hM]; simp)
  have hs : Sub (mask w K) (mask w' K) := mask_sub_mask fun y hy hn => ⟨hn, hc.block y hy (by simp; intro e; subst e; exact hn hbK)⟩
  have hne : ∀ y, y ∈ rowOf vl ++ lvs.flatMap LvlV.rows → y ∉ [bp] := fun y hy h' => by simp at h'; subst h'; exact hnd.1 hy
  refine ⟨hp, owns_chg h.own hc (fun y hy => hne y (List.mem_append_left _ (mem_rowOf.2 hy))), h.len, fun i h1 h2 => (h.lvl i h1 h2).chg hc (fun y hy => hne y (List.mem_append_right _ (List.mem_flatMap.2 ⟨lvs[i], List.getElem_mem h2, hy⟩))) hs, h.hM, h.nd, h.hK,
    fun y hy => Nat.lt_of_lt_of_le (h.hKlt y hy) hc.size, by have := h.pot; omega, by have := h.cnt; omega, h.tidy, h.small⟩

/-- The last level has been written anew: the new state. -/
theorem PI.finish {toks : List Tok} {ta : Option Addr} {tn tc : Nat} {w0 w w7 : World} {bp k g cap : Nat} {li : List Lvl} {t t' : Lvl} {l : List LvlV} {x x' : LvlV} {M K N : List Nat} (X : List Nat) (hX : ∀ y ∈ X, y ∈ K)
    (h : PI toks ta tn tc w0 w bp k (.slice (some ⟨g, 0, none⟩) (l.length + 1) cap) (li ++ [t]) (l ++ [x]) M K) (hll : li.length = l.length) (hN : ∀ y ∈ N, y = g ∨ y ∈ x.rows) (hc : Chg N w w7)
    (hown : w7.ownsRow w0.heap.size 51 3 (.slice (some ⟨g, 0, none⟩) (l.length + 1) cap) (l.length + 1) (l.flatMap LvlV.cells ++ x'.cells))
    (hr : ∀ y ∈ x'.rows, y ∈ x.rows ∨ w.heap.size ≤ y) (hlt : ∀ y ∈ x'.rows, y < w7.heap.size) (hnd : x'.rows.Nodup)
    (hnew : ∀ M' : List Nat, (∀ wx : World, Chg N wx w7 → (∀ y ∈ x'.rows, y ∈ x.rows ∨ wx.heap.size ≤ y) → Sub (mask wx K) (mask w7 M')) → LvlR w7 w0.heap.size M' t' x')
    (hpot : potAll (li ++ [t']) ≤ 2 * k) (htidy : Tidy t'.ands ∧ Tidy t'.ors) :
    ∃ M', PI toks ta tn tc w0 w7 bp k (.slice (some ⟨g, 0, none⟩) (l.length + 1) cap) (li ++ [t']) (l ++ [x']) M' (X ++ M') ∧ Chg M w w7 ∧ ∀ y ∈ M', y ∈ M ∨ w.heap.size ≤ y := by
  have hgM : g ∈ M := by rw [h.hM]; simp [rowOf, Value.ownBlock]
  have hrn := h.rowsNot
  have hNM : ∀ y ∈ N, y ∈ M := fun y hy => by
    rcases hN y hy with rfl | hy
    · exact hgM
    · exact (hrn y hy).2.2
  have hpre : ∀ y, y ∈ bp :: ([g] ++ (l ++ [x']).flatMap LvlV.rows) → y ∈ M ∨ y ∈ x'.rows := by
    intro y hy
    rw [rows_snoc] at hy
    rcases List.mem_cons.1 hy with rfl | hy
    · exact Or.inl (by rw [h.hM]; simp)
    · rcases List.mem_append.1 hy with hy | hy
      · simp at hy; subst hy; exact Or.inl hgM
      · rcases List.mem_append.1 hy with hy | hy
        · exact Or.inl (by rw [h.hM, rows_snoc]; exact List.mem_cons_of_mem _ (List.mem_append_right _ (List.mem_append_left _ hy)))
        · exact Or.inr hy
  have hsub : ∀ wx : World, Chg N wx w7 → (∀ y ∈ x'.rows, y ∈ x.rows ∨ wx.heap.size ≤ y) → Sub (mask wx K) (mask w7 (X ++ (bp :: ([g] ++ (l ++ [x']).flatMap LvlV.rows)))) := by
    intro wx hcx hrx
    refine mask_sub_mask fun y hy hn => ⟨fun h' => ?_, hcx.block y hy (fun h' => hn (h.hK y (hNM y h')))⟩
    rcases List.mem_append.1 h' with h' | h'
    · exact hn (hX y h')
    rcases hpre y h' with h' | h'
    · exact hn (h.hK y h')
    · rcases hrx y h' with h'' | h''
      · exact hn (h.hK y (hrn y h'').2.2)
      · omega
  refine ⟨bp :: ([g] ++ (l ++ [x']).flatMap LvlV.rows), h.replace (N := N) hll ?_ (Nat.le_refl _) hc ?_ (hsub w hc hr) hown (hnew _ hsub) hr hnd (fun y hy => List.mem_append_right _ hy) ?_ hpot htidy, ⟨hc.os, hc.tape, hc.output, hc.size, fun y hy hn => hc.block y hy (fun h' => hn (hNM y h'))⟩, ?_⟩
  · refine h.pc.chg hc (fun h' => ?_) (fun y hy => ?_)
    · rcases hN bp h' with e | h'
      · have := h.nd; rw [h.hM] at this; simp [rowOf, Value.ownBlock, e] at this
      · exact (hrn bp h').2.1 rfl
    · rcases hN y hy with rfl | hy
      · exact (h.own.lt y rfl).1
      · rcases List.mem_append.1 hy with hy | hy
        · obtain ⟨vs, h1, _⟩ := (h.lastR hll).2.1
          exact (h1.lt y (mem_rowOf.1 hy)).1
        · obtain ⟨vs, h1, _⟩ := (h.lastR hll).2.2
          exact (h1.lt y (mem_rowOf.1 hy)).1
  · intro y hy
    rcases hN y hy with rfl | hy
    · exact Or.inl (by simp [rowOf, Value.ownBlock])
    · exact Or.inl (List.mem_cons_of_mem _ (List.mem_append_right _ hy))
  · intro y hy
    rcases List.mem_append.1 hy with hy | hy
    · exact Nat.lt_of_lt_of_le (h.hKlt y (hX y hy)) hc.size
    rcases hpre y hy with h' | h'
    · exact Nat.lt_of_lt_of_le (h.hKlt y (h.hK y h')) hc.size
    · exact hlt y h'
  · intro y hy
    rcases hpre y hy with h' | h'
    · exact Or.inl h'
    · rcases hr y h' with h'' | h''
      · exact Or.inl (hrn y h'').2.2
      · exact Or.inr h''

theorem ownParts_rows {w : World} {base : Nat} {K : List Nat} {l : List Part} {v : Value} (h : OwnParts w base K l v) : ∃ a c vs, v = .slice a l.length c ∧ IsRows w 8 PartV.cells vs a l.length c ∧ PartsR (mask w K) l vs := by
  obtain ⟨vs, h1, h2⟩ := h
  rw [h2.1] at h1
  obtain ⟨a, c, rfl, hr⟩ := IsRows.of_owns (f := PartV.cells) (fun _ => rfl) h1
  refine ⟨a, c, vs, by rw [h2.1], by rw [h2.1]; exact hr, h2⟩

/-- What another does. -/
def AnotherQ (b : Bool) (k' : Nat) (t' : Lvl) (toks : List Tok) (ta : Option Addr) (tn tc : Nat) (w0 w : World) (bp : Nat) (vl : Value) (li : List Lvl) (l : List LvlV) (M X : List Nat) (e : Ending) (w' : World) : Prop :=
  e = .returned (.bool b) ∧ ∃ x' M', PI toks ta tn tc w0 w' bp k' vl (li ++ [t']) (l ++ [x']) M' (X ++ M') ∧ Chg M w w' ∧ ∀ y ∈ M', y ∈ M ∨ w.heap.size ≤ y

set_option maxRecDepth 100000 in
set_option maxHeartbeats 2000000 in
theorem another_and {toks : List Tok} {ta : Option Addr} {tn tc : Nat} {w0 w : World} {bp k : Nat} {vl : Value} {li : List Lvl} {t : Lvl} {l : List LvlV} {x : LvlV} {M X : List Nat} (h : PI toks ta tn tc w0 w bp k vl (li ++ [t]) (l ++ [x]) M (X ++ M)) (ho : HasOps w0) (h1 : acceptB toks k 1 wAnd = true) :
    Calls Tryz.prog 41 #[.pointer (some ⟨bp, 0, none⟩)] w (AnotherQ true (k + 1) t toks ta tn tc w0 w bp vl li l M X) := by
  have HI := Lib.hid h
  have H1 := Lib.hid h1
  obtain ⟨o1, o2, o4, o5, o6, o7, o8, olt⟩ := opsAt ho h.pc.hx
  have hbM : bp ∈ M := by rw [h.hM]; simp
  clear h ho h1
  go_enter Tryz.func41, Tryz.ntmps41
  go_wp2_with fail
  refine (HI.out.pc.acceptY H1.out).mono ?_
  rintro r w1 ⟨rfl, hc1, hp1⟩
  have HC1 := Lib.hid hc1
  have HP1 := Lib.hid hp1
  clear hc1 hp1 o1 o2 o4 o5 o6 o7 o8 olt
  go_wp2_with fail
  go_ret
  exact ⟨rfl, x, M, HI.out.step HC1.out HP1.out (by omega), HC1.out.mono (by simpa using hbM), fun y hy => Or.inl hy⟩

set_option maxRecDepth 100000 in
set_option maxHeartbeats 2000000 in
theorem another_none {toks : List Tok} {ta : Option Addr} {tn tc : Nat} {w0 w : World} {bp k : Nat} {vl : Value} {li : List Lvl} {t : Lvl} {l : List LvlV} {x : LvlV} {M X : List Nat} (h : PI toks ta tn tc w0 w bp k vl (li ++ [t]) (l ++ [x]) M (X ++ M)) (ho : HasOps w0) (h1 : acceptB toks k 1 wAnd = false) (h2 : acceptB toks k 1 wOr = false) :
    Calls Tryz.prog 41 #[.pointer (some ⟨bp, 0, none⟩)] w (AnotherQ false k t toks ta tn tc w0 w bp vl li l M X) := by
  have HI := Lib.hid h
  have H1 := Lib.hid h1
  have H2 := Lib.hid h2
  have HO := Lib.hid ho
  obtain ⟨o1, o2, o4, o5, o6, o7, o8, olt⟩ := opsAt ho h.pc.hx
  have hbM : bp ∈ M := by rw [h.hM]; simp
  clear h ho h1 h2
  go_enter Tryz.func41, Tryz.ntmps41
  go_wp2_with fail
  refine (HI.out.pc.acceptN H1.out).mono ?_
  rintro r w1 ⟨rfl, hc1, hp1⟩
  have HC1 := Lib.hid hc1
  have HP1 := Lib.hid hp1
  clear hc1 hp1 o1 o2 o4 o5 o6 o7 o8 olt
  obtain ⟨o1, o2, o4, o5, o6, o7, o8, olt⟩ := opsAt HO.out HP1.out.hx
  go_wp2_with fail
  refine (HP1.out.acceptN H2.out).mono ?_
  rintro r w2 ⟨rfl, hc2, hp2⟩
  have HC2 := Lib.hid (HC1.out.then hc2)
  have HP2 := Lib.hid hp2
  clear hc2 hp2 o1 o2 o4 o5 o6 o7 o8 olt
  go_wp2_with fail
  go_ret
  exact ⟨rfl, x, M, HI.out.step HC2.out HP2.out (by omega), HC2.out.mono (by simpa using hbM), fun y hy => Or.inl hy⟩
end Go.Proofs.YtaepiiediblleaaGreatDoor

namespace Go.Proofs.YtaepiiediblleaaGreatDoor
open Go.RowKit

theorem joinedF_size (op : Int) (l : List Part) : (joinedF op l).size ≤ 1 + sumSize l := by
  match l with
  | [] => simp [joinedF, composedF, sumSize, maxDepth]
  | [p] => simp [joinedF, sumSize]
  | a :: b :: r => simp only [joinedF, composedF]; split <;> simp
theorem maxDepth_all {l : List Part} (h : Tidy l) : maxDepth l ≤ sumSize l := by
  have := maxDepth_le h l.length
  rwa [List.take_length] at this
theorem joinedF_tidy (op : Int) (l : List Part) (h : Tidy l) : (joinedF op l).depth ≤ (joinedF op l).size := by
  have hm := maxDepth_all h
  match l, h with
  | [], _ => simp [joinedF, composedF, sumSize, maxDepth]
  | [p], h => exact h p (by simp)
  | a :: b :: r, _ => simp only [joinedF, composedF]; split <;> simp <;> omega

theorem another_fin {toks : List Tok} {ta : Option Addr} {tn tc : Nat} {w0 w3 w4 w6 : World} {bp k g cap : Nat} {li : List Lvl} {t : Lvl} {l : List LvlV} {x : LvlV} {M X : List Nat} {o : Obj} {vos : List PartV} {vq : PartV} {q : Part} {g6 cap6 : Nat}
    (h : PI toks ta tn tc w0 w3 bp k (.slice (some ⟨g, 0, none⟩) (l.length + 1) cap) (li ++ [t]) (l ++ [x]) M (X ++ M)) (hll : li.length = l.length) (hx4 : Ext w3 w4) (hpo : PartsR (mask w3 (X ++ M)) t.ors vos)
    (ho6 : w6.ownsRow w0.heap.size 56 8 (.slice (some ⟨g6, 0, none⟩) (t.ors.length + 1) cap6) (t.ors.length + 1) (vos.flatMap PartV.cells ++ vq.cells))
    (hg6 : (w4.alloc o).grownBy w6 x.vo.ownBlock) (hl6 : x.vo.ownBlock = some g6 ∨ g6 = w4.heap.size + 1) (hlt6 : g6 < w6.heap.size)
    (hq : PartR (mask w4 (X ++ M)) q vq) (hqt : q.depth ≤ q.size) (hpot : potAll (li ++ [⟨t.nots, [], t.ors ++ [q]⟩]) ≤ 2 * k) :
    ∃ x' M', PI toks ta tn tc w0 ((w6.setCell ⟨g, l.length * 3 + 2, none⟩ (.slice (some ⟨g6, 0, none⟩) (t.ors.length + 1) cap6)).setCell ⟨g, l.length * 3 + 1, none⟩ (.slice none 0 0)) bp k (.slice (some ⟨g, 0, none⟩) (l.length + 1) cap) (li ++ [⟨t.nots, [], t.ors ++ [q]⟩]) (l ++ [x']) M' (X ++ M') ∧
      Chg M w3 ((w6.setCell ⟨g, l.length * 3 + 2, none⟩ (.slice (some ⟨g6, 0, none⟩) (t.ors.length + 1) cap6)).setCell ⟨g, l.length * 3 + 1, none⟩ (.slice none 0 0)) ∧ ∀ y ∈ M', y ∈ M ∨ w3.heap.size ≤ y := by
  have hrn := h.rowsNot
  have hvo : ∀ y, x.vo.ownBlock = some y → y ∈ x.rows := fun y hy => List.mem_append_right _ (mem_rowOf.2 hy)
  have hgx : ∀ y ∈ x.rows, y ≠ g := fun y hy e => (hrn y hy).1 (by subst e; simp [rowOf, Value.ownBlock])
  have hgl : g < w3.heap.size := h.hKlt g (h.hK g (by rw [h.hM]; simp [rowOf, Value.ownBlock]))
  have hs4 := hx4.size
  have hg6x : g6 ≠ g := by
    rcases hl6 with h' | h'
    · exact hgx _ (hvo _ h')
    · omega
  have hc46 : ∀ wx, Ext wx w4 → Chg (g :: rowOf x.vo) wx w6 := fun wx hx => ((hx.chg (g :: rowOf x.vo)).alloc o).grown hg6 (fun y hy => Or.inl (List.mem_cons_of_mem _ (mem_rowOf.2 hy)))
  have hc7 : ∀ wx, Ext wx w4 → Chg (g :: rowOf x.vo) wx ((w6.setCell ⟨g, l.length * 3 + 2, none⟩ (.slice (some ⟨g6, 0, none⟩) (t.ors.length + 1) cap6)).setCell ⟨g, l.length * 3 + 1, none⟩ (.slice none 0 0)) := fun wx hx => ((hc46 wx hx).setCell (Or.inl (by simp)) _).setCell (Or.inl (by simp)) _
  have hx'r : (LvlV.mk x.nots (.slice none 0 0) (.slice (some ⟨g6, 0, none⟩) (t.ors.length + 1) cap6)).rows = [g6] := rfl
  refine ⟨LvlV.mk x.nots (.slice none 0 0) (.slice (some ⟨g6, 0, none⟩) (t.ors.length + 1) cap6), h.finish (N := g :: rowOf x.vo) X (fun y hy => List.mem_append_left _ hy) hll ?_ (hc7 w3 hx4) ?_ ?_ ?_ (by rw [hx'r]; simp) ?_ hpot ?_⟩
  · intro y hy
    rcases List.mem_cons.1 hy with rfl | hy
    · exact Or.inl rfl
    · exact Or.inr (hvo y (mem_rowOf.1 hy))
  · have hown := h.own
    rw [List.length_append, List.length_singleton] at hown
    have h1 : w6.ownsRow w0.heap.size 51 3 (.slice (some ⟨g, 0, none⟩) (l.length + 1) cap) (l.length + 1) ((l ++ [x]).flatMap LvlV.cells) :=
      owns_chg hown (((hx4.chg (rowOf x.vo)).alloc o).grown hg6 (fun y hy => Or.inl (mem_rowOf.2 hy))) (fun y hy h' => by
        simp [Value.ownBlock] at hy; subst hy
        exact hgx g (hvo g (mem_rowOf.1 h')) rfl)
    have h2 := ((h1.stored (l.length * 3 + 2) (.slice (some ⟨g6, 0, none⟩) (t.ors.length + 1) cap6)).1.stored (l.length * 3 + 1) (.slice none 0 0)).1
    rw [flatMap_snoc, set_tail, set_tail] at h2
    exact h2
  · intro y hy
    rw [hx'r] at hy
    simp at hy
    subst hy
    rcases hl6 with h' | h'
    · exact Or.inl (hvo _ h')
    · exact Or.inr (by omega)
  · intro y hy
    rw [hx'r] at hy
    simp at hy
    subst hy
    simpa using hlt6
  · intro M' hsub
    refine ⟨(h.lastR hll).1, ⟨[], World.ownsRow_nil _ _ _ _, rfl, fun i hi => by simp at hi⟩, ⟨vos ++ [vq], ?_, (hpo.mono (hsub w3 (hc7 w3 hx4) ?_)).snoc (hq.mono (hsub w4 (hc7 w4 (Ext.refl _)) ?_))⟩⟩
    · have := owns_chg ho6 (((Chg.refl [g] w6).setCell (p := ⟨g, l.length * 3 + 2, none⟩) (Or.inl (by simp)) (.slice (some ⟨g6, 0, none⟩) (t.ors.length + 1) cap6)).setCell (p := ⟨g, l.length * 3 + 1, none⟩) (Or.inl (by simp)) (.slice none 0 0)) (fun y hy => by simp [Value.ownBlock] at hy; subst hy; simpa using hg6x)
      simpa using this
    · intro y hy
      rw [hx'r] at hy
      simp at hy
      subst hy
      rcases hl6 with h' | h'
      · exact Or.inl (hvo _ h')
      · exact Or.inr (by omega)
    · intro y hy
      rw [hx'r] at hy
      simp at hy
      subst hy
      rcases hl6 with h' | h'
      · exact Or.inl (hvo _ h')
      · exact Or.inr (by omega)
  · refine ⟨fun z hz => by simp at hz, fun z hz => ?_⟩
    rcases List.mem_append.1 hz with hz | hz
    · exact (h.tidy t (by simp)).2 z hz
    · simp at hz; subst hz; exact hqt

set_option maxRecDepth 100000 in
set_option maxHeartbeats 4000000 in
theorem another_or {toks : List Tok} {ta : Option Addr} {tn tc : Nat} {w0 w : World} {bp k : Nat} {vl : Value} {li : List Lvl} {t : Lvl} {l : List LvlV} {x : LvlV} {M X : List Nat} (h : PI toks ta tn tc w0 w bp k vl (li ++ [t]) (l ++ [x]) M (X ++ M)) (hll : li.length = l.length) (ho : HasOps w0) (h1 : acceptB toks k 1 wAnd = false) (h2 : acceptB toks k 1 wOr = true) (hne : t.ands ≠ []) :
    Calls Tryz.prog 41 #[.pointer (some ⟨bp, 0, none⟩)] w (AnotherQ true (k + 1) ⟨t.nots, [], t.ors ++ [joinedF 7 t.ands]⟩ toks ta tn tc w0 w bp vl li l M X) := by
  have HI := Lib.hid h
  have H1 := Lib.hid h1
  have H2 := Lib.hid h2
  have HO := Lib.hid ho
  have hsm := h.small
  have hkt := h.pc.hk
  obtain ⟨o1, o2, o4, o5, o6, o7, o8, olt⟩ := opsAt ho h.pc.hx
  have hbM : bp ∈ M := by rw [h.hM]; simp
  clear h ho h1 h2
  go_enter Tryz.func41, Tryz.ntmps41
  go_wp2_with fail
  refine (HI.out.pc.acceptN H1.out).mono ?_
  rintro r w1 ⟨rfl, hc1, hp1⟩
  have HC1 := Lib.hid hc1
  have HP1 := Lib.hid hp1
  clear hc1 hp1 o1 o2 o4 o5 o6 o7 o8 olt
  obtain ⟨o1, o2, o4, o5, o6, o7, o8, olt⟩ := opsAt HO.out HP1.out.hx
  go_wp2_with fail
  refine (HP1.out.acceptY H2.out).mono ?_
  rintro r w2 ⟨rfl, hc2, hp2⟩
  have HC2 := Lib.hid (HC1.out.then hc2)
  have hI2 := Lib.hid (HI.out.step HC2.out hp2 (by omega))
  clear hc2 hp2 o1 o2 o4 o5 o6 o7 o8 olt HC1 HP1
  obtain ⟨g, cap, rfl, hgM, hgb, hg0, hgw, -, -, -, -, hl6⟩ := hI2.out.at
  go_wp2_with fail
  refine (top_calls' g l.length cap bp _ hI2.out.pc.cells.2.2.1 hl6).mono ?_
  rintro r w3 ⟨rfl, hx3⟩
  have hI3 := Lib.hid (hI2.out.ext hx3)
  have HC3 := Lib.hid (HC2.out.then (hx3.chg _))
  clear hx3 hI2 HC2
  obtain ⟨g', cap', e1, -, -, -, hgw3, -, c1, c2, cf, -⟩ := hI3.out.at
  simp only [Value.slice.injEq, Option.some.injEq, Addr.mk.injEq, and_true, true_and] at e1
  obtain ⟨rfl, rfl⟩ := e1
  obtain ⟨aa, ca, vas, eva, hra, hpa⟩ := ownParts_rows (hI3.out.lastR hll).2.1
  obtain ⟨vos, hov, hpo⟩ := (hI3.out.lastR hll).2.2
  obtain ⟨oa, oc, ovs, evo, -, -⟩ := ownParts_rows (hI3.out.lastR hll).2.2
  have hb3 := hI3.out.pc.hx.size
  have hpot := hI3.out.pot
  rw [potAll_snoc] at hpot
  unfold Lvl.pot at hpot
  rw [sumPot_eq, sumPot_eq] at hpot
  have hlen1 : t.ands.length ≤ 2 * (k + 1) := by omega
  have hlen2 : t.ors.length ≤ 2 * (k + 1) := by omega
  have hsum1 : sumSize t.ands ≤ 2 * (k + 1) := by omega
  have htd := (hI3.out.tidy t (by simp)).1
  have HJ := Lib.hid (fun (W : World) (hx : Ext w3 W) => joined_calls 7 t.ands vas aa t.ands.length ca (X ++ M) W (hra.ext hx) (hpa.mono (mask_ext _ hx)) (fun y hy => Nat.lt_of_lt_of_le (hI3.out.hKlt y hy) hx.size) htd (by omega) (by omega))
  have hgx : ∀ y ∈ x.rows, y ≠ g := fun y hy e => (hI3.out.rowsNot y hy).1 (by subst e; simp [rowOf, Value.ownBlock])
  have HNE := Lib.hid (show some g ≠ x.vo.ownBlock from fun e => hgx g (List.mem_append_right _ (mem_rowOf.2 e.symm)) rfl)
  have HOV := Lib.hid hov
  have HPO := Lib.hid hpo
  have HGX := Lib.hid hgx
  have HPT := Lib.hid hpot
  have HEVA := Lib.hid eva
  have HEVO := Lib.hid evo
  rw [eva] at c1
  rw [evo] at c2 HOV HNE
  have HNA := Lib.hid (show 1 ≤ t.ands.length from List.length_pos_iff.2 hne)
  clear hra hpa hov hpo hgx htd hpot eva evo hne
  go_wp2_with fail
  go_region_law (first
    | (refine step_append1 info_part rfl _ _ rfl w0.heap.size _ t.ors.length _ rfl _ 1 1 vq.cells rfl rfl (by simp [PartV.cells, Value.oneCell']) (by omega) (by omega) (by omega) (w4.heap.size + 1) (owns_ext HOV.out (hEx4.alloc _)) (by intro j hj; rw [World.cell?_alloc_at _ _ _ _ rfl]; simp [PartV.cells]) (by simp; omega) (by simp) ?_; intro g6 cap6 w6 ho6 hg6 hl6' hlt6; have e1 : w6.cell? ⟨g, l.length * 3 + 2, none⟩ = some (.slice oa t.ors.length oc) := hg6.cell ((hEx4.alloc _).cell c2) HNE.out; have e2 : w6.frozen? ⟨g, l.length * 3 + 2, none⟩ = false := (by rw [World.frozen?_of_block (hg6.block g (by simp; omega) HNE.out)]; exact ((hEx4.alloc _).frozen c2).trans (cf _)); have e3 : w6.cell? ⟨g, l.length * 3 + 1, none⟩ = some (.slice aa t.ands.length ca) := hg6.cell ((hEx4.alloc _).cell c1) HNE.out; have e4 : w6.frozen? ⟨g, l.length * 3 + 1, none⟩ = false := (by rw [World.frozen?_of_block (hg6.block g (by simp; omega) HNE.out)]; exact ((hEx4.alloc _).frozen c1).trans (cf _)))
    | (go_simp; go_at_call 81; refine (HJ.out _ (Ext.drew (Ext.refl w3))).mono ?_; rintro r w4 ⟨vq, rfl, hvq, hx4⟩; have hEx4 : Ext w3 w4 := (Ext.drew (Ext.refl w3)).trans hx4; have f2 : w4.cell? ⟨g, l.length * 3 + 2, none⟩ = some (.slice oa t.ors.length oc) := hEx4.cell c2; have hz4 := hEx4.size; have hg4 : g < w4.heap.size := (by omega); unfold PartV.val))
  all_goals
    have HQ := Lib.hid hvq
    have HO6 := Lib.hid ho6
    have HG6 := Lib.hid hg6
    have HL6 := Lib.hid hl6'
    have HLT := Lib.hid hlt6
    have HX4 := Lib.hid hEx4
    clear hvq ho6 hg6 hl6' hlt6 hEx4 c1 c2 cf
    go_wp2_with fail
    go_ret
    rw [← HEVO.out] at HG6 HL6
    obtain ⟨x', M', h1, h2, h3⟩ := another_fin hI3.out hll HX4.out HPO.out HO6.out HG6.out HL6.out HLT.out HQ.out (joinedF_tidy 7 _ (hI3.out.tidy t (by simp)).1) (by
      have h5 := HI.out.pot
      have h6 := joinedF_size 7 t.ands
      rw [potAll_snoc] at h5 ⊢
      unfold Lvl.pot at h5 ⊢
      rw [sumPot_snoc]
      rw [sumPot_eq t.ands] at h5
      simp only [sumPot]
      have h7 := HNA.out
      omega)
    exact ⟨rfl, x', M', h1, (HC3.out.mono (by simpa using hbM)).then h2, fun y hy => by
      rcases h3 y hy with h | h
      · exact Or.inl h
      · exact Or.inr (Nat.le_trans HC3.out.size h)⟩
end Go.Proofs.YtaepiiediblleaaGreatDoor

namespace Go.Proofs.YtaepiiediblleaaGreatDoor
open Go.RowKit

theorem elemLevel : ElemT 52 51 (.agg #[.int .i64 0, .slice none 0 0, .slice none 0 0]) 3 56 := ⟨by kernel_rfl, by kernel_rfl, rfl, by decide⟩

/-- append of elements that were just laid into a block of their own; where the new row lies. -/
theorem wpList_append2 {t e : TypeId} {z : Value} {size bytes : Nat} (E : ElemT t e z size bytes) {ops : Array Oper} {rest : List Oper} {o : Oper} {a : Act} {Q : Exit → Act → World → Prop} {X : World} {arr : Array Value} {tt : TypeId}
    (hgd : o.guard = none) (s x : Operand) (ho : o.op = .call { callee := .builtin .append, args := #[s, x], argTypes := #[t, t] }) (base : Nat) (v : Value) (n : Nat) (xs : List Value) (hs : a.eval s = v) (hown : X.ownsRow base e size v n xs)
    (B m c : Nat) (hx : a.eval x = .slice (some ⟨B, 0, none⟩) m c) (hB : B = X.heap.size) (hl : arr.size = m * size) (h1 : ∀ u ∈ arr.toList, u.oneCell' = true) (hm : 0 < m) (hn : n + m ≤ 100000000) (hb : bytes ≤ 1000) (hbase : base ≤ X.heap.size)
    (h : ∀ g cap w', w'.ownsRow base e size (.slice (some ⟨g, 0, none⟩) (n + m) cap) (n + m) (xs ++ arr.toList) → (X.alloc (.cells arr tt)).grownBy w' v.ownBlock → (v.ownBlock = some g ∨ g = X.heap.size + 1) → g < w'.heap.size → wpList Tryz.prog ops Q rest (a.put o.dst (.slice (some ⟨g, 0, none⟩) (n + m) cap)) w') : wpList Tryz.prog ops Q (o :: rest) a (X.alloc (.cells arr tt)) := by
  subst hB
  obtain ⟨i, hi, hz, hsz, hby⟩ := info_parts E.info
  refine wpList_append_lies (X.alloc (.cells arr tt)) hgd s x t ho base e i z size bytes E.ht hi hz hsz hby E.hzs E.hsz v n xs hs (hown.alloc _) ⟨X.heap.size, 0, none⟩ m c arr.toList hx (by simpa using hl) ?_ h1 hm (by simp only [maxLen]; omega) ?_ (by simp; omega) (X.heap.size + 1) (by simp) h
  · intro j u hu
    have : (⟨X.heap.size, 0, none⟩ : Addr).add j = ⟨X.heap.size, j, none⟩ := by unfold Addr.add; split <;> simp_all
    rw [this, World.cell?_alloc_at _ _ _ _ rfl]
    simpa using hu
  · calc (n + m) * bytes ≤ 100000000 * 1000 := Nat.mul_le_mul hn hb
      _ ≤ 140737488355328 := by omega

def lvl0 : Lvl := ⟨0, [], []⟩
def lvlV0 : LvlV := ⟨0, .slice none 0 0, .slice none 0 0⟩

/-- A level more. -/
theorem PI.push {toks : List Tok} {ta : Option Addr} {tn tc : Nat} {w0 w3 w6 : World} {bp k : Nat} {vl : Value} {lv : List Lvl} {lvs : List LvlV} {M X : List Nat} {o : Obj} {g6 cap6 : Nat} (h : PI toks ta tn tc w0 w3 bp k vl lv lvs M (X ++ M))
    (ho6 : w6.ownsRow w0.heap.size 51 3 (.slice (some ⟨g6, 0, none⟩) (lvs.length + 1) cap6) (lvs.length + 1) (lvs.flatMap LvlV.cells ++ lvlV0.cells))
    (hg6 : (w3.alloc o).grownBy w6 vl.ownBlock) (hl6 : vl.ownBlock = some g6 ∨ g6 = w3.heap.size + 1) (hlt6 : g6 < w6.heap.size) (hcnt : lv.length ≤ k) :
    ∃ M', PI toks ta tn tc w0 (w6.setCell ⟨bp, 2, none⟩ (.slice (some ⟨g6, 0, none⟩) (lvs.length + 1) cap6)) bp k (.slice (some ⟨g6, 0, none⟩) (lvs.length + 1) cap6) (lv ++ [lvl0]) (lvs ++ [lvlV0]) M' (X ++ M') ∧
      Chg M w3 (w6.setCell ⟨bp, 2, none⟩ (.slice (some ⟨g6, 0, none⟩) (lvs.length + 1) cap6)) ∧ ∀ y ∈ M', y ∈ M ∨ w3.heap.size ≤ y := by
  have hbM : bp ∈ M := by rw [h.hM]; simp
  have hvM : ∀ y, vl.ownBlock = some y → y ∈ M := fun y hy => by rw [h.hM]; simp [mem_rowOf.2 hy]
  have hnd := h.nd
  rw [h.hM, List.nodup_cons, List.nodup_append] at hnd
  have hg6b : g6 ≠ bp := by
    rcases hl6 with h' | h'
    · intro e; subst e; exact hnd.1 (List.mem_append_left _ (mem_rowOf.2 h'))
    · have := h.hKlt bp (h.hK bp hbM); omega
  have hb6 : w6.heap[bp]? = some (.cells #[.slice ta tn tc, .int .i64 k, vl] 54 (0, 0)) := by
    rw [hg6.block bp (by have := h.hKlt bp (h.hK bp hbM); simp; omega) (fun e => hnd.1 (List.mem_append_left _ (mem_rowOf.2 e.symm)))]
    exact blk_alloc h.pc.hb
  have hc7 : Chg (bp :: rowOf vl) w3 (w6.setCell ⟨bp, 2, none⟩ (.slice (some ⟨g6, 0, none⟩) (lvs.length + 1) cap6)) :=
    (((Chg.refl (bp :: rowOf vl) w3).alloc o).grown hg6 (fun y hy => Or.inl (List.mem_cons_of_mem _ (mem_rowOf.2 hy)))).setCell (Or.inl (by simp)) _
  have hNM : ∀ y ∈ bp :: rowOf vl, y ∈ M := fun y hy => by
    rcases List.mem_cons.1 hy with rfl | hy
    · exact hbM
    · exact hvM y (mem_rowOf.1 hy)
  have hr0 : (lvs ++ [lvlV0]).flatMap LvlV.rows = lvs.flatMap LvlV.rows := by rw [rows_snoc]; simp [lvlV0, LvlV.rows, rowOf, Value.ownBlock]
  have hM' : ∀ y ∈ bp :: ([g6] ++ (lvs ++ [lvlV0]).flatMap LvlV.rows), (y ∈ M ∨ w3.heap.size ≤ y) ∧ y < w6.heap.size := by
    intro y hy
    have hs := hg6.size
    simp at hs
    rw [hr0] at hy
    rcases List.mem_cons.1 hy with rfl | hy
    · exact ⟨Or.inl hbM, by have := h.hKlt y (h.hK y hbM); omega⟩
    · rcases List.mem_append.1 hy with hy | hy
      · simp at hy; subst hy
        refine ⟨?_, hlt6⟩
        rcases hl6 with h' | h'
        · exact Or.inl (hvM _ h')
        · exact Or.inr (by omega)
      · have : y ∈ M := by rw [h.hM]; exact List.mem_cons_of_mem _ (List.mem_append_right _ hy)
        exact ⟨Or.inl this, by have := h.hKlt y (h.hK y this); omega⟩
  have hsub : Sub (mask w3 (X ++ M)) (mask (w6.setCell ⟨bp, 2, none⟩ (.slice (some ⟨g6, 0, none⟩) (lvs.length + 1) cap6)) (X ++ (bp :: ([g6] ++ (lvs ++ [lvlV0]).flatMap LvlV.rows)))) :=
    mask_sub_mask fun y hy hn => ⟨fun h' => by
      rcases List.mem_append.1 h' with h' | h'
      · exact hn (List.mem_append_left _ h')
      · rcases (hM' y h').1 with h1 | h1; exact hn (List.mem_append_right _ h1); omega, hc7.block y hy (fun h' => hn (List.mem_append_right _ (hNM y h')))⟩
  refine ⟨bp :: ([g6] ++ (lvs ++ [lvlV0]).flatMap LvlV.rows), ⟨⟨h.pc.ht, ?_, ?_, h.pc.hbp, h.pc.hk, h.pc.htn, h.pc.hz⟩, ?_, by simp [h.len], ?_, rfl, ?_, fun y hy => List.mem_append_right _ hy, ?_, ?_, by simp; omega, ?_, h.small⟩, hc7.mono hNM, fun y hy => (hM' y hy).1⟩
  · refine hc7.ext h.pc.hx (fun y hy => ?_)
    rcases List.mem_cons.1 hy with rfl | hy
    · exact h.pc.hbp
    · exact (h.own.lt y (mem_rowOf.1 hy)).1
  · have := heap_setCell_same w6 bp 2 _ _ (.slice (some ⟨g6, 0, none⟩) (lvs.length + 1) cap6) hb6
    exact this
  · rw [flatMap_snoc]
    have := owns_chg ho6 ((Chg.refl [bp] w6).setCell (p := ⟨bp, 2, none⟩) (Or.inl (by simp)) (.slice (some ⟨g6, 0, none⟩) (lvs.length + 1) cap6)) (fun y hy => by simp [Value.ownBlock] at hy; subst hy; simpa using hg6b)
    simpa using this
  · intro i h1 h2
    by_cases hi : i < lv.length
    · have hi' : i < lvs.length := by have := h.len; omega
      rw [List.getElem_append_left hi, List.getElem_append_left hi']
      refine (h.lvl i hi hi').chg hc7 (fun y hy h' => ?_) hsub
      have hyl : y ∈ lvs.flatMap LvlV.rows := List.mem_flatMap.2 ⟨lvs[i], List.getElem_mem hi', hy⟩
      rcases List.mem_cons.1 h' with rfl | h'
      · exact hnd.1 (List.mem_append_right _ hyl)
      · exact hnd.2.2.2 y h' y hyl rfl
    · have e : i = lv.length := by simp at h1; omega
      subst e
      rw [List.getElem_append_right (Nat.le_refl _), List.getElem_append_right (by rw [h.len]; exact Nat.le_refl _)]
      simp only [h.len, Nat.sub_self, List.getElem_cons_zero]
      exact ⟨rfl, ⟨[], World.ownsRow_nil _ _ _ _, rfl, fun i hi => by simp [lvl0] at hi⟩, ⟨[], World.ownsRow_nil _ _ _ _, rfl, fun i hi => by simp [lvl0] at hi⟩⟩
  · rw [hr0]
    have h1 := hnd.2.2.1
    rw [List.nodup_cons]
    refine ⟨fun h' => ?_, ?_⟩
    · rcases List.mem_append.1 h' with h' | h'
      · simp at h'; exact hg6b h'.symm
      · exact hnd.1 (List.mem_append_right _ h')
    · rw [List.nodup_append]
      refine ⟨by simp, h1, fun a ha b hb e => ?_⟩
      simp at ha
      subst ha; subst e
      rcases hl6 with h' | h'
      · exact hnd.2.2.2 a (mem_rowOf.2 h') a hb rfl
      · have : a ∈ M := by rw [h.hM]; exact List.mem_cons_of_mem _ (List.mem_append_right _ hb)
        have := h.hKlt a (h.hK a this)
        omega
  · intro y hy
    rcases List.mem_append.1 hy with hy | hy
    · have h1 := h.hKlt y (List.mem_append_left _ hy)
      have h2 := hc7.size
      omega
    · have := (hM' y hy).2
      simpa using this
  · rw [potAll_snoc]; simpa [lvl0, Lvl.pot, sumPot] using h.pot
  · intro z hz
    rcases List.mem_append.1 hz with hz | hz
    · exact h.tidy z hz
    · simp at hz; subst hz; exact ⟨fun _ h' => by simp [lvl0] at h', fun _ h' => by simp [lvl0] at h'⟩
end Go.Proofs.YtaepiiediblleaaGreatDoor

namespace Go.Proofs.YtaepiiediblleaaGreatDoor
open Go.RowKit

/-- Negations and parentheses before an operand: the place, and the levels. -/
def prefixF (toks : List Tok) : Nat → Nat → List Lvl → Lvl → Nat × List Lvl × Lvl
  | 0, k, li, t => (k, li, t)
  | f + 1, k, li, t =>
    if acceptB toks k 1 wNot = true then prefixF toks f (k + 1) li ⟨t.nots + 1, t.ands, t.ors⟩ else
    if acceptB toks k 4 ⟨#[40]⟩ = true then prefixF toks f (k + 1) (li ++ [t]) lvl0 else (k, li, t)

/-- The parser's state, in memory; M: the blocks that it writes. -/
def PS (toks : List Tok) (ta : Option Addr) (tn tc : Nat) (w0 w : World) (bp k : Nat) (li : List Lvl) (t : Lvl) (M X : List Nat) : Prop :=
  ∃ vl l x, PI toks ta tn tc w0 w bp k vl (li ++ [t]) (l ++ [x]) M (X ++ M) ∧ li.length = l.length

def PrefixQ (R : Nat × List Lvl × Lvl) (toks : List Tok) (ta : Option Addr) (tn tc : Nat) (w0 w : World) (bp : Nat) (M X : List Nat) (e : Ending) (w' : World) : Prop :=
  e = .returned (.tuple #[]) ∧ ∃ M', PS toks ta tn tc w0 w' bp R.1 R.2.1 R.2.2 M' X ∧ Chg M w w' ∧ ∀ y ∈ M', y ∈ M ∨ w.heap.size ≤ y

theorem accept_lt {toks : List Tok} {ta : Option Addr} {tn tc : Nat} {w0 w : World} {bp k : Nat} {vl : Value} (h : PC toks ta tn tc w0 w bp k vl) {kind : Int} {text : ByteArray} (ha : acceptB toks k kind text = true) : k < tn := by
  by_cases hlt : k < tn
  · exact hlt
  · rw [acceptB, (h.past hlt).1] at ha; cases ha

/-- One negation more. -/
theorem PI.inc {toks : List Tok} {ta : Option Addr} {tn tc : Nat} {w0 w : World} {bp k g cap : Nat} {li : List Lvl} {t : Lvl} {l : List LvlV} {x : LvlV} {M X : List Nat} (h : PI toks ta tn tc w0 w bp k (.slice (some ⟨g, 0, none⟩) (l.length + 1) cap) (li ++ [t]) (l ++ [x]) M (X ++ M)) (hll : li.length = l.length)
    (n : Nat) (hpot : potAll (li ++ [⟨n, t.ands, t.ors⟩]) ≤ 2 * k) :
    ∃ x' M', PI toks ta tn tc w0 (w.setCell ⟨g, l.length * 3, none⟩ (.int .i64 n)) bp k (.slice (some ⟨g, 0, none⟩) (l.length + 1) cap) (li ++ [⟨n, t.ands, t.ors⟩]) (l ++ [x']) M' (X ++ M') ∧ Chg M w (w.setCell ⟨g, l.length * 3, none⟩ (.int .i64 n)) ∧ ∀ y ∈ M', y ∈ M ∨ w.heap.size ≤ y := by
  have hrn := h.rowsNot
  have hgx : ∀ y ∈ x.rows, y ≠ g := fun y hy e => (hrn y hy).1 (by subst e; simp [rowOf, Value.ownBlock])
  have hc : Chg [g] w (w.setCell ⟨g, l.length * 3, none⟩ (.int .i64 n)) := (Chg.refl [g] w).setCell (Or.inl (by simp)) _
  refine ⟨⟨n, x.va, x.vo⟩, h.finish (N := [g]) X (fun y hy => List.mem_append_left _ hy) hll (fun y hy => Or.inl (by simpa using hy)) hc ?_ (fun y hy => Or.inl hy) (fun y hy => ?_) h.rowsNd ?_ hpot (h.tidy t (by simp))⟩
  · have hown := h.own
    rw [List.length_append, List.length_singleton] at hown
    have h1 := (hown.stored (l.length * 3) (.int .i64 n)).1
    have e0 := set_tail l x.cells 0 (.int .i64 n)
    rw [Nat.add_zero] at e0
    rw [flatMap_snoc, e0] at h1
    exact h1
  · have := h.hKlt y (h.hK y (hrn y hy).2.2)
    simpa using this
  · intro M' hsub
    have hl := h.lastR hll
    exact ⟨rfl, hl.2.1.chg hc (fun y hy => by simpa using hgx y (List.mem_append_left _ (mem_rowOf.2 hy))) (hsub w hc (fun y hy => Or.inl hy)), hl.2.2.chg hc (fun y hy => by simpa using hgx y (List.mem_append_right _ (mem_rowOf.2 hy))) (hsub w hc (fun y hy => Or.inl hy))⟩

/-- At the head of a round of prefix. -/
def PrefixI (R : Nat × List Lvl × Lvl) (toks : List Tok) (ta : Option Addr) (tn tc : Nat) (w0 w : World) (bp : Nat) (M X : List Nat) (m : Nat) (_ : Value) (wr : World) : Prop :=
  ∃ k li t M', PS toks ta tn tc w0 wr bp k li t M' X ∧ Chg M w wr ∧ (∀ y ∈ M', y ∈ M ∨ w.heap.size ≤ y) ∧ m = tn - k ∧ prefixF toks (tn - k + 1) k li t = R

set_option maxRecDepth 100000 in
set_option maxHeartbeats 4000000 in
theorem prefix_calls {toks : List Tok} {ta : Option Addr} {tn tc : Nat} {w0 w : World} {bp k : Nat} {li : List Lvl} {t : Lvl} {M X : List Nat} (h : PS toks ta tn tc w0 w bp k li t M X) (ho : HasOps w0) :
    Calls Tryz.prog 38 #[.pointer (some ⟨bp, 0, none⟩)] w (PrefixQ (prefixF toks (tn - k + 1) k li t) toks ta tn tc w0 w bp M X) := by
  obtain ⟨R, hR⟩ : ∃ R, R = prefixF toks (tn - k + 1) k li t := ⟨_, rfl⟩
  rw [← hR]
  have HS := Lib.hid h
  have HO := Lib.hid ho
  have HR := Lib.hid hR
  clear h ho hR
  go_enter Tryz.func38, Tryz.ntmps38
  go_wp2_with fail
  go_loopg [2] (tn - k) (PrefixI R toks ta tn tc w0 w bp M X)
  case atStart => exact ⟨k, li, t, M, HS.out, Chg.refl _ _, fun y hy => Or.inl hy, rfl, HR.out.symm⟩
  case round =>
    clear HS HR
    obtain ⟨k1, l1, t1, M1, ⟨vl, l, x, hI, hll⟩, hc, hMM, hm, hpf⟩ := hrel
    have HI := Lib.hid hI
    have HC := Lib.hid hc
    have HMM := Lib.hid hMM
    have HM := Lib.hid hm
    have HPF := Lib.hid hpf
    have hsm := hI.small
    have hkt := hI.pc.hk
    have hcn := hI.cnt
    have hbM : bp ∈ M1 := by rw [hI.hM]; simp
    clear hI hc hMM hm hpf
    obtain ⟨o1, o2, o4, o5, o6, o7, o8, olt⟩ := opsAt HO.out HI.out.pc.hx
    cases h1 : acceptB toks k1 1 wNot
    · cases h2 : acceptB toks k1 4 ⟨#[40]⟩
      · have H := Lib.hid (show R = (k1, l1, t1) by rw [← HPF.out, prefixF, if_neg (by simp [h1]), if_neg (by simp [h2])])
        have H1 := Lib.hid h1
        have H2 := Lib.hid h2
        clear h1 h2
        go_wp2_with fail
        refine (HI.out.pc.acceptN H1.out).mono ?_
        rintro r w1 ⟨rfl, hc1, hp1⟩
        have HC1 := Lib.hid hc1
        have HP1 := Lib.hid hp1
        clear hc1 hp1 o1 o2 o4 o5 o6 o7 o8 olt
        go_wp2_with fail
        refine (HP1.out.acceptN H2.out).mono ?_
        rintro r w2 ⟨rfl, hc2, hp2⟩
        have HC2 := Lib.hid (HC1.out.then hc2)
        have HP2 := Lib.hid hp2
        clear hc2 hp2
        go_wp2_with fail
        go_end0
        rw [H.out]
        exact ⟨rfl, M1, ⟨vl, l, x, HI.out.step HC2.out HP2.out (by omega), hll⟩, HC.out.trans HC2.out (by simpa using HMM.out bp hbM), HMM.out⟩
      · have hklt := accept_lt HI.out.pc h2
        have H := Lib.hid (show prefixF toks (tn - (k1 + 1) + 1) (k1 + 1) (l1 ++ [t1]) lvl0 = R by
          have := HPF.out
          rw [prefixF, if_neg (by simp [h1]), if_pos h2] at this
          rw [show tn - (k1 + 1) + 1 = tn - k1 by omega]
          exact this)
        have H1 := Lib.hid h1
        have H2 := Lib.hid h2
        clear h1 h2
        go_wp2_with fail
        refine (HI.out.pc.acceptN H1.out).mono ?_
        rintro r w1 ⟨rfl, hc1, hp1⟩
        have HC1 := Lib.hid hc1
        have HP1 := Lib.hid hp1
        clear hc1 hp1 o1 o2 o4 o5 o6 o7 o8 olt
        go_wp2_with fail
        refine (HP1.out.acceptY H2.out).mono ?_
        rintro r w2 ⟨rfl, hc2, hp2⟩
        have HC2 := Lib.hid (HC1.out.then hc2)
        have hI2 := Lib.hid (HI.out.step HC2.out hp2 (by omega))
        clear hc2 hp2 HP1 HC1
        obtain ⟨g, cap, rfl, hgM, hgb, hg0, hgw, -, -, -, -, hl6⟩ := hI2.out.at
        obtain ⟨c0, c1, c2, cf, hbw⟩ := hI2.out.pc.cells
        have hown := hI2.out.own
        rw [List.length_append, List.length_singleton] at hown
        have HOW := Lib.hid hown
        have hb0 := hI2.out.pc.hx.size
        clear hown
        go_wp2_with (at_builtin; refine wpList_append2 elemLevel rfl _ _ rfl w0.heap.size _ _ _ rfl HOW.out _ 1 1 rfl ?c0 rfl ?c1 (by omega) ?c2 (by omega) ?c4 ?_)
        case c0 => simp
        case c1 => simp [Value.oneCell']
        case c2 => omega
        case c4 => omega
        intro g6 cap6 w6 ho6 hg6 hl6' hlt6
        have hne : some bp ≠ Value.ownBlock (.slice (some ⟨g, 0, none⟩) (l.length + 1) cap) := fun e => hgb (by simpa [Value.ownBlock] using e.symm)
        have e1 : w6.cell? ⟨bp, 2, none⟩ = some (.slice (some ⟨g, 0, none⟩) (l.length + 1) cap) := hg6.cell (((Ext.refl w2).alloc _).cell c2) hne
        have e2 : w6.frozen? ⟨bp, 2, none⟩ = false := by
          rw [World.frozen?_of_block (hg6.block bp (by simp; omega) hne)]; exact (((Ext.refl w2).alloc _).frozen c2).trans (cf _)
        have HG6 := Lib.hid hg6
        have HL6 := Lib.hid hl6'
        have HLT := Lib.hid hlt6
        have HO6 := Lib.hid ho6
        clear hg6 hl6' hlt6 ho6 c0 c1 c2 cf hne
        go_wp2_with fail
        go_roundg (tn - (k1 + 1))
        case measure => have := HM.out; omega
        case rel =>
          have e3 : (l ++ [x]).length = l.length + 1 := by simp
          obtain ⟨M', h1, h2, h3⟩ := hI2.out.push (g6 := g6) (cap6 := cap6) (w6 := w6) (by rw [e3, flatMap_snoc, List.append_assoc]; exact HO6.out) HG6.out HL6.out HLT.out (by simpa using hcn)
          rw [e3] at h1 h2
          refine ⟨k1 + 1, l1 ++ [t1], lvl0, M', ⟨_, l ++ [x], lvlV0, h1, by simp [hll]⟩, (HC.out.trans HC2.out (by simpa using HMM.out bp hbM)).trans h2 HMM.out, fun y hy => ?_, rfl, H.out⟩
          rcases h3 y hy with h | h
          · exact HMM.out y h
          · exact Or.inr (Nat.le_trans (HC.out.trans HC2.out (by simpa using HMM.out bp hbM)).size h)
    · have hklt := accept_lt HI.out.pc h1
      have H := Lib.hid (show prefixF toks (tn - (k1 + 1) + 1) (k1 + 1) l1 ⟨t1.nots + 1, t1.ands, t1.ors⟩ = R by
        have := HPF.out
        rw [prefixF, if_pos h1] at this
        rw [show tn - (k1 + 1) + 1 = tn - k1 by omega]
        exact this)
      have H1 := Lib.hid h1
      clear h1
      go_wp2_with fail
      refine (HI.out.pc.acceptY H1.out).mono ?_
      rintro r w1 ⟨rfl, hc1, hp1⟩
      have HC1 := Lib.hid hc1
      have hI1 := Lib.hid (HI.out.step hc1 hp1 (by omega))
      clear hc1 hp1 o1 o2 o4 o5 o6 o7 o8 olt
      obtain ⟨g, cap, rfl, hgM, hgb, hg0, hgw, -, -, -, -, hl6⟩ := hI1.out.at
      go_wp2_with fail
      refine (top_calls' g l.length cap bp _ hI1.out.pc.cells.2.2.1 hl6).mono ?_
      rintro r w2 ⟨rfl, hx2⟩
      have hI2 := Lib.hid (hI1.out.ext hx2)
      have HC2 := Lib.hid (HC1.out.then (hx2.chg _))
      clear hx2 hI1 HC1
      obtain ⟨g', cap', e1, -, -, -, hgw2, c0, -, -, cf, -⟩ := hI2.out.at
      simp only [Value.slice.injEq, Option.some.injEq, Addr.mk.injEq, and_true, true_and] at e1
      obtain ⟨rfl, rfl⟩ := e1
      have hxn : x.nots = t1.nots := (hI2.out.lastR hll).1
      rw [hxn] at c0
      have hpt := HI.out.pot
      have hnb : t1.nots ≤ 2 * k1 := by rw [potAll_snoc] at hpt; unfold Lvl.pot at hpt; omega
      have HPT := Lib.hid hpt
      clear hxn hpt
      go_wp2_with fail
      go_roundg (tn - (k1 + 1))
      case measure => have := HM.out; omega
      case rel =>
        obtain ⟨x', M', h1, h2, h3⟩ := hI2.out.inc hll (t1.nots + 1) (by
          have := HPT.out
          rw [potAll_snoc] at this ⊢
          unfold Lvl.pot at this ⊢
          simp only
          omega)
        refine ⟨k1 + 1, l1, ⟨t1.nots + 1, t1.ands, t1.ors⟩, M', ⟨_, l, x', h1, hll⟩, (HC.out.trans HC2.out (by simpa using HMM.out bp hbM)).trans h2 HMM.out, fun y hy => ?_, rfl, H.out⟩
        rcases h3 y hy with h | h
        · exact HMM.out y h
        · exact Or.inr (Nat.le_trans (HC.out.trans HC2.out (by simpa using HMM.out bp hbM)).size h)
end Go.Proofs.YtaepiiediblleaaGreatDoor

namespace Go.Proofs.YtaepiiediblleaaGreatDoor
open Go.RowKit

/-- What closed hands back: the last level's part; the other levels stay. -/
def ClosedQ (q : Part) (toks : List Tok) (ta : Option Addr) (tn tc : Nat) (w0 w : World) (bp k : Nat) (li : List Lvl) (l : List LvlV) (M X : List Nat) (e : Ending) (w' : World) : Prop :=
  ∃ (v : PartV) (vl' : Value) (M' : List Nat), e = .returned v.val ∧ PI toks ta tn tc w0 w' bp k vl' li l M' (X ++ M') ∧ PartR (mask w' (X ++ M')) q v ∧ Chg M w w' ∧ ∀ y ∈ M', y ∈ M

theorem potAll_le {li : List Lvl} {t : Lvl} {n : Nat} (h : potAll (li ++ [t]) ≤ n) : potAll li ≤ n := by rw [potAll_snoc] at h; omega

/-- The last level is dropped. -/
theorem PI.pop {toks : List Tok} {ta : Option Addr} {tn tc : Nat} {w0 w : World} {bp k g cap : Nat} {li : List Lvl} {t : Lvl} {l : List LvlV} {x : LvlV} {M K : List Nat} (h : PI toks ta tn tc w0 w bp k (.slice (some ⟨g, 0, none⟩) (l.length + 1) cap) (li ++ [t]) (l ++ [x]) M K) (hll : li.length = l.length) :
    PI toks ta tn tc w0 (w.setCell ⟨bp, 2, none⟩ (.slice (some ⟨g, 0, none⟩) l.length cap)) bp k (.slice (some ⟨g, 0, none⟩) l.length cap) li l (bp :: ([g] ++ l.flatMap LvlV.rows)) K := by
  have hbM : bp ∈ M := by rw [h.hM]; simp
  have hnd := h.nd
  rw [h.hM, rows_snoc] at hnd
  have hc : Chg [bp] w (w.setCell ⟨bp, 2, none⟩ (.slice (some ⟨g, 0, none⟩) l.length cap)) := (Chg.refl [bp] w).setCell (Or.inl (by simp)) _
  have hsub : Sub (mask w K) (mask (w.setCell ⟨bp, 2, none⟩ (.slice (some ⟨g, 0, none⟩) l.length cap)) K) := mask_sub_mask fun y hy hn => ⟨hn, hc.block y hy (by simp; intro e; subst e; exact hn (h.hK _ hbM))⟩
  have hgb : g ≠ bp := by
    intro e
    rw [e] at hnd
    simp [rowOf, Value.ownBlock] at hnd
  have hM' : ∀ y ∈ bp :: ([g] ++ l.flatMap LvlV.rows), y ∈ M := by
    intro y hy
    rw [h.hM, rows_snoc]
    rcases List.mem_cons.1 hy with rfl | hy
    · simp
    · rcases List.mem_append.1 hy with hy | hy
      · simp at hy; subst hy; simp [rowOf, Value.ownBlock]
      · exact List.mem_cons_of_mem _ (List.mem_append_right _ (List.mem_append_left _ hy))
  refine ⟨h.pc.step hc ?_ h.pc.hk, ?_, hll, ?_, rfl, ?_, fun y hy => h.hK y (hM' y hy), ?_, potAll_le h.pot, ?_, fun z hz => h.tidy z (List.mem_append_left _ hz), h.small⟩
  · exact heap_setCell_same w bp 2 _ _ (.slice (some ⟨g, 0, none⟩) l.length cap) h.pc.hb
  · rcases h.own.2 with ⟨h', _⟩ | ⟨g2, cap2, cur, h', hb, hg, hle, hmx, hsz, htk⟩
    · simp at h'
    · simp only [Value.slice.injEq, Option.some.injEq, Addr.mk.injEq, and_true] at h'
      obtain ⟨rfl, -, rfl⟩ := h'
      have hl3 := length_flatMap_of LvlV.cells 3 (fun _ => rfl) l
      refine ⟨hl3, .inr ⟨g, cap, cur, rfl, hb, (heap_setCell_other _ _ _ _ (by simpa using hgb)).trans hg, by simp at hle; omega, hmx, hsz, ?_⟩⟩
      rw [flatMap_snoc] at htk
      have e1 : (cur.toList.take ((l ++ [x]).length * 3)).take (l.length * 3) = cur.toList.take (l.length * 3) := by
        rw [List.take_take]
        congr 1
        simp only [List.length_append, List.length_singleton]
        omega
      rw [← e1, htk, List.take_append_of_le_length (by omega), List.take_of_length_le (by omega)]
  · intro i h1 h2
    have := h.lvl i (by simp; omega) (by simp; omega)
    simp only [List.getElem_append_left h1, List.getElem_append_left h2] at this
    refine this.chg hc (fun y hy h' => ?_) hsub
    simp at h'
    subst h'
    rw [List.nodup_cons] at hnd
    exact hnd.1 (List.mem_append_right _ (List.mem_append_left _ (List.mem_flatMap.2 ⟨l[i], List.getElem_mem h2, hy⟩)))
  · rw [show bp :: (rowOf (.slice (some ⟨g, 0, none⟩) (l.length + 1) cap) ++ (l.flatMap LvlV.rows ++ x.rows)) = (bp :: ([g] ++ l.flatMap LvlV.rows)) ++ x.rows by simp [rowOf, Value.ownBlock]] at hnd
    rw [List.nodup_append] at hnd
    exact hnd.1
  · intro y hy
    have := h.hKlt y hy
    simpa using this
  · have := h.cnt
    simp at this
    omega

theorem tidy_snoc {l : List Part} {q : Part} (h : Tidy l) (hq : q.depth ≤ q.size) : Tidy (l ++ [q]) := fun z hz => by
  rcases List.mem_append.1 hz with hz | hz
  · exact h z hz
  · simp at hz; subst hz; exact hq

/-- The second call of joined. -/
theorem closed_join {w2 w4 w6 : World} {K : List Nat} {ors : List Part} {vos : List PartV} {q : Part} {vq : PartV} {o : Obj} {vo : Value} {base g6 cap6 : Nat} (hpo : PartsR (mask w2 K) ors vos) (hx4 : Ext w2 w4) (hq : PartR (mask w4 K) q vq)
    (ho6 : w6.ownsRow base 56 8 (.slice (some ⟨g6, 0, none⟩) (ors.length + 1) cap6) (ors.length + 1) (vos.flatMap PartV.cells ++ vq.cells)) (hg6 : (w4.alloc o).grownBy w6 vo.ownBlock) (hvo : ∀ y, vo.ownBlock = some y → y ∈ K) (hK : ∀ y ∈ K, y < w2.heap.size)
    (ht : Tidy ors) (hqt : q.depth ≤ q.size) (hs : sumSize ors + q.size ≤ 100000000) (hn : ors.length ≤ 100000000) :
    Calls Tryz.prog 81 #[.int .i64 8, .slice (some ⟨g6, 0, none⟩) (ors.length + 1) cap6] w6 (PartQ (joinedF 8 (ors ++ [q])) K w6) := by
  have hs4 := hx4.size
  have hs6 := hg6.size
  simp at hs6
  have hsub : ∀ wx, Ext wx w4 → Sub (mask wx K) (mask w6 K) := fun wx hx => mask_sub_mask fun y hy hn => ⟨hn, (((hx.chg (rowOf vo)).alloc o).grown hg6 (fun y hy => Or.inl (mem_rowOf.2 hy))).block y hy (fun h => hn (hvo y (mem_rowOf.1 h)))⟩
  have e1 : (vos ++ [vq]).flatMap PartV.cells = vos.flatMap PartV.cells ++ vq.cells := by simp
  have e2 : (vos ++ [vq]).length = ors.length + 1 := by simp [hpo.1]
  rw [← e1, ← e2] at ho6
  obtain ⟨a, c, e3, hr⟩ := IsRows.of_owns (f := PartV.cells) (fun _ => rfl) ho6
  simp only [Value.slice.injEq, true_and] at e3
  obtain ⟨rfl, rfl⟩ := e3
  rw [e2] at hr
  exact joined_calls 8 (ors ++ [q]) (vos ++ [vq]) _ (ors.length + 1) cap6 K w6 hr ((hpo.mono (hsub w2 hx4)).snoc (hq.mono (hsub w4 (Ext.refl _)))) (fun y hy => by have := hK y hy; omega) (tidy_snoc ht hqt) (by rw [sumSize_append]; simp only [sumSize]; omega) (by omega)

/-- The state behind closed. -/
theorem closed_fin {toks : List Tok} {ta : Option Addr} {tn tc : Nat} {w0 w w2 w8 W : World} {bp k g cap br bt : Nat} {li : List Lvl} {l : List LvlV} {M X : List Nat} {vo : Value} {q : Part} {v : PartV}
    (h3 : PI toks ta tn tc w0 w2 bp k (.slice (some ⟨g, 0, none⟩) l.length cap) li l (bp :: ([g] ++ l.flatMap LvlV.rows)) (br :: bt :: (X ++ M))) (hM' : ∀ y ∈ bp :: ([g] ++ l.flatMap LvlV.rows), y ∈ M) (hbr : w.heap.size ≤ br) (hw0 : w0.heap.size ≤ w.heap.size)
    (hMlt : ∀ y ∈ M, y < w.heap.size) (hM0 : ∀ y, vo.ownBlock = some y → y ∈ M ∧ w0.heap.size ≤ y ∧ y ∉ bp :: ([g] ++ l.flatMap LvlV.rows)) (hcw : Chg [bp] w w2) (hbM : bp ∈ M) (hc8 : Chg (rowOf vo) w2 w8) (hcW : Chg [br] w8 W) (hq : PartR (mask w8 (br :: bt :: (X ++ M))) q v) :
    PI toks ta tn tc w0 W bp k (.slice (some ⟨g, 0, none⟩) l.length cap) li l (bp :: ([g] ++ l.flatMap LvlV.rows)) (X ++ (bp :: ([g] ++ l.flatMap LvlV.rows))) ∧ PartR (mask W (X ++ (bp :: ([g] ++ l.flatMap LvlV.rows)))) q v ∧ Chg M w W := by
  have hcc : Chg (br :: rowOf vo) w2 W := (hc8.mono (fun y hy => List.mem_cons_of_mem _ hy)).then (hcW.mono (by simp))
  have hNK : ∀ y ∈ br :: rowOf vo, y ∈ br :: bt :: (X ++ M) := fun y hy => by
    rcases List.mem_cons.1 hy with rfl | hy
    · simp
    · exact List.mem_cons_of_mem _ (List.mem_cons_of_mem _ (List.mem_append_right _ (hM0 y (mem_rowOf.1 hy)).1))
  have hXK : ∀ y, y ∈ X ++ (bp :: ([g] ++ l.flatMap LvlV.rows)) → y ∈ br :: bt :: (X ++ M) := fun y hy => by
    rcases List.mem_append.1 hy with hy | hy
    · exact List.mem_cons_of_mem _ (List.mem_cons_of_mem _ (List.mem_append_left _ hy))
    · exact h3.hK y hy
  refine ⟨h3.chg hcc (fun y hy h => ?_) (fun y hy => ?_) (mask_sub_mask fun y hy hn => ⟨fun h => hn (hXK y h), hcc.block y hy (fun h => hn (hNK y h))⟩) (fun y hy => List.mem_append_right _ hy) (fun y hy => ?_), hq.mono (mask_sub_mask fun y hy hn => ⟨fun h => hn (hXK y h), hcW.block y hy (fun h => hn (by simp at h; subst h; simp))⟩), ?_⟩
  · rcases List.mem_cons.1 h with rfl | h
    · have := hMlt y (hM' y hy); omega
    · exact (hM0 y (mem_rowOf.1 h)).2.2 hy
  · rcases List.mem_cons.1 hy with rfl | hy
    · omega
    · exact (hM0 y (mem_rowOf.1 hy)).2.1
  · have := h3.hKlt y (hXK y hy)
    have := hcc.size
    omega
  · have h1 : Chg M w w2 := hcw.mono (by simpa using hbM)
    refine h1.trans hcc (fun y hy => ?_)
    rcases List.mem_cons.1 hy with rfl | hy
    · exact Or.inr hbr
    · exact Or.inl (hM0 y (mem_rowOf.1 hy)).1

set_option maxRecDepth 100000 in
set_option maxHeartbeats 4000000 in
theorem closed_calls {toks : List Tok} {ta : Option Addr} {tn tc : Nat} {w0 w : World} {bp k : Nat} {vl : Value} {li : List Lvl} {t : Lvl} {l : List LvlV} {x : LvlV} {M X : List Nat} (h : PI toks ta tn tc w0 w bp k vl (li ++ [t]) (l ++ [x]) M (X ++ M)) (hll : li.length = l.length) :
    Calls Tryz.prog 42 #[.pointer (some ⟨bp, 0, none⟩)] w (ClosedQ (joinedF 8 (t.ors ++ [joinedF 7 t.ands])) toks ta tn tc w0 w bp k li l M X) := by
  have HI := Lib.hid h
  have hsm := h.small
  have hkt := h.pc.hk
  obtain ⟨g, cap, rfl, hgM, hgb, hg0, hgw, -, -, -, -, hl6⟩ := h.at
  have hbw := h.pc.cells.2.2.2.2
  have HB := Lib.hid (show ∀ o, Ext w (w.alloc o) from fun o => (Ext.refl w).alloc o)
  clear h
  go_enter Tryz.func42, Tryz.ntmps42
  go_wp2_with fail
  refine (top_calls' g l.length cap bp _ ((HI.out.ext (HB.out _)).pc.cells.2.2.1) hl6).mono ?_
  rintro r w1 ⟨rfl, hx1⟩
  have hE1 := Lib.hid ((HB.out _).trans hx1)
  have hR1 := Lib.hid (hx1.blk (alloc_new w _))
  have hI1 := Lib.hid (HI.out.ext hE1.out)
  clear hx1
  obtain ⟨g', cap', e1, -, -, -, hgw1, c0, c1, c2, cf, -⟩ := hI1.out.at
  simp only [Value.slice.injEq, Option.some.injEq, Addr.mk.injEq, and_true, true_and] at e1
  obtain ⟨rfl, rfl⟩ := e1
  obtain ⟨aa, ca, vas, eva, hra, hpa⟩ := ownParts_rows (hI1.out.lastR hll).2.1
  obtain ⟨oa, oc, ovs, evo, -, -⟩ := ownParts_rows (hI1.out.lastR hll).2.2
  rw [eva] at c1
  rw [evo] at c2
  obtain ⟨f0, f1, f2, ff, hbw1⟩ := hI1.out.pc.cells
  have hcap : l.length + 1 ≤ cap := by
    rcases hI1.out.own.2 with ⟨h', _⟩ | ⟨g2, cap2, cur, h', _, _, hle, _⟩
    · simp at h'
    · simp only [Value.slice.injEq] at h'
      rw [← h'.2.2] at hle
      simpa using hle
  have s1 : (0 : Int) ≤ ((l.length + 1 : Nat) : Int) - 1 := by omega
  have s2 : ((l.length + 1 : Nat) : Int) - 1 ≤ (cap : Int) := by omega
  have s3 : (((l.length + 1 : Nat) : Int) - 1).toNat = l.length := by omega
  have hz1 := blk_lt hR1.out
  go_wp2_with fail
  go_region
  go_wp2_with fail
  clear s1 s2 s3 f0 f1 f2 ff c0 c1 c2 cf hra hpa
  have hMlt : ∀ y ∈ M, y < w.heap.size := fun y hy => HI.out.hKlt y (HI.out.hK y hy)
  have hXlt : ∀ y ∈ X ++ M, y < w.heap.size := HI.out.hKlt
  have hs1 := hE1.out.size
  have hI1' := Lib.hid (show PI toks ta tn tc w0 w1 bp k _ (li ++ [t]) (l ++ [x]) M (w.heap.size :: (X ++ M)) from HI.out.chg (hE1.out.chg []) (by simp) (by simp) (mask_sub_mask fun y hy hn => ⟨by rw [List.mem_cons, not_or]; exact ⟨by omega, hn⟩, hE1.out.block y hy⟩) (fun y hy => List.mem_cons_of_mem _ (HI.out.hK y hy)) (fun y hy => by
    rcases List.mem_cons.1 hy with rfl | hy
    · exact hz1
    · have := hXlt y hy; omega))
  have hI2 := Lib.hid (hI1'.out.pop hll)
  have hC2 := Lib.hid (show Chg [bp] w1 (((w1.setCell ⟨bp, 2, none⟩ (.slice (some ⟨g, 0, none⟩) l.length cap)).alloc (.cells #[.int .i64 x.nots, .slice aa t.ands.length ca, .slice oa t.ors.length oc] 51)).drew) from (((Chg.refl [bp] w1).setCell (Or.inl (by simp)) _).alloc _).drew)
  have hT2 := Lib.hid (show (((w1.setCell ⟨bp, 2, none⟩ (.slice (some ⟨g, 0, none⟩) l.length cap)).alloc (.cells #[.int .i64 x.nots, .slice aa t.ands.length ca, .slice oa t.ors.length oc] 51)).drew).heap[w1.heap.size]? = some (.cells #[.int .i64 x.nots, .slice aa t.ands.length ca, .slice oa t.ors.length oc] 51 (0, 0)) by
    have := alloc_new (w1.setCell ⟨bp, 2, none⟩ (.slice (some ⟨g, 0, none⟩) l.length cap)) (.cells #[.int .i64 x.nots, .slice aa t.ands.length ca, .slice oa t.ors.length oc] 51)
    rw [World.size_setCell] at this
    exact this)
  have hI3 := Lib.hid (hI2.out.chg (K' := w.heap.size :: w1.heap.size :: (X ++ M)) (((((Ext.refl _).alloc (.cells #[.int .i64 x.nots, .slice aa t.ands.length ca, .slice oa t.ors.length oc] 51)).drew)).chg []) (by simp) (by simp) (mask_sub_mask fun y hy hn => ⟨by
      simp only [List.mem_cons, not_or] at hn ⊢
      simp at hy
      exact ⟨hn.1, by omega, hn.2⟩, Below.heap_alloc _ _ _ hy⟩) (fun y hy => by
      have := hI2.out.hK y hy
      simp only [List.mem_cons] at this ⊢
      rcases this with h' | h'
      · exact Or.inl h'
      · exact Or.inr (Or.inr h')) (fun y hy => by
      have h2 : ∀ (A : World) (o : Obj), ((A.alloc o).drew).heap.size = A.heap.size + 1 := fun A o => by simp
      rw [h2, World.size_setCell]
      simp only [List.mem_cons] at hy
      rcases hy with rfl | rfl | hy
      · omega
      · omega
      · have := hXlt y hy; omega))
  clear hI2
  generalize (((w1.setCell ⟨bp, 2, none⟩ (.slice (some ⟨g, 0, none⟩) l.length cap)).alloc (.cells #[.int .i64 x.nots, .slice aa t.ands.length ca, .slice oa t.ors.length oc] 51)).drew) = w2 at *
  -- the state behind the second region
  have hbM : bp ∈ M := by rw [HI.out.hM]; simp
  have hrn := HI.out.rowsNot
  have hz2 := blk_lt hT2.out
  have hCw2 := Lib.hid ((hE1.out.chg [bp]).then hC2.out)
  have hS2 := Lib.hid (show Sub (mask w (X ++ M)) (mask w2 (w.heap.size :: w1.heap.size :: (X ++ M))) from mask_sub_mask fun y hy hn => ⟨by rw [List.mem_cons, List.mem_cons, not_or, not_or]; exact ⟨by omega, by omega, hn⟩, hCw2.out.block y hy (by simp; intro e; subst e; exact hn (List.mem_append_right _ hbM))⟩)
  have d1 := Lib.hid ((HI.out.lastR hll).2.1.chg hCw2.out (fun y hy h' => by simp at h'; subst h'; exact (hrn y (List.mem_append_left _ (mem_rowOf.2 hy))).2.1 rfl) hS2.out)
  have d2 := Lib.hid ((HI.out.lastR hll).2.2.chg hCw2.out (fun y hy h' => by simp at h'; subst h'; exact (hrn y (List.mem_append_right _ (mem_rowOf.2 hy))).2.1 rfl) hS2.out)
  have hR2 := Lib.hid (hC2.out.blk hR1.out (by simp; omega))
  obtain ⟨aa', ca', vas, eva', hra, hpa⟩ := ownParts_rows d1.out
  obtain ⟨rfl, rfl⟩ : aa = aa' ∧ ca = ca' := by
    rw [eva] at eva'
    simp only [Value.slice.injEq, true_and] at eva'
    exact eva'
  obtain ⟨vos, hov, hpo⟩ := d2.out
  have HEVO := Lib.hid evo
  rw [evo] at hov
  have hpot := HI.out.pot
  rw [potAll_snoc] at hpot
  unfold Lvl.pot at hpot
  rw [sumPot_eq, sumPot_eq] at hpot
  have hb1 : sumSize t.ands ≤ 2 * k := by omega
  have hb2 : sumSize t.ors ≤ 2 * k := by omega
  have hb3 : t.ands.length ≤ 2 * k := by omega
  have hb4 : t.ors.length ≤ 2 * k := by omega
  have htd := HI.out.tidy t (by simp)
  have hq7 := joinedF_size 7 t.ands
  have HJ1 := Lib.hid (fun (W : World) (hx : Ext w2 W) => joined_calls 7 t.ands vas aa t.ands.length ca (w.heap.size :: w1.heap.size :: (X ++ M)) W (hra.ext hx) (hpa.mono (mask_ext _ hx)) (fun y hy => Nat.lt_of_lt_of_le (hI3.out.hKlt y hy) hx.size) htd.1 (by omega) (by omega))
  have HOV := Lib.hid hov
  have HPO := Lib.hid hpo
  have HQT := Lib.hid (joinedF_tidy 7 _ htd.1)
  have HVK := Lib.hid (show ∀ y, x.vo.ownBlock = some y → y ∈ M from fun y hy => (hrn y (List.mem_append_right _ (mem_rowOf.2 hy))).2.2)
  have HJ2 := Lib.hid (fun (w4 w6 : World) (vq : PartV) (o : Obj) (g6 cap6 : Nat) (hx4 : Ext w2 w4) (hq : PartR (mask w4 (w.heap.size :: w1.heap.size :: (X ++ M))) (joinedF 7 t.ands) vq) (ho6 : w6.ownsRow w0.heap.size 56 8 (.slice (some ⟨g6, 0, none⟩) (t.ors.length + 1) cap6) (t.ors.length + 1) (vos.flatMap PartV.cells ++ vq.cells)) (hg6 : (w4.alloc o).grownBy w6 (Value.slice oa t.ors.length oc).ownBlock) =>
    closed_join hpo hx4 hq ho6 hg6 (fun y hy => List.mem_cons_of_mem _ (List.mem_cons_of_mem _ (List.mem_append_right _ (HVK.out y (by rw [HEVO.out]; exact hy))))) hI3.out.hKlt htd.2 (joinedF_tidy 7 _ htd.1) (by omega) (by omega))
  obtain ⟨t0, t1, t2, tf⟩ := blk3 hT2.out
  have hsz2 := hI3.out.pc.hx.size
  have hne : ∀ y, (Value.slice oa t.ors.length oc).ownBlock = some y → y < w.heap.size := fun y hy => hMlt y (HVK.out y (by rw [HEVO.out]; exact hy))
  have HNE := Lib.hid hne
  have HTD := Lib.hid htd
  have HRN := Lib.hid hrn
  have HML := Lib.hid hMlt
  have HM1 := Lib.hid (show ∀ y ∈ bp :: ([g] ++ l.flatMap LvlV.rows), y ∈ M from fun y hy => by
    rw [HI.out.hM, rows_snoc]
    rcases List.mem_cons.1 hy with rfl | hy
    · simp
    · rcases List.mem_append.1 hy with hy | hy
      · simp at hy; subst hy; simp [rowOf, Value.ownBlock]
      · exact List.mem_cons_of_mem _ (List.mem_append_right _ (List.mem_append_left _ hy)))
  have HW0 := Lib.hid HI.out.pc.hx.size
  have HM0 := Lib.hid (show ∀ y, x.vo.ownBlock = some y → y ∈ M ∧ w0.heap.size ≤ y ∧ y ∉ bp :: ([g] ++ l.flatMap LvlV.rows) from fun y hy => by
    obtain ⟨_, ho1, _⟩ := (HI.out.lastR hll).2.2
    refine ⟨HVK.out y hy, (ho1.lt y hy).1, fun h => ?_⟩
    have hnd := HI.out.nd
    rw [HI.out.hM, rows_snoc, show bp :: (rowOf (.slice (some ⟨g, 0, none⟩) (l.length + 1) cap) ++ (l.flatMap LvlV.rows ++ x.rows)) = (bp :: ([g] ++ l.flatMap LvlV.rows)) ++ x.rows by simp [rowOf, Value.ownBlock], List.nodup_append] at hnd
    exact hnd.2.2 y h y (List.mem_append_right _ (mem_rowOf.2 hy)) rfl)
  clear hra hpa hov hpo hpot htd hne hrn hMlt eva evo eva' d1 d2 hq7
  go_region_law (first
    | (refine step_append1 info_part rfl _ _ rfl w0.heap.size _ t.ors.length _ rfl _ 1 1 vq.cells rfl rfl (by simp [PartV.cells, Value.oneCell']) (by omega) (by omega) (by omega) (w4.heap.size + 1) (owns_ext HOV.out (hEx4.alloc _)) (by intro j hj; rw [World.cell?_alloc_at _ _ _ _ rfl]; simp [PartV.cells]) (by simp; omega) (by simp) ?_; intro g6 cap6 w6 ho6 hg6 hl6' hlt6)
    | (go_simp; go_at_call 81; ((with_reducible refine (HJ1.out _ (Ext.drew (Ext.refl w2))).mono ?_); rintro r w4 ⟨vq, rfl, hvq, hx4⟩); have hEx4 : Ext w2 w4 := (Ext.drew (Ext.refl w2)).trans hx4; have u2 : w4.cell? ⟨w1.heap.size, 2, none⟩ = some (.slice oa t.ors.length oc) := hEx4.cell t2; have hz4 := hEx4.size; have hg4 : w1.heap.size < w4.heap.size := (by omega); unfold PartV.val)
    | (go_simp; go_at_call 81; ((with_reducible refine (HJ2.out w4 w6 vq _ g6 cap6 hEx4 hvq ho6 hg6).mono ?_); rintro r w8 ⟨v8, rfl, hv8, hx8⟩); have hc8 : Chg (rowOf (Value.slice oa t.ors.length oc)) w2 w8 := (((hEx4.chg (rowOf (Value.slice oa t.ors.length oc))).alloc _).grown hg6 (fun y hy => Or.inl (mem_rowOf.2 hy))).then (hx8.chg _); obtain ⟨p0, p1, p2, p3, p4, p5, p6, p7, pf⟩ := blk8 (hc8.blk hR2.out (fun h => Nat.lt_irrefl _ (HNE.out _ (mem_rowOf.1 h)))); unfold PartV.val))
  all_goals
    have HC8 := Lib.hid hc8
    have HV8 := Lib.hid hv8
    clear hc8 hv8
    go_wp2_with fail
    rw [← HEVO.out] at HC8
    refine bodyPost_ret (v := v8.val) (by simp [results, Tryz.results42, go_sem, PartV.val, p0, p1, p2, p3, p4, p5, p6, p7]) rfl ⟨v8, .slice (some ⟨g, 0, none⟩) l.length cap, bp :: ([g] ++ l.flatMap LvlV.rows), rfl, ?_⟩
    have key := fun (W : World) (hcW : Chg [w.heap.size] w8 W) => closed_fin hI3.out HM1.out (Nat.le_refl _) HW0.out HML.out HM0.out hCw2.out hbM HC8.out hcW HV8.out
    refine (fun h => ⟨h.1, h.2.1, h.2.2, HM1.out⟩) (key _ ?_)
    repeat (with_reducible (refine Chg.setCell ?_ ?_ _))
    exact Chg.refl _ _
    all_goals (refine Or.inl ?_; simp)
end Go.Proofs.YtaepiiediblleaaGreatDoor
