import Derived.Test.YtaepiiediblleaaDoorLevel4
namespace Go.Proofs.YtaepiiediblleaaDoor
open Go.RowKit

theorem joinedF_size (op : Int) (l : List Part) : (joinedF op l).size ≤ 1 + sumSize l := by
  match l with
  | [] => simp [joinedF, composedF, sumSize, maxDepth]
  | [p] => simp [joinedF, sumSize]
  | a :: b :: r => simp only [joinedF, composedF]; split <;> simp
theorem maxDepth_all {l : List Part} (h : Tidy l) : maxDepth l ≤ sumSize l := by
  have := maxDepth_le h l.length
  rwa [List.take_length] at this
theorem joinedF_tidy (op : Int) (l : List Part) (h : Tidy l) : (joinedF op l).depth ≤ (joinedF op l).size := by
  have hm := maxDepth_all h
  match l, h with
  | [], _ => simp [joinedF, composedF, sumSize, maxDepth]
  | [p], h => exact h p (by simp)
  | a :: b :: r, _ => simp only [joinedF, composedF]; split <;> simp <;> omega

theorem another_fin {toks : List Tok} {ta : Option Addr} {tn tc : Nat} {w0 w3 w4 w6 : World} {bp k g cap : Nat} {li : List Lvl} {t : Lvl} {l : List LvlV} {x : LvlV} {M X : List Nat} {o : Obj} {vos : List PartV} {vq : PartV} {q : Part} {g6 cap6 : Nat}
    (h : PI toks ta tn tc w0 w3 bp k (.slice (some ⟨g, 0, none⟩) (l.length + 1) cap) (li ++ [t]) (l ++ [x]) M (X ++ M)) (hll : li.length = l.length) (hx4 : Ext w3 w4) (hpo : PartsR (mask w3 (X ++ M)) t.ors vos)
    (ho6 : w6.ownsRow w0.heap.size 96 8 (.slice (some ⟨g6, 0, none⟩) (t.ors.length + 1) cap6) (t.ors.length + 1) (vos.flatMap PartV.cells ++ vq.cells))
    (hg6 : (w4.alloc o).grownBy w6 x.vo.ownBlock) (hl6 : x.vo.ownBlock = some g6 ∨ g6 = w4.heap.size + 1) (hlt6 : g6 < w6.heap.size)
    (hq : PartR (mask w4 (X ++ M)) q vq) (hqt : q.depth ≤ q.size) (hpot : potAll (li ++ [⟨t.nots, [], t.ors ++ [q]⟩]) ≤ 2 * k) :
    ∃ x' M', PI toks ta tn tc w0 ((w6.setCell ⟨g, l.length * 3 + 2, none⟩ (.slice (some ⟨g6, 0, none⟩) (t.ors.length + 1) cap6)).setCell ⟨g, l.length * 3 + 1, none⟩ (.slice none 0 0)) bp k (.slice (some ⟨g, 0, none⟩) (l.length + 1) cap) (li ++ [⟨t.nots, [], t.ors ++ [q]⟩]) (l ++ [x']) M' (X ++ M') ∧
      Chg M w3 ((w6.setCell ⟨g, l.length * 3 + 2, none⟩ (.slice (some ⟨g6, 0, none⟩) (t.ors.length + 1) cap6)).setCell ⟨g, l.length * 3 + 1, none⟩ (.slice none 0 0)) ∧ ∀ y ∈ M', y ∈ M ∨ w3.heap.size ≤ y := by
  have hrn := h.rowsNot
  have hvo : ∀ y, x.vo.ownBlock = some y → y ∈ x.rows := fun y hy => List.mem_append_right _ (mem_rowOf.2 hy)
  have hgx : ∀ y ∈ x.rows, y ≠ g := fun y hy e => (hrn y hy).1 (by subst e; simp [rowOf, Value.ownBlock])
  have hgl : g < w3.heap.size := h.hKlt g (h.hK g (by rw [h.hM]; simp [rowOf, Value.ownBlock]))
  have hs4 := hx4.size
  have hg6x : g6 ≠ g := by
    rcases hl6 with h' | h'
    · exact hgx _ (hvo _ h')
    · omega
  have hc46 : ∀ wx, Ext wx w4 → Chg (g :: rowOf x.vo) wx w6 := fun wx hx => ((hx.chg (g :: rowOf x.vo)).alloc o).grown hg6 (fun y hy => Or.inl (List.mem_cons_of_mem _ (mem_rowOf.2 hy)))
  have hc7 : ∀ wx, Ext wx w4 → Chg (g :: rowOf x.vo) wx ((w6.setCell ⟨g, l.length * 3 + 2, none⟩ (.slice (some ⟨g6, 0, none⟩) (t.ors.length + 1) cap6)).setCell ⟨g, l.length * 3 + 1, none⟩ (.slice none 0 0)) := fun wx hx => ((hc46 wx hx).setCell (Or.inl (by simp)) _).setCell (Or.inl (by simp)) _
  have hx'r : (LvlV.mk x.nots (.slice none 0 0) (.slice (some ⟨g6, 0, none⟩) (t.ors.length + 1) cap6)).rows = [g6] := rfl
  refine ⟨LvlV.mk x.nots (.slice none 0 0) (.slice (some ⟨g6, 0, none⟩) (t.ors.length + 1) cap6), h.finish (N := g :: rowOf x.vo) X (fun y hy => List.mem_append_left _ hy) hll ?_ (hc7 w3 hx4) ?_ ?_ ?_ (by rw [hx'r]; simp) ?_ hpot ?_⟩
  · intro y hy
    rcases List.mem_cons.1 hy with rfl | hy
    · exact Or.inl rfl
    · exact Or.inr (hvo y (mem_rowOf.1 hy))
  · have hown := h.own
    rw [List.length_append, List.length_singleton] at hown
    have h1 : w6.ownsRow w0.heap.size 91 3 (.slice (some ⟨g, 0, none⟩) (l.length + 1) cap) (l.length + 1) ((l ++ [x]).flatMap LvlV.cells) :=
      owns_chg hown (((hx4.chg (rowOf x.vo)).alloc o).grown hg6 (fun y hy => Or.inl (mem_rowOf.2 hy))) (fun y hy h' => by
        simp [Value.ownBlock] at hy; subst hy
        exact hgx g (hvo g (mem_rowOf.1 h')) rfl)
    have h2 := ((h1.stored (l.length * 3 + 2) (.slice (some ⟨g6, 0, none⟩) (t.ors.length + 1) cap6)).1.stored (l.length * 3 + 1) (.slice none 0 0)).1
    rw [flatMap_snoc, set_tail, set_tail] at h2
    exact h2
  · intro y hy
    rw [hx'r] at hy
    simp at hy
    subst hy
    rcases hl6 with h' | h'
    · exact Or.inl (hvo _ h')
    · exact Or.inr (by omega)
  · intro y hy
    rw [hx'r] at hy
    simp at hy
    subst hy
    simpa using hlt6
  · intro M' hsub
    refine ⟨(h.lastR hll).1, ⟨[], World.ownsRow_nil _ _ _ _, rfl, fun i hi => by simp at hi⟩, ⟨vos ++ [vq], ?_, (hpo.mono (hsub w3 (hc7 w3 hx4) ?_)).snoc (hq.mono (hsub w4 (hc7 w4 (Ext.refl _)) ?_))⟩⟩
    · have := owns_chg ho6 (((Chg.refl [g] w6).setCell (p := ⟨g, l.length * 3 + 2, none⟩) (Or.inl (by simp)) (.slice (some ⟨g6, 0, none⟩) (t.ors.length + 1) cap6)).setCell (p := ⟨g, l.length * 3 + 1, none⟩) (Or.inl (by simp)) (.slice none 0 0)) (fun y hy => by simp [Value.ownBlock] at hy; subst hy; simpa using hg6x)
      simpa using this
    · intro y hy
      rw [hx'r] at hy
      simp at hy
      subst hy
      rcases hl6 with h' | h'
      · exact Or.inl (hvo _ h')
      · exact Or.inr (by omega)
    · intro y hy
      rw [hx'r] at hy
      simp at hy
      subst hy
      rcases hl6 with h' | h'
      · exact Or.inl (hvo _ h')
      · exact Or.inr (by omega)
  · refine ⟨fun z hz => by simp at hz, fun z hz => ?_⟩
    rcases List.mem_append.1 hz with hz | hz
    · exact (h.tidy t (by simp)).2 z hz
    · simp at hz; subst hz; exact hqt

set_option maxRecDepth 100000 in
set_option maxHeartbeats 4000000 in
theorem another_or {toks : List Tok} {ta : Option Addr} {tn tc : Nat} {w0 w : World} {bp k : Nat} {vl : Value} {li : List Lvl} {t : Lvl} {l : List LvlV} {x : LvlV} {M X : List Nat} (h : PI toks ta tn tc w0 w bp k vl (li ++ [t]) (l ++ [x]) M (X ++ M)) (hll : li.length = l.length) (ho : HasOps w0) (h1 : acceptB toks k 1 wAnd = false) (h2 : acceptB toks k 1 wOr = true) (hne : t.ands ≠ []) :
    Calls Tryd.prog 79 #[.pointer (some ⟨bp, 0, none⟩)] w (AnotherQ true (k + 1) ⟨t.nots, [], t.ors ++ [joinedF 7 t.ands]⟩ toks ta tn tc w0 w bp vl li l M X) := by
  have HI := Lib.hid h
  have H1 := Lib.hid h1
  have H2 := Lib.hid h2
  have HO := Lib.hid ho
  have hsm := h.small
  have hkt := h.pc.hk
  obtain ⟨o1, o2, o4, o5, o6, o7, o8, olt⟩ := opsAt ho h.pc.hx
  have hbM : bp ∈ M := by rw [h.hM]; simp
  clear h ho h1 h2
  go_enter Tryd.func79, Tryd.ntmps79
  go_wp2_with fail
  refine (HI.out.pc.acceptN H1.out).mono ?_
  rintro r w1 ⟨rfl, hc1, hp1⟩
  have HC1 := Lib.hid hc1
  have HP1 := Lib.hid hp1
  clear hc1 hp1 o1 o2 o4 o5 o6 o7 o8 olt
  obtain ⟨o1, o2, o4, o5, o6, o7, o8, olt⟩ := opsAt HO.out HP1.out.hx
  go_wp2_with fail
  refine (HP1.out.acceptY H2.out).mono ?_
  rintro r w2 ⟨rfl, hc2, hp2⟩
  have HC2 := Lib.hid (HC1.out.then hc2)
  have hI2 := Lib.hid (HI.out.step HC2.out hp2 (by omega))
  clear hc2 hp2 o1 o2 o4 o5 o6 o7 o8 olt HC1 HP1
  obtain ⟨g, cap, rfl, hgM, hgb, hg0, hgw, -, -, -, -, hl6⟩ := hI2.out.at
  go_wp2_with fail
  refine (top_calls' g l.length cap bp _ hI2.out.pc.cells.2.2.1 hl6).mono ?_
  rintro r w3 ⟨rfl, hx3⟩
  have hI3 := Lib.hid (hI2.out.ext hx3)
  have HC3 := Lib.hid (HC2.out.then (hx3.chg _))
  clear hx3 hI2 HC2
  obtain ⟨g', cap', e1, -, -, -, hgw3, -, c1, c2, cf, -⟩ := hI3.out.at
  simp only [Value.slice.injEq, Option.some.injEq, Addr.mk.injEq, and_true, true_and] at e1
  obtain ⟨rfl, rfl⟩ := e1
  obtain ⟨aa, ca, vas, eva, hra, hpa⟩ := ownParts_rows (hI3.out.lastR hll).2.1
  obtain ⟨vos, hov, hpo⟩ := (hI3.out.lastR hll).2.2
  obtain ⟨oa, oc, ovs, evo, -, -⟩ := ownParts_rows (hI3.out.lastR hll).2.2
  have hb3 := hI3.out.pc.hx.size
  have hpot := hI3.out.pot
  rw [potAll_snoc] at hpot
  unfold Lvl.pot at hpot
  rw [sumPot_eq, sumPot_eq] at hpot
  have hlen1 : t.ands.length ≤ 2 * (k + 1) := by omega
  have hlen2 : t.ors.length ≤ 2 * (k + 1) := by omega
  have hsum1 : sumSize t.ands ≤ 2 * (k + 1) := by omega
  have htd := (hI3.out.tidy t (by simp)).1
  have HJ := Lib.hid (fun (W : World) (hx : Ext w3 W) => joined_calls 7 t.ands vas aa t.ands.length ca (X ++ M) W (hra.ext hx) (hpa.mono (mask_ext _ hx)) (fun y hy => Nat.lt_of_lt_of_le (hI3.out.hKlt y hy) hx.size) htd (by omega) (by omega))
  have hgx : ∀ y ∈ x.rows, y ≠ g := fun y hy e => (hI3.out.rowsNot y hy).1 (by subst e; simp [rowOf, Value.ownBlock])
  have HNE := Lib.hid (show some g ≠ x.vo.ownBlock from fun e => hgx g (List.mem_append_right _ (mem_rowOf.2 e.symm)) rfl)
  have HOV := Lib.hid hov
  have HPO := Lib.hid hpo
  have HGX := Lib.hid hgx
  have HPT := Lib.hid hpot
  have HEVA := Lib.hid eva
  have HEVO := Lib.hid evo
  rw [eva] at c1
  rw [evo] at c2 HOV HNE
  have HNA := Lib.hid (show 1 ≤ t.ands.length from List.length_pos_iff.2 hne)
  clear hra hpa hov hpo hgx htd hpot eva evo hne
  go_wp2_with fail
  go_region_law (first
    | (refine step_append1 info_part rfl _ _ rfl w0.heap.size _ t.ors.length _ rfl _ 1 1 vq.cells rfl rfl (by simp [PartV.cells, Value.oneCell']) (by omega) (by omega) (by omega) (w4.heap.size + 1) (owns_ext HOV.out (hEx4.alloc _)) (by intro j hj; rw [World.cell?_alloc_at _ _ _ _ rfl]; simp [PartV.cells]) (by simp; omega) (by simp) ?_; intro g6 cap6 w6 ho6 hg6 hl6' hlt6; have e1 : w6.cell? ⟨g, l.length * 3 + 2, none⟩ = some (.slice oa t.ors.length oc) := hg6.cell ((hEx4.alloc _).cell c2) HNE.out; have e2 : w6.frozen? ⟨g, l.length * 3 + 2, none⟩ = false := (by rw [World.frozen?_of_block (hg6.block g (by simp; omega) HNE.out)]; exact ((hEx4.alloc _).frozen c2).trans (cf _)); have e3 : w6.cell? ⟨g, l.length * 3 + 1, none⟩ = some (.slice aa t.ands.length ca) := hg6.cell ((hEx4.alloc _).cell c1) HNE.out; have e4 : w6.frozen? ⟨g, l.length * 3 + 1, none⟩ = false := (by rw [World.frozen?_of_block (hg6.block g (by simp; omega) HNE.out)]; exact ((hEx4.alloc _).frozen c1).trans (cf _)))
    | (go_simp; go_at_call 104; refine (HJ.out _ (Ext.drew (Ext.refl w3))).mono ?_; rintro r w4 ⟨vq, rfl, hvq, hx4⟩; have hEx4 : Ext w3 w4 := (Ext.drew (Ext.refl w3)).trans hx4; have f2 : w4.cell? ⟨g, l.length * 3 + 2, none⟩ = some (.slice oa t.ors.length oc) := hEx4.cell c2; have hz4 := hEx4.size; have hg4 : g < w4.heap.size := (by omega); unfold PartV.val))
  all_goals
    have HQ := Lib.hid hvq
    have HO6 := Lib.hid ho6
    have HG6 := Lib.hid hg6
    have HL6 := Lib.hid hl6'
    have HLT := Lib.hid hlt6
    have HX4 := Lib.hid hEx4
    clear hvq ho6 hg6 hl6' hlt6 hEx4 c1 c2 cf
    go_wp2_with fail
    go_ret
    rw [← HEVO.out] at HG6 HL6
    obtain ⟨x', M', h1, h2, h3⟩ := another_fin hI3.out hll HX4.out HPO.out HO6.out HG6.out HL6.out HLT.out HQ.out (joinedF_tidy 7 _ (hI3.out.tidy t (by simp)).1) (by
      have h5 := HI.out.pot
      have h6 := joinedF_size 7 t.ands
      rw [potAll_snoc] at h5 ⊢
      unfold Lvl.pot at h5 ⊢
      rw [sumPot_snoc]
      rw [sumPot_eq t.ands] at h5
      simp only [sumPot]
      have h7 := HNA.out
      omega)
    exact ⟨rfl, x', M', h1, (HC3.out.mono (by simpa using hbM)).then h2, fun y hy => by
      rcases h3 y hy with h | h
      · exact Or.inl h
      · exact Or.inr (Nat.le_trans HC3.out.size h)⟩
end Go.Proofs.YtaepiiediblleaaDoor
