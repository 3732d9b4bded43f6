import Derived.Test.YtaepiiediblleaaDoorLevel7
namespace Go.Proofs.YtaepiiediblleaaDoor
open Go.RowKit

/-- What closed hands back: the last level's part; the other levels stay. -/
def ClosedQ (q : Part) (toks : List Tok) (ta : Option Addr) (tn tc : Nat) (w0 w : World) (bp k : Nat) (li : List Lvl) (l : List LvlV) (M X : List Nat) (e : Ending) (w' : World) : Prop :=
  ∃ (v : PartV) (vl' : Value) (M' : List Nat), e = .returned v.val ∧ PI toks ta tn tc w0 w' bp k vl' li l M' (X ++ M') ∧ PartR (mask w' (X ++ M')) q v ∧ Chg M w w' ∧ ∀ y ∈ M', y ∈ M

theorem potAll_le {li : List Lvl} {t : Lvl} {n : Nat} (h : potAll (li ++ [t]) ≤ n) : potAll li ≤ n := by rw [potAll_snoc] at h; omega

/-- The last level is dropped. -/
theorem PI.pop {toks : List Tok} {ta : Option Addr} {tn tc : Nat} {w0 w : World} {bp k g cap : Nat} {li : List Lvl} {t : Lvl} {l : List LvlV} {x : LvlV} {M K : List Nat} (h : PI toks ta tn tc w0 w bp k (.slice (some ⟨g, 0, none⟩) (l.length + 1) cap) (li ++ [t]) (l ++ [x]) M K) (hll : li.length = l.length) :
    PI toks ta tn tc w0 (w.setCell ⟨bp, 2, none⟩ (.slice (some ⟨g, 0, none⟩) l.length cap)) bp k (.slice (some ⟨g, 0, none⟩) l.length cap) li l (bp :: ([g] ++ l.flatMap LvlV.rows)) K := by
  have hbM : bp ∈ M := by rw [h.hM]; simp
  have hnd := h.nd
  rw [h.hM, rows_snoc] at hnd
  have hc : Chg [bp] w (w.setCell ⟨bp, 2, none⟩ (.slice (some ⟨g, 0, none⟩) l.length cap)) := (Chg.refl [bp] w).setCell (Or.inl (by simp)) _
  have hsub : Sub (mask w K) (mask (w.setCell ⟨bp, 2, none⟩ (.slice (some ⟨g, 0, none⟩) l.length cap)) K) := mask_sub_mask fun y hy hn => ⟨hn, hc.block y hy (by simp; intro e; subst e; exact hn (h.hK _ hbM))⟩
  have hgb : g ≠ bp := by
    intro e
    rw [e] at hnd
    simp [rowOf, Value.ownBlock] at hnd
  have hM' : ∀ y ∈ bp :: ([g] ++ l.flatMap LvlV.rows), y ∈ M := by
    intro y hy
    rw [h.hM, rows_snoc]
    rcases List.mem_cons.1 hy with rfl | hy
    · simp
    · rcases List.mem_append.1 hy with hy | hy
      · simp at hy; subst hy; simp [rowOf, Value.ownBlock]
      · exact List.mem_cons_of_mem _ (List.mem_append_right _ (List.mem_append_left _ hy))
  refine ⟨h.pc.step hc ?_ h.pc.hk, ?_, hll, ?_, rfl, ?_, fun y hy => h.hK y (hM' y hy), ?_, potAll_le h.pot, ?_, fun z hz => h.tidy z (List.mem_append_left _ hz), h.small⟩
  · exact heap_setCell_same w bp 2 _ _ (.slice (some ⟨g, 0, none⟩) l.length cap) h.pc.hb
  · rcases h.own.2 with ⟨h', _⟩ | ⟨g2, cap2, cur, h', hb, hg, hle, hmx, hsz, htk⟩
    · simp at h'
    · simp only [Value.slice.injEq, Option.some.injEq, Addr.mk.injEq, and_true] at h'
      obtain ⟨rfl, -, rfl⟩ := h'
      have hl3 := length_flatMap_of LvlV.cells 3 (fun _ => rfl) l
      refine ⟨hl3, .inr ⟨g, cap, cur, rfl, hb, (heap_setCell_other _ _ _ _ (by simpa using hgb)).trans hg, by simp at hle; omega, hmx, hsz, ?_⟩⟩
      rw [flatMap_snoc] at htk
      have e1 : (cur.toList.take ((l ++ [x]).length * 3)).take (l.length * 3) = cur.toList.take (l.length * 3) := by
        rw [List.take_take]
        congr 1
        simp only [List.length_append, List.length_singleton]
        omega
      rw [← e1, htk, List.take_append_of_le_length (by omega), List.take_of_length_le (by omega)]
  · intro i h1 h2
    have := h.lvl i (by simp; omega) (by simp; omega)
    simp only [List.getElem_append_left h1, List.getElem_append_left h2] at this
    refine this.chg hc (fun y hy h' => ?_) hsub
    simp at h'
    subst h'
    rw [List.nodup_cons] at hnd
    exact hnd.1 (List.mem_append_right _ (List.mem_append_left _ (List.mem_flatMap.2 ⟨l[i], List.getElem_mem h2, hy⟩)))
  · rw [show bp :: (rowOf (.slice (some ⟨g, 0, none⟩) (l.length + 1) cap) ++ (l.flatMap LvlV.rows ++ x.rows)) = (bp :: ([g] ++ l.flatMap LvlV.rows)) ++ x.rows by simp [rowOf, Value.ownBlock]] at hnd
    rw [List.nodup_append] at hnd
    exact hnd.1
  · intro y hy
    have := h.hKlt y hy
    simpa using this
  · have := h.cnt
    simp at this
    omega

theorem tidy_snoc {l : List Part} {q : Part} (h : Tidy l) (hq : q.depth ≤ q.size) : Tidy (l ++ [q]) := fun z hz => by
  rcases List.mem_append.1 hz with hz | hz
  · exact h z hz
  · simp at hz; subst hz; exact hq

/-- The second call of joined. -/
theorem closed_join {w2 w4 w6 : World} {K : List Nat} {ors : List Part} {vos : List PartV} {q : Part} {vq : PartV} {o : Obj} {vo : Value} {base g6 cap6 : Nat} (hpo : PartsR (mask w2 K) ors vos) (hx4 : Ext w2 w4) (hq : PartR (mask w4 K) q vq)
    (ho6 : w6.ownsRow base 96 8 (.slice (some ⟨g6, 0, none⟩) (ors.length + 1) cap6) (ors.length + 1) (vos.flatMap PartV.cells ++ vq.cells)) (hg6 : (w4.alloc o).grownBy w6 vo.ownBlock) (hvo : ∀ y, vo.ownBlock = some y → y ∈ K) (hK : ∀ y ∈ K, y < w2.heap.size)
    (ht : Tidy ors) (hqt : q.depth ≤ q.size) (hs : sumSize ors + q.size ≤ 100000000) (hn : ors.length ≤ 100000000) :
    Calls Tryd.prog 104 #[.int .i64 8, .slice (some ⟨g6, 0, none⟩) (ors.length + 1) cap6] w6 (PartQ (joinedF 8 (ors ++ [q])) K w6) := by
  have hs4 := hx4.size
  have hs6 := hg6.size
  simp at hs6
  have hsub : ∀ wx, Ext wx w4 → Sub (mask wx K) (mask w6 K) := fun wx hx => mask_sub_mask fun y hy hn => ⟨hn, (((hx.chg (rowOf vo)).alloc o).grown hg6 (fun y hy => Or.inl (mem_rowOf.2 hy))).block y hy (fun h => hn (hvo y (mem_rowOf.1 h)))⟩
  have e1 : (vos ++ [vq]).flatMap PartV.cells = vos.flatMap PartV.cells ++ vq.cells := by simp
  have e2 : (vos ++ [vq]).length = ors.length + 1 := by simp [hpo.1]
  rw [← e1, ← e2] at ho6
  obtain ⟨a, c, e3, hr⟩ := IsRows.of_owns (f := PartV.cells) (fun _ => rfl) ho6
  simp only [Value.slice.injEq, true_and] at e3
  obtain ⟨rfl, rfl⟩ := e3
  rw [e2] at hr
  exact joined_calls 8 (ors ++ [q]) (vos ++ [vq]) _ (ors.length + 1) cap6 K w6 hr ((hpo.mono (hsub w2 hx4)).snoc (hq.mono (hsub w4 (Ext.refl _)))) (fun y hy => by have := hK y hy; omega) (tidy_snoc ht hqt) (by rw [sumSize_append]; simp only [sumSize]; omega) (by omega)

/-- The state behind closed. -/
theorem closed_fin {toks : List Tok} {ta : Option Addr} {tn tc : Nat} {w0 w w2 w8 W : World} {bp k g cap br bt : Nat} {li : List Lvl} {l : List LvlV} {M X : List Nat} {vo : Value} {q : Part} {v : PartV}
    (h3 : PI toks ta tn tc w0 w2 bp k (.slice (some ⟨g, 0, none⟩) l.length cap) li l (bp :: ([g] ++ l.flatMap LvlV.rows)) (br :: bt :: (X ++ M))) (hM' : ∀ y ∈ bp :: ([g] ++ l.flatMap LvlV.rows), y ∈ M) (hbr : w.heap.size ≤ br) (hw0 : w0.heap.size ≤ w.heap.size)
    (hMlt : ∀ y ∈ M, y < w.heap.size) (hM0 : ∀ y, vo.ownBlock = some y → y ∈ M ∧ w0.heap.size ≤ y ∧ y ∉ bp :: ([g] ++ l.flatMap LvlV.rows)) (hcw : Chg [bp] w w2) (hbM : bp ∈ M) (hc8 : Chg (rowOf vo) w2 w8) (hcW : Chg [br] w8 W) (hq : PartR (mask w8 (br :: bt :: (X ++ M))) q v) :
    PI toks ta tn tc w0 W bp k (.slice (some ⟨g, 0, none⟩) l.length cap) li l (bp :: ([g] ++ l.flatMap LvlV.rows)) (X ++ (bp :: ([g] ++ l.flatMap LvlV.rows))) ∧ PartR (mask W (X ++ (bp :: ([g] ++ l.flatMap LvlV.rows)))) q v ∧ Chg M w W := by
  have hcc : Chg (br :: rowOf vo) w2 W := (hc8.mono (fun y hy => List.mem_cons_of_mem _ hy)).then (hcW.mono (by simp))
  have hNK : ∀ y ∈ br :: rowOf vo, y ∈ br :: bt :: (X ++ M) := fun y hy => by
    rcases List.mem_cons.1 hy with rfl | hy
    · simp
    · exact List.mem_cons_of_mem _ (List.mem_cons_of_mem _ (List.mem_append_right _ (hM0 y (mem_rowOf.1 hy)).1))
  have hXK : ∀ y, y ∈ X ++ (bp :: ([g] ++ l.flatMap LvlV.rows)) → y ∈ br :: bt :: (X ++ M) := fun y hy => by
    rcases List.mem_append.1 hy with hy | hy
    · exact List.mem_cons_of_mem _ (List.mem_cons_of_mem _ (List.mem_append_left _ hy))
    · exact h3.hK y hy
  refine ⟨h3.chg hcc (fun y hy h => ?_) (fun y hy => ?_) (mask_sub_mask fun y hy hn => ⟨fun h => hn (hXK y h), hcc.block y hy (fun h => hn (hNK y h))⟩) (fun y hy => List.mem_append_right _ hy) (fun y hy => ?_), hq.mono (mask_sub_mask fun y hy hn => ⟨fun h => hn (hXK y h), hcW.block y hy (fun h => hn (by simp at h; subst h; simp))⟩), ?_⟩
  · rcases List.mem_cons.1 h with rfl | h
    · have := hMlt y (hM' y hy); omega
    · exact (hM0 y (mem_rowOf.1 h)).2.2 hy
  · rcases List.mem_cons.1 hy with rfl | hy
    · omega
    · exact (hM0 y (mem_rowOf.1 hy)).2.1
  · have := h3.hKlt y (hXK y hy)
    have := hcc.size
    omega
  · have h1 : Chg M w w2 := hcw.mono (by simpa using hbM)
    refine h1.trans hcc (fun y hy => ?_)
    rcases List.mem_cons.1 hy with rfl | hy
    · exact Or.inr hbr
    · exact Or.inl (hM0 y (mem_rowOf.1 hy)).1

set_option maxRecDepth 100000 in
set_option maxHeartbeats 4000000 in
theorem closed_calls {toks : List Tok} {ta : Option Addr} {tn tc : Nat} {w0 w : World} {bp k : Nat} {vl : Value} {li : List Lvl} {t : Lvl} {l : List LvlV} {x : LvlV} {M X : List Nat} (h : PI toks ta tn tc w0 w bp k vl (li ++ [t]) (l ++ [x]) M (X ++ M)) (hll : li.length = l.length) :
    Calls Tryd.prog 80 #[.pointer (some ⟨bp, 0, none⟩)] w (ClosedQ (joinedF 8 (t.ors ++ [joinedF 7 t.ands])) toks ta tn tc w0 w bp k li l M X) := by
  have HI := Lib.hid h
  have hsm := h.small
  have hkt := h.pc.hk
  obtain ⟨g, cap, rfl, hgM, hgb, hg0, hgw, -, -, -, -, hl6⟩ := h.at
  have hbw := h.pc.cells.2.2.2.2
  have HB := Lib.hid (show ∀ o, Ext w (w.alloc o) from fun o => (Ext.refl w).alloc o)
  clear h
  go_enter Tryd.func80, Tryd.ntmps80
  go_wp2_with fail
  refine (top_calls' g l.length cap bp _ ((HI.out.ext (HB.out _)).pc.cells.2.2.1) hl6).mono ?_
  rintro r w1 ⟨rfl, hx1⟩
  have hE1 := Lib.hid ((HB.out _).trans hx1)
  have hR1 := Lib.hid (hx1.blk (alloc_new w _))
  have hI1 := Lib.hid (HI.out.ext hE1.out)
  clear hx1
  obtain ⟨g', cap', e1, -, -, -, hgw1, c0, c1, c2, cf, -⟩ := hI1.out.at
  simp only [Value.slice.injEq, Option.some.injEq, Addr.mk.injEq, and_true, true_and] at e1
  obtain ⟨rfl, rfl⟩ := e1
  obtain ⟨aa, ca, vas, eva, hra, hpa⟩ := ownParts_rows (hI1.out.lastR hll).2.1
  obtain ⟨oa, oc, ovs, evo, -, -⟩ := ownParts_rows (hI1.out.lastR hll).2.2
  rw [eva] at c1
  rw [evo] at c2
  obtain ⟨f0, f1, f2, ff, hbw1⟩ := hI1.out.pc.cells
  have hcap : l.length + 1 ≤ cap := by
    rcases hI1.out.own.2 with ⟨h', _⟩ | ⟨g2, cap2, cur, h', _, _, hle, _⟩
    · simp at h'
    · simp only [Value.slice.injEq, true_and] at h'
      rw [← h'.2.2] at hle
      simpa using hle
  have s1 : (0 : Int) ≤ ((l.length + 1 : Nat) : Int) - 1 := by omega
  have s2 : ((l.length + 1 : Nat) : Int) - 1 ≤ (cap : Int) := by omega
  have s3 : (((l.length + 1 : Nat) : Int) - 1).toNat = l.length := by omega
  have hz1 := blk_lt hR1.out
  go_wp2_with fail
  go_region
  go_wp2_with fail
  clear s1 s2 s3 f0 f1 f2 ff c0 c1 c2 cf hra hpa
  have hMlt : ∀ y ∈ M, y < w.heap.size := fun y hy => HI.out.hKlt y (HI.out.hK y hy)
  have hXlt : ∀ y ∈ X ++ M, y < w.heap.size := HI.out.hKlt
  have hs1 := hE1.out.size
  have hI1' := Lib.hid (show PI toks ta tn tc w0 w1 bp k _ (li ++ [t]) (l ++ [x]) M (w.heap.size :: (X ++ M)) from HI.out.chg (hE1.out.chg []) (by simp) (by simp) (mask_sub_mask fun y hy hn => ⟨by rw [List.mem_cons, not_or]; exact ⟨by omega, hn⟩, hE1.out.block y hy⟩) (fun y hy => List.mem_cons_of_mem _ (HI.out.hK y hy)) (fun y hy => by
    rcases List.mem_cons.1 hy with rfl | hy
    · exact hz1
    · have := hXlt y hy; omega))
  have hI2 := Lib.hid (hI1'.out.pop hll)
  have hC2 := Lib.hid (show Chg [bp] w1 (((w1.setCell ⟨bp, 2, none⟩ (.slice (some ⟨g, 0, none⟩) l.length cap)).alloc (.cells #[.int .i64 x.nots, .slice aa t.ands.length ca, .slice oa t.ors.length oc] 91)).drew) from (((Chg.refl [bp] w1).setCell (Or.inl (by simp)) _).alloc _).drew)
  have hT2 := Lib.hid (show (((w1.setCell ⟨bp, 2, none⟩ (.slice (some ⟨g, 0, none⟩) l.length cap)).alloc (.cells #[.int .i64 x.nots, .slice aa t.ands.length ca, .slice oa t.ors.length oc] 91)).drew).heap[w1.heap.size]? = some (.cells #[.int .i64 x.nots, .slice aa t.ands.length ca, .slice oa t.ors.length oc] 91 (0, 0)) by
    have := alloc_new (w1.setCell ⟨bp, 2, none⟩ (.slice (some ⟨g, 0, none⟩) l.length cap)) (.cells #[.int .i64 x.nots, .slice aa t.ands.length ca, .slice oa t.ors.length oc] 91)
    rw [World.size_setCell] at this
    exact this)
  have hI3 := Lib.hid (hI2.out.chg (K' := w.heap.size :: w1.heap.size :: (X ++ M)) (((((Ext.refl _).alloc (.cells #[.int .i64 x.nots, .slice aa t.ands.length ca, .slice oa t.ors.length oc] 91)).drew)).chg []) (by simp) (by simp) (mask_sub_mask fun y hy hn => ⟨by
      simp only [List.mem_cons, not_or] at hn ⊢
      simp at hy
      exact ⟨hn.1, by omega, hn.2⟩, Below.heap_alloc _ _ _ hy⟩) (fun y hy => by
      have := hI2.out.hK y hy
      simp only [List.mem_cons] at this ⊢
      rcases this with h' | h'
      · exact Or.inl h'
      · exact Or.inr (Or.inr h')) (fun y hy => by
      have h2 : ∀ (A : World) (o : Obj), ((A.alloc o).drew).heap.size = A.heap.size + 1 := fun A o => by simp
      rw [h2, World.size_setCell]
      simp only [List.mem_cons] at hy
      rcases hy with rfl | rfl | hy
      · omega
      · omega
      · have := hXlt y hy; omega))
  clear hI2
  generalize (((w1.setCell ⟨bp, 2, none⟩ (.slice (some ⟨g, 0, none⟩) l.length cap)).alloc (.cells #[.int .i64 x.nots, .slice aa t.ands.length ca, .slice oa t.ors.length oc] 91)).drew) = w2 at *
  -- the state behind the second region
  have hbM : bp ∈ M := by rw [HI.out.hM]; simp
  have hrn := HI.out.rowsNot
  have hz2 := blk_lt hT2.out
  have hCw2 := Lib.hid ((hE1.out.chg [bp]).then hC2.out)
  have hS2 := Lib.hid (show Sub (mask w (X ++ M)) (mask w2 (w.heap.size :: w1.heap.size :: (X ++ M))) from mask_sub_mask fun y hy hn => ⟨by rw [List.mem_cons, List.mem_cons, not_or, not_or]; exact ⟨by omega, by omega, hn⟩, hCw2.out.block y hy (by simp; intro e; subst e; exact hn (List.mem_append_right _ hbM))⟩)
  have d1 := Lib.hid ((HI.out.lastR hll).2.1.chg hCw2.out (fun y hy h' => by simp at h'; subst h'; exact (hrn y (List.mem_append_left _ (mem_rowOf.2 hy))).2.1 rfl) hS2.out)
  have d2 := Lib.hid ((HI.out.lastR hll).2.2.chg hCw2.out (fun y hy h' => by simp at h'; subst h'; exact (hrn y (List.mem_append_right _ (mem_rowOf.2 hy))).2.1 rfl) hS2.out)
  have hR2 := Lib.hid (hC2.out.blk hR1.out (by simp; omega))
  obtain ⟨aa', ca', vas, eva', hra, hpa⟩ := ownParts_rows d1.out
  obtain ⟨rfl, rfl⟩ : aa = aa' ∧ ca = ca' := by
    rw [eva] at eva'
    simp only [Value.slice.injEq, true_and] at eva'
    exact eva'
  obtain ⟨vos, hov, hpo⟩ := d2.out
  have HEVO := Lib.hid evo
  rw [evo] at hov
  have hpot := HI.out.pot
  rw [potAll_snoc] at hpot
  unfold Lvl.pot at hpot
  rw [sumPot_eq, sumPot_eq] at hpot
  have hb1 : sumSize t.ands ≤ 2 * k := by omega
  have hb2 : sumSize t.ors ≤ 2 * k := by omega
  have hb3 : t.ands.length ≤ 2 * k := by omega
  have hb4 : t.ors.length ≤ 2 * k := by omega
  have htd := HI.out.tidy t (by simp)
  have hq7 := joinedF_size 7 t.ands
  have HJ1 := Lib.hid (fun (W : World) (hx : Ext w2 W) => joined_calls 7 t.ands vas aa t.ands.length ca (w.heap.size :: w1.heap.size :: (X ++ M)) W (hra.ext hx) (hpa.mono (mask_ext _ hx)) (fun y hy => Nat.lt_of_lt_of_le (hI3.out.hKlt y hy) hx.size) htd.1 (by omega) (by omega))
  have HOV := Lib.hid hov
  have HPO := Lib.hid hpo
  have HQT := Lib.hid (joinedF_tidy 7 _ htd.1)
  have HVK := Lib.hid (show ∀ y, x.vo.ownBlock = some y → y ∈ M from fun y hy => (hrn y (List.mem_append_right _ (mem_rowOf.2 hy))).2.2)
  have HJ2 := Lib.hid (fun (w4 w6 : World) (vq : PartV) (o : Obj) (g6 cap6 : Nat) (hx4 : Ext w2 w4) (hq : PartR (mask w4 (w.heap.size :: w1.heap.size :: (X ++ M))) (joinedF 7 t.ands) vq) (ho6 : w6.ownsRow w0.heap.size 96 8 (.slice (some ⟨g6, 0, none⟩) (t.ors.length + 1) cap6) (t.ors.length + 1) (vos.flatMap PartV.cells ++ vq.cells)) (hg6 : (w4.alloc o).grownBy w6 (Value.slice oa t.ors.length oc).ownBlock) =>
    closed_join hpo hx4 hq ho6 hg6 (fun y hy => List.mem_cons_of_mem _ (List.mem_cons_of_mem _ (List.mem_append_right _ (HVK.out y (by rw [HEVO.out]; exact hy))))) hI3.out.hKlt htd.2 (joinedF_tidy 7 _ htd.1) (by omega) (by omega))
  obtain ⟨t0, t1, t2, tf⟩ := blk3 hT2.out
  have hsz2 := hI3.out.pc.hx.size
  have hne : ∀ y, (Value.slice oa t.ors.length oc).ownBlock = some y → y < w.heap.size := fun y hy => hMlt y (HVK.out y (by rw [HEVO.out]; exact hy))
  have HNE := Lib.hid hne
  have HTD := Lib.hid htd
  have HRN := Lib.hid hrn
  have HML := Lib.hid hMlt
  have HM1 := Lib.hid (show ∀ y ∈ bp :: ([g] ++ l.flatMap LvlV.rows), y ∈ M from fun y hy => by
    rw [HI.out.hM, rows_snoc]
    rcases List.mem_cons.1 hy with rfl | hy
    · simp
    · rcases List.mem_append.1 hy with hy | hy
      · simp at hy; subst hy; simp [rowOf, Value.ownBlock]
      · exact List.mem_cons_of_mem _ (List.mem_append_right _ (List.mem_append_left _ hy)))
  have HW0 := Lib.hid HI.out.pc.hx.size
  have HM0 := Lib.hid (show ∀ y, x.vo.ownBlock = some y → y ∈ M ∧ w0.heap.size ≤ y ∧ y ∉ bp :: ([g] ++ l.flatMap LvlV.rows) from fun y hy => by
    obtain ⟨_, ho1, _⟩ := (HI.out.lastR hll).2.2
    refine ⟨HVK.out y hy, (ho1.lt y hy).1, fun h => ?_⟩
    have hnd := HI.out.nd
    rw [HI.out.hM, rows_snoc, show bp :: (rowOf (.slice (some ⟨g, 0, none⟩) (l.length + 1) cap) ++ (l.flatMap LvlV.rows ++ x.rows)) = (bp :: ([g] ++ l.flatMap LvlV.rows)) ++ x.rows by simp [rowOf, Value.ownBlock], List.nodup_append] at hnd
    exact hnd.2.2 y h y (List.mem_append_right _ (mem_rowOf.2 hy)) rfl)
  clear hra hpa hov hpo hpot htd hne hrn hMlt eva evo eva' d1 d2 hq7
  go_region_law (first
    | (refine step_append1 info_part rfl _ _ rfl w0.heap.size _ t.ors.length _ rfl _ 1 1 vq.cells rfl rfl (by simp [PartV.cells, Value.oneCell']) (by omega) (by omega) (by omega) (w4.heap.size + 1) (owns_ext HOV.out (hEx4.alloc _)) (by intro j hj; rw [World.cell?_alloc_at _ _ _ _ rfl]; simp [PartV.cells]) (by simp; omega) (by simp) ?_; intro g6 cap6 w6 ho6 hg6 hl6' hlt6)
    | (go_simp; go_at_call 104; ((with_reducible refine (HJ1.out _ (Ext.drew (Ext.refl w2))).mono ?_); rintro r w4 ⟨vq, rfl, hvq, hx4⟩); have hEx4 : Ext w2 w4 := (Ext.drew (Ext.refl w2)).trans hx4; have u2 : w4.cell? ⟨w1.heap.size, 2, none⟩ = some (.slice oa t.ors.length oc) := hEx4.cell t2; have hz4 := hEx4.size; have hg4 : w1.heap.size < w4.heap.size := (by omega); unfold PartV.val)
    | (go_simp; go_at_call 104; ((with_reducible refine (HJ2.out w4 w6 vq _ g6 cap6 hEx4 hvq ho6 hg6).mono ?_); rintro r w8 ⟨v8, rfl, hv8, hx8⟩); have hc8 : Chg (rowOf (Value.slice oa t.ors.length oc)) w2 w8 := (((hEx4.chg (rowOf (Value.slice oa t.ors.length oc))).alloc _).grown hg6 (fun y hy => Or.inl (mem_rowOf.2 hy))).then (hx8.chg _); obtain ⟨p0, p1, p2, p3, p4, p5, p6, p7, pf⟩ := blk8 (hc8.blk hR2.out (fun h => Nat.lt_irrefl _ (HNE.out _ (mem_rowOf.1 h)))); unfold PartV.val))
  all_goals
    have HC8 := Lib.hid hc8
    have HV8 := Lib.hid hv8
    clear hc8 hv8
    go_wp2_with fail
    rw [← HEVO.out] at HC8
    refine bodyPost_ret (v := v8.val) (by simp [results, Tryd.results80, go_sem, PartV.val, p0, p1, p2, p3, p4, p5, p6, p7]) rfl ⟨v8, .slice (some ⟨g, 0, none⟩) l.length cap, bp :: ([g] ++ l.flatMap LvlV.rows), rfl, ?_⟩
    have key := fun (W : World) (hcW : Chg [w.heap.size] w8 W) => closed_fin hI3.out HM1.out (Nat.le_refl _) HW0.out HML.out HM0.out hCw2.out hbM HC8.out hcW HV8.out
    refine (fun h => ⟨h.1, h.2.1, h.2.2, HM1.out⟩) (key _ ?_)
    repeat (with_reducible (refine Chg.setCell ?_ ?_ _))
    exact Chg.refl _ _
    all_goals (refine Or.inl ?_; simp)
end Go.Proofs.YtaepiiediblleaaDoor
