import Derived.Test.YtaepiiediblleaaDoorPart
namespace Go.Proofs.YtaepiiediblleaaDoor
open Go.RowKit

/-- A part is handed back; nothing that was there has changed. -/
def PartQ (p : Part) (M : List Nat) (w : World) (e : Ending) (w' : World) : Prop := ∃ v : PartV, e = .returned v.val ∧ PartR (mask w' M) p v ∧ Ext w w'

/-- Each depth is at most the size. -/
def Tidy (l : List Part) : Prop := ∀ p ∈ l, p.depth ≤ p.size
theorem maxDepth_le {l : List Part} (h : Tidy l) (k : Nat) : maxDepth (l.take k) ≤ sumSize (l.take k) := by
  induction k with
  | zero => simp [maxDepth, sumSize]
  | succ k ih =>
    by_cases hk : k < l.length
    · rw [maxDepth_take_succ l k hk, sumSize_take_succ l k hk]
      have := h _ (List.getElem_mem hk)
      omega
    · rw [List.take_of_length_le (by omega)] at ih ⊢
      exact ih

theorem info_part : ElemT 89 96 (.agg #[.int .i64 0, .string ⟨#[]⟩, .slice none 0 0, .int .i64 0, .int .i64 0, .slice none 0 0, .int .i64 0, .int .i64 0]) 8 104 := ⟨by kernel_rfl, by kernel_rfl, rfl, by decide⟩
theorem elemEx : ElemT 24 26 (.agg #[.int .i64 0, .string ⟨#[]⟩, .slice none 0 0, .int .i64 0, .int .i64 0, .slice none 0 0]) 6 88 := ⟨by kernel_rfl, by kernel_rfl, rfl, by decide⟩

/-- The cells of the part that is being composed. -/
def wholeCells (s d : Int) : Array Value := #[.int .i64 0, .string ⟨#[]⟩, .slice none 0 0, .int .i64 0, .int .i64 0, .slice none 0 0, .int .i64 s, .int .i64 d]

theorem isEx0 (w : World) : IsEx w ex0 (exV 0 ⟨#[]⟩ none 0 0 0 0 none 0 0) := by
  unfold ex0
  refine IsEx.mk ⟨rfl, by omega, Or.inl ⟨rfl, rfl⟩, fun i hi => by simp at hi⟩ rfl (by omega) (Or.inl ⟨rfl, rfl⟩) ?_
  unfold ExsD
  trivial

/-- After k rounds of the first loop. -/
def ComposedI (w : World) (ps : List Part) (n : Nat) (i : Value) (wr : World) : Prop := ∃ k : Nat, k ≤ n ∧ i = .int .i64 k ∧ Ext w wr ∧ w.heap.size + 1 < wr.heap.size ∧ wr.heap[w.heap.size]? = some (.cells (wholeCells 0 0) 96 (0, 0)) ∧
    wr.heap[w.heap.size + 1]? = some (.cells (wholeCells (1 + sumSize (ps.take k) : Nat) (maxDepth (ps.take k) : Nat)) 96 (0, 0))

theorem composed_step {w wr : World} {ps : List Part} {n k : Nat} {s d s' d' : Int} {o : Obj} (hk : k + 1 ≤ n) (hx : Ext w wr) (hsz : w.heap.size + 1 < wr.heap.size) (hb0 : wr.heap[w.heap.size]? = some (.cells (wholeCells 0 0) 96 (0, 0)))
    (hb1 : wr.heap[w.heap.size + 1]? = some (.cells (wholeCells s d) 96 (0, 0))) (hs : s' = (1 + sumSize (ps.take (k + 1)) : Nat)) (hd : d' = (maxDepth (ps.take (k + 1)) : Nat)) :
    ComposedI w ps n (.int .i64 ((k : Int) + 1)) (((wr.setCell ⟨w.heap.size + 1, 6, none⟩ (.int .i64 s')).setCell ⟨w.heap.size + 1, 7, none⟩ (.int .i64 d')).alloc o) := by
  subst hs hd
  refine ⟨k + 1, hk, by go_num, ((hx.setAbove (by simp) _).setAbove (by simp) _).alloc _, by simp; omega, ?_, ?_⟩
  · refine blk_alloc ?_
    rw [heap_setCell_other _ _ _ _ (by simp), heap_setCell_other _ _ _ _ (by simp)]
    exact hb0
  · refine blk_alloc ?_
    rw [heap_setCell_same _ _ _ _ _ _ (heap_setCell_same _ _ _ _ _ _ hb1)]
    simp [wholeCells]

/-- The cells of the part that is composed of arguments in block bm. -/
def fullCells (op : Int) (bm n : Nat) (s d : Int) : Array Value := #[.int .i64 op, .string ⟨#[]⟩, .slice none 0 0, .int .i64 0, .int .i64 0, .slice (some ⟨bm, 0, none⟩) n n, .int .i64 s, .int .i64 d]
/-- The first k records of the row cs are those of vs. -/
def Filled (vs : List PartV) (k : Nat) (cs : Array Value) : Prop := ∀ i (h : i < vs.length), i < k → ∀ j, j < 6 → cs[i * 6 + j]? = vs[i].x.cells[j]?
/-- After k rounds of the second loop. -/
def ComposedJ (w : World) (op : Int) (vs : List PartV) (bm n : Nat) (s d : Int) (i : Value) (wr : World) : Prop := ∃ (k : Nat) (cs : Array Value), k ≤ n ∧ i = .int .i64 k ∧ Ext w wr ∧ wr.heap[w.heap.size]? = some (.cells (wholeCells 0 0) 96 (0, 0)) ∧
    wr.heap[w.heap.size + 1]? = some (.cells (fullCells op bm n s d) 96 (0, 0)) ∧ wr.heap[bm]? = some (.cells cs 26 (0, 0)) ∧ cs.size = n * 6 ∧ Filled vs k cs

theorem filled_step {vs : List PartV} {k n : Nat} {cs : Array Value} (h : Filled vs k cs) (hk : k < vs.length) (hn : cs.size = n * 6) (hkn : k < n) {v0 v1 v2 v3 v4 v5 : Value} (hv : vs[k].x.cells = [v0, v1, v2, v3, v4, v5]) :
    Filled vs (k + 1) ((((((cs.setIfInBounds (k * 6) v0).setIfInBounds (k * 6 + 1) v1).setIfInBounds (k * 6 + 2) v2).setIfInBounds (k * 6 + 3) v3).setIfInBounds (k * 6 + 4) v4).setIfInBounds (k * 6 + 5) v5) := by
  intro i hi hik j hj
  simp only [Array.getElem?_setIfInBounds, Array.size_setIfInBounds]
  by_cases hlt : i < k
  · rw [if_neg (by omega), if_neg (by omega), if_neg (by omega), if_neg (by omega), if_neg (by omega), if_neg (by omega)]
    exact h i hi hlt j hj
  · obtain rfl : i = k := by omega
    rw [hv]
    match j, hj with
    | 0, _ => rw [if_neg (by omega), if_neg (by omega), if_neg (by omega), if_neg (by omega), if_neg (by omega), if_pos (by omega), if_pos (by omega)]; rfl
    | 1, _ => rw [if_neg (by omega), if_neg (by omega), if_neg (by omega), if_neg (by omega), if_pos (by omega), if_pos (by omega)]; rfl
    | 2, _ => rw [if_neg (by omega), if_neg (by omega), if_neg (by omega), if_pos (by omega), if_pos (by omega)]; rfl
    | 3, _ => rw [if_neg (by omega), if_neg (by omega), if_pos (by omega), if_pos (by omega)]; rfl
    | 4, _ => rw [if_neg (by omega), if_pos (by omega), if_pos (by omega)]; rfl
    | 5, _ => rw [if_pos (by omega), if_pos (by omega)]; rfl

theorem composed_step2 {w wr : World} {op : Int} {vs : List PartV} {bm n k : Nat} {s d : Int} {cs : Array Value} {o : Obj} (hk : k < n) (hkv : k < vs.length) (hx : Ext w wr) (hbm : w.heap.size + 1 < bm) (hb0 : wr.heap[w.heap.size]? = some (.cells (wholeCells 0 0) 96 (0, 0)))
    (hb1 : wr.heap[w.heap.size + 1]? = some (.cells (fullCells op bm n s d) 96 (0, 0))) (hb2 : wr.heap[bm]? = some (.cells cs 26 (0, 0))) (hn : cs.size = n * 6) (hf : Filled vs k cs) {v0 v1 v2 v3 v4 v5 : Value} (hv : vs[k].x.cells = [v0, v1, v2, v3, v4, v5]) :
    ComposedJ w op vs bm n s d (.int .i64 ((k : Int) + 1)) (((((((wr.setCell ⟨bm, k * 6, none⟩ v0).setCell ⟨bm, k * 6 + 1, none⟩ v1).setCell ⟨bm, k * 6 + 2, none⟩ v2).setCell ⟨bm, k * 6 + 3, none⟩ v3).setCell ⟨bm, k * 6 + 4, none⟩ v4).setCell ⟨bm, k * 6 + 5, none⟩ v5).alloc o) := by
  refine ⟨k + 1, _, by omega, by go_num, ?_, ?_, ?_, blk_alloc (heap_setCell_same _ _ _ _ _ _ (heap_setCell_same _ _ _ _ _ _ (heap_setCell_same _ _ _ _ _ _ (heap_setCell_same _ _ _ _ _ _ (heap_setCell_same _ _ _ _ _ _ (heap_setCell_same _ _ _ _ _ _ hb2)))))), by simpa using hn, filled_step hf hkv hn hk hv⟩
  · refine Ext.alloc ?_ _
    repeat (with_reducible (refine Ext.setAbove ?_ ?_ _))
    exact hx
    all_goals (simp; omega)
  · refine blk_alloc ?_
    rw [heap_setCell_other _ _ _ _ (by simp; omega), heap_setCell_other _ _ _ _ (by simp; omega), heap_setCell_other _ _ _ _ (by simp; omega), heap_setCell_other _ _ _ _ (by simp; omega), heap_setCell_other _ _ _ _ (by simp; omega), heap_setCell_other _ _ _ _ (by simp; omega)]
    exact hb0
  · refine blk_alloc ?_
    rw [heap_setCell_other _ _ _ _ (by simp; omega), heap_setCell_other _ _ _ _ (by simp; omega), heap_setCell_other _ _ _ _ (by simp; omega), heap_setCell_other _ _ _ _ (by simp; omega), heap_setCell_other _ _ _ _ (by simp; omega), heap_setCell_other _ _ _ _ (by simp; omega)]
    exact hb1

theorem composed_fin {w W : World} {op : Int} {ps : List Part} {vs : List PartV} {bm n : Nat} {cs : Array Value} {M : List Nat} (hM : ∀ k ∈ M, k < w.heap.size) (hx : Ext w W) (hbm : w.heap.size ≤ bm) (hb : W.heap[bm]? = some (.cells cs 26 (0, 0)))
    (hf : Filled vs n cs) (hR : PartsR (mask w M) ps vs) (hn : n = ps.length) : IsEx (mask W M) (.mk op ⟨#[]⟩ [] 0 0 (ps.map (·.ex))) (exV op ⟨#[]⟩ none 0 0 0 0 (some ⟨bm, 0, none⟩) n n) := by
  refine IsEx.mk ⟨rfl, by omega, Or.inl ⟨rfl, rfl⟩, fun i hi => by simp at hi⟩ (by simpa using hn) (Nat.le_refl _) (Or.inr ⟨bm, 0, rfl⟩) ?_
  refine ExsD.of (ps.map (·.ex)) 0 (vs.map (·.x)) (by simpa using hR.1) fun i h1 h2 => ⟨fun j hj => ?_, ?_⟩
  · simp only [List.length_map] at h1 h2
    rw [mask_cell, if_neg (fun h => by have := hM _ h; simp at this; omega), blk_cell hb, Nat.zero_add, hf i h2 (by omega) j hj]
    simp
  · simp only [List.length_map] at h1 h2
    have := (hR.2 i h1 h2).2.2.mono (mask_ext M hx)
    simpa using this

set_option maxRecDepth 100000 in
set_option maxHeartbeats 2000000 in
theorem composed_calls (op : Int) (ps : List Part) (vs : List PartV) (a : Option Addr) (n c : Nat) (M : List Nat) (w : World) (hrows : IsRows w 8 PartV.cells vs a n c) (hR : PartsR (mask w M) ps vs) (hM : ∀ k ∈ M, k < w.heap.size)
    (ht : Tidy ps) (hsum : sumSize ps ≤ 1000000000000000) (hn : n ≤ 1000000000000) :
    Calls Tryd.prog 103 #[.int .i64 op, .slice a n c] w (PartQ (composedF op ps) M w) := by
  have HROWS := Lib.hid hrows
  have HR := Lib.hid hR
  have HM := Lib.hid hM
  have HT := Lib.hid ht
  have HN := Lib.hid (show n = ps.length from hrows.1.trans hR.1.symm)
  have HNV := Lib.hid (show n = vs.length from hrows.1)
  clear hrows hR hM ht
  go_enter Tryd.func103, Tryd.ntmps103
  go_wp2_with fail
  go_loopw [13] (ComposedI w ps n) (fun i _ => n - (intOf i).toNat)
  case atStart => exact ⟨0, by omega, rfl, ((Ext.refl w).alloc _).alloc _, by simp, by rw [Below.heap_alloc _ _ _ (by simp)]; exact alloc_new _ _, by
    have := alloc_new (w.alloc (.cells (wholeCells 0 0) 96 (0, 0))) (.cells (wholeCells 1 0) 96 (0, 0))
    simpa [wholeCells, sumSize, maxDepth] using this⟩
  case round =>
    obtain ⟨k, hk, rfl, hx, hsz, hb0, hb1⟩ := hrel
    have HX := Lib.hid hx
    have HB0 := Lib.hid hb0
    have HB1 := Lib.hid hb1
    have hc6 := blk_cell hb1 6
    have hc7 := blk_cell hb1 7
    have hf6 := blk_free hb1 6
    have hf7 := blk_free hb1 7
    simp only [wholeCells] at hc6 hc7
    simp at hc6 hc7
    clear hx hb0 hb1
    by_cases hlt : k < n
    · have hlt1 : k < ps.length := by have := HN.out; omega
      have hlt2 : k < vs.length := by have := HNV.out; omega
      obtain ⟨b, off, rfl, hcells⟩ := HROWS.out.2.2.2 k hlt2
      have hcells' := fun j hj => HX.out.cell (hcells j hj)
      clear hcells
      have g0 := hcells' 0 (by simp [PartV.cells])
      have g1 := hcells' 1 (by simp [PartV.cells])
      have g2 := hcells' 2 (by simp [PartV.cells])
      have g3 := hcells' 3 (by simp [PartV.cells])
      have g4 := hcells' 4 (by simp [PartV.cells])
      have g5 := hcells' 5 (by simp [PartV.cells])
      have g6 := hcells' 6 (by simp [PartV.cells])
      have g7 := hcells' 7 (by simp [PartV.cells])
      simp only [PartV.cells, List.getElem_cons_zero, List.getElem_cons_succ, Nat.add_zero] at g0 g1 g2 g3 g4 g5 g6 g7
      clear hcells'
      have hs1 := Lib.hid (sumSize_take_succ ps k hlt1)
      have hs2 := sumSize_take_le ps (k + 1)
      have hm1 := Lib.hid (maxDepth_take_succ ps k hlt1)
      have hm2 := maxDepth_le HT.out k
      have hp := HR.out.2 k hlt1 hlt2
      have hps := Lib.hid hp.1
      have hpd := Lib.hid hp.2.1
      have hv1 : vs[k].size + sumSize (ps.take k) ≤ 1000000000000000 := by have := hs1.out; have := hps.out; omega
      have hv2 : vs[k].depth ≤ 1000000000000000 := by have := HT.out _ (List.getElem_mem hlt1); have := hpd.out; have := hs1.out; omega
      clear hp
      go_wp2_with fail
      go_roundw
      case rel =>
        refine composed_step (by omega) HX.out hsz HB0.out HB1.out ?_ ?_
        · rw [hs1.out, ← hps.out]; omega
        · rw [hm1.out, ← hpd.out]; split <;> omega
      case measure => simp [intOf]; omega
    · have hkn : k = ps.length := by have := HN.out; omega
      rw [hkn, List.take_length] at hc6 hc7
      have HB1' := Lib.hid (show wr.heap[w.heap.size + 1]? = some (.cells (wholeCells (1 + sumSize ps : Nat) (maxDepth ps : Nat)) 96 (0, 0)) by
        have := HB1.out; rw [hkn, List.take_length] at this; exact this)
      have q0 := blk_cell HB1'.out 0
      have q1 := blk_cell HB1'.out 1
      have q2 := blk_cell HB1'.out 2
      have q3 := blk_cell HB1'.out 3
      have q4 := blk_cell HB1'.out 4
      have q5 := blk_cell HB1'.out 5
      simp only [wholeCells] at q0 q1 q2 q3 q4 q5
      simp at q0 q1 q2 q3 q4 q5
      have hmd := maxDepth_le HT.out ps.length
      rw [List.take_length] at hmd
      clear HB1 hkn
      have HA0 := Lib.hid (show (wr.setCell ⟨w.heap.size + 1, 7, none⟩ (.int .i64 ((maxDepth ps : Int) + 1))).heap[w.heap.size]? = some (.cells (wholeCells 0 0) 96 (0, 0)) by
        rw [heap_setCell_other _ _ _ _ (by simp)]; exact HB0.out)
      have HA1 := Lib.hid (show (wr.setCell ⟨w.heap.size + 1, 7, none⟩ (.int .i64 ((maxDepth ps : Int) + 1))).heap[w.heap.size + 1]? = some (.cells (wholeCells (1 + (sumSize ps : Int)) ((maxDepth ps : Int) + 1)) 96 (0, 0)) by
        rw [heap_setCell_same _ _ _ _ _ _ HB1'.out]; simp [wholeCells])
      have HXA := Lib.hid (HX.out.setAbove (p := ⟨w.heap.size + 1, 7, none⟩) (by simp) (.int .i64 ((maxDepth ps : Int) + 1)))
      go_wp2_with fail
      refine (beyond_calls _ _ _ _ _ _ _ _ _).mono ?_
      rintro r w1 ⟨rfl, hw1⟩
      have hB0 := hw1.blk HA0.out
      have hB1 := hw1.blk HA1.out
      have HX1 := Lib.hid (HXA.out.trans hw1)
      have hsz1 := hw1.size
      simp at hsz1
      clear hw1 hc6 hc7 hf6 hf7 q0 q1 q2 q3 q4 q5 HA0 HA1 HXA HX HB0 HB1'
      have HB0 := Lib.hid hB0
      have HB1 := Lib.hid hB1
      unfold wholeCells at hB0 hB1
      obtain ⟨p0, p1, p2, p3, p4, p5, p6, p7, pf⟩ := blk8 hB0
      obtain ⟨q0, q1, q2, q3, q4, q5, q6, q7, qf⟩ := blk8 hB1
      clear hB0 hB1
      by_cases hbig : 300 < 1 + sumSize ps ∨ 16 < maxDepth ps + 1
      · have tb : (decide (300 < 1 + (sumSize ps : Int)) || decide (16 < (maxDepth ps : Int) + 1)) = true := by simp; omega
        rw [tb]
        have HC := Lib.hid (show composedF op ps = ⟨ex0, 1 + sumSize ps, maxDepth ps + 1⟩ by rw [composedF, if_pos hbig])
        generalize composedF op ps = C at *
        clear tb
        go_wp2_with fail
        refine bodyPost_ret (v := (PartV.mk ⟨0, ⟨#[]⟩, none, 0, 0, 0, 0, none, 0, 0⟩ (1 + sumSize ps) (maxDepth ps + 1)).val) (by simp [results, Tryd.results103, go_sem, PartV.val, p0, p1, p2, p3, p4, p5, p6, p7]) rfl ⟨_, rfl, ?_, ?_⟩
        · rw [HC.out]; exact ⟨rfl, rfl, isEx0 _⟩
        · repeat (with_reducible (refine Ext.setAbove ?_ ?_ _))
          exact HX1.out
          all_goals simp
      · have tb : (decide (300 < 1 + (sumSize ps : Int)) || decide (16 < (maxDepth ps : Int) + 1)) = false := by simp; omega
        rw [tb]
        have HC := Lib.hid (show composedF op ps = ⟨.mk op ⟨#[]⟩ [] 0 0 (ps.map (·.ex)), 1 + sumSize ps, maxDepth ps + 1⟩ by rw [composedF, if_neg hbig])
        generalize composedF op ps = C at *
        clear tb
        go_wp2_with fail
        rw [run_make1 elemEx w1 n (by omega) (by omega)]
        generalize hmade : madeCells _ _ = cs0
        have hcs0 : cs0.size = n * 6 := by rw [← hmade]; exact size_madeCells _ _
        have HC0 := Lib.hid hcs0
        clear hmade hcs0
        have hsz2 : w.heap.size + 1 < w1.heap.size := by omega
        have hsz3 : w.heap.size < w1.heap.size := by omega
        go_wp2_with fail
        go_loopw [45] (ComposedJ w op vs w1.heap.size n (1 + (sumSize ps : Int)) ((maxDepth ps : Int) + 1)) (fun i _ => n - (intOf i).toNat)
        case atStart =>
          refine ⟨0, cs0, by omega, rfl, ?_, ?_, ?_, ?_, HC0.out, fun i _ h => by omega⟩
          · refine Ext.alloc ?_ _
            repeat (with_reducible (refine Ext.setAbove ?_ ?_ _))
            exact HX1.out
            all_goals simp
          · refine blk_alloc ?_
            repeat (rw [heap_setCell_other _ _ _ _ (by simp)])
            exact HB0.out
          · refine blk_alloc ?_
            rw [heap_setCell_same _ _ _ _ _ _ (heap_setCell_same _ _ _ _ _ _ (heap_setCell_same _ _ _ _ _ _ (heap_setCell_same _ _ _ _ _ _ (heap_setCell_same _ _ _ _ _ _ (heap_setCell_same _ _ _ _ _ _ HB1.out)))))]
            rfl
          · have := alloc_new ((((((w1.setCell ⟨w.heap.size + 1, 0, none⟩ (.int .i64 op)).setCell ⟨w.heap.size + 1, 1, none⟩ (.string ⟨#[]⟩)).setCell ⟨w.heap.size + 1, 2, none⟩ (.slice none 0 0)).setCell ⟨w.heap.size + 1, 3, none⟩ (.int .i64 0)).setCell ⟨w.heap.size + 1, 4, none⟩ (.int .i64 0)).setCell ⟨w.heap.size + 1, 5, none⟩ (.slice (some ⟨w1.heap.size, 0, none⟩) n n)) (.cells cs0 26)
            simpa using this
        case round =>
          clear p0 p1 p2 p3 p4 p5 p6 p7 pf q0 q1 q2 q3 q4 q5 q6 q7 qf HX1 HB0 HB1 HC0 hlt hk
          obtain ⟨k2, cs, hk, rfl, hx, hb0, hb1, hb2, hcs, hfill⟩ := hrel
          have HX := Lib.hid hx
          have HB0 := Lib.hid hb0
          have HB1 := Lib.hid hb1
          have HB2 := Lib.hid hb2
          have HCS := Lib.hid hcs
          have HFI := Lib.hid hfill
          unfold wholeCells at hb0
          unfold fullCells at hb1
          have hbz0 := blk_lt hb0
          have hbz1 := blk_lt hb1
          have hbz2 := blk_lt hb2
          obtain ⟨p0, p1, p2, p3, p4, p5, p6, p7, pf⟩ := blk8 hb0
          obtain ⟨q0, q1, q2, q3, q4, q5, q6, q7, qf⟩ := blk8 hb1
          clear hx hb0 hb1 hcs hfill
          by_cases hlt : k2 < n
          · have hlt2 : k2 < vs.length := by have := HNV.out; omega
            obtain ⟨b, off, rfl, hcells⟩ := HROWS.out.2.2.2 k2 hlt2
            have hcells' := fun j hj => HX.out.cell (hcells j hj)
            clear hcells
            have g0 := hcells' 0 (by simp [PartV.cells])
            have g1 := hcells' 1 (by simp [PartV.cells])
            have g2 := hcells' 2 (by simp [PartV.cells])
            have g3 := hcells' 3 (by simp [PartV.cells])
            have g4 := hcells' 4 (by simp [PartV.cells])
            have g5 := hcells' 5 (by simp [PartV.cells])
            have g6 := hcells' 6 (by simp [PartV.cells])
            have g7 := hcells' 7 (by simp [PartV.cells])
            simp only [PartV.cells, List.getElem_cons_zero, List.getElem_cons_succ, Nat.add_zero] at g0 g1 g2 g3 g4 g5 g6 g7
            clear hcells' p0 p1 p2 p3 p4 p5 p6 p7 pf
            have hz : ∀ j, j < 6 → ∃ u, wr.cell? ⟨w1.heap.size, k2 * 6 + j, none⟩ = some u := fun j hj => by
              have := HCS.out
              exact ⟨cs[k2 * 6 + j]'(by omega), by rw [blk_cell hb2, Array.getElem?_eq_getElem]⟩
            obtain ⟨u0, z0⟩ := hz 0 (by omega)
            obtain ⟨u1, z1⟩ := hz 1 (by omega)
            obtain ⟨u2, z2⟩ := hz 2 (by omega)
            obtain ⟨u3, z3⟩ := hz 3 (by omega)
            obtain ⟨u4, z4⟩ := hz 4 (by omega)
            obtain ⟨u5, z5⟩ := hz 5 (by omega)
            simp only [Nat.add_zero] at z0
            have zf : ∀ j, wr.frozen? ⟨w1.heap.size, j, none⟩ = false := fun j => blk_free hb2 j
            clear hb2 hz
            go_wp2_with fail
            go_roundw
            case rel => exact composed_step2 hlt hlt2 HX.out (by omega) HB0.out HB1.out HB2.out HCS.out HFI.out rfl
            case measure => simp [intOf]; omega
          · clear hb2
            go_wp2_with fail
            refine bodyPost_ret (v := (PartV.mk ⟨op, ⟨#[]⟩, none, 0, 0, 0, 0, some ⟨w1.heap.size, 0, none⟩, n, n⟩ (1 + sumSize ps) (maxDepth ps + 1)).val) (by simp [results, Tryd.results103, go_sem, PartV.val, p0, p1, p2, p3, p4, p5, p6, p7]) rfl ⟨_, rfl, ?_, ?_⟩
            · rw [HC.out]
              have hk2 : k2 = n := by omega
              refine ⟨rfl, rfl, composed_fin (cs := cs) (vs := vs) HM.out ?_ (by omega) ?_ (by rw [← hk2]; exact HFI.out) HR.out HN.out⟩
              · repeat (with_reducible (refine Ext.setAbove ?_ ?_ _))
                exact HX.out
                all_goals simp
              · repeat (rw [heap_setCell_other _ _ _ _ (by simp; omega)])
                exact HB2.out
            · repeat (with_reducible (refine Ext.setAbove ?_ ?_ _))
              exact HX.out
              all_goals simp

theorem joinedF_one (op : Int) (p : Part) : joinedF op [p] = p := rfl
theorem joinedF_first (op : Int) (l : List Part) (h : l.length = 1) (h0 : 0 < l.length) : joinedF op l = l[0] := by
  match l, h with
  | [p], _ => rfl
theorem joinedF_many (op : Int) (l : List Part) (h : l.length ≠ 1) : joinedF op l = composedF op l := by
  match l, h with
  | [], _ => rfl
  | [_], h => simp at h
  | _ :: _ :: _, _ => rfl

set_option maxRecDepth 100000 in
set_option maxHeartbeats 1000000 in
theorem joined_calls (op : Int) (ps : List Part) (vs : List PartV) (a : Option Addr) (n c : Nat) (M : List Nat) (w : World) (hrows : IsRows w 8 PartV.cells vs a n c) (hR : PartsR (mask w M) ps vs) (hM : ∀ k ∈ M, k < w.heap.size)
    (ht : Tidy ps) (hsum : sumSize ps ≤ 1000000000000000) (hn : n ≤ 1000000000000) :
    Calls Tryd.prog 104 #[.int .i64 op, .slice a n c] w (PartQ (joinedF op ps) M w) := by
  have hnv : n = vs.length := hrows.1
  by_cases h1 : n = 1
  · have hl1 : 0 < vs.length := by omega
    have hl2 : 0 < ps.length := by rw [hR.1]; exact hl1
    rw [joinedF_first op ps (by rw [hR.1]; omega) hl2]
    have HP := Lib.hid (hR.2 0 hl2 hl1)
    obtain ⟨b, off, rfl, hcells⟩ := hrows.2.2.2 0 hl1
    have g0 := hcells 0 (by simp [PartV.cells])
    have g1 := hcells 1 (by simp [PartV.cells])
    have g2 := hcells 2 (by simp [PartV.cells])
    have g3 := hcells 3 (by simp [PartV.cells])
    have g4 := hcells 4 (by simp [PartV.cells])
    have g5 := hcells 5 (by simp [PartV.cells])
    have g6 := hcells 6 (by simp [PartV.cells])
    have g7 := hcells 7 (by simp [PartV.cells])
    simp only [PartV.cells, List.getElem_cons_zero, List.getElem_cons_succ, Nat.add_zero, Nat.zero_mul] at g0 g1 g2 g3 g4 g5 g6 g7
    have hlt := block_lt g0
    simp only at hlt
    clear hcells
    generalize vs[0] = v at *
    generalize ps[0] = p at *
    have t1 : ((n : Int) == 1) = true := by simp; omega
    have t2 : (0 : Int) < (n : Int) := by omega
    clear hrows hR hM hnv ht hsum hn h1 hl1 hl2
    go_enter Tryd.func104, Tryd.ntmps104
    go_wp2_with fail
    refine bodyPost_ret (v := v.val) (by simp [results, Tryd.results104, go_sem, PartV.val]) rfl ⟨v, rfl, ?_, (Ext.refl w).alloc _⟩
    exact HP.out.mono (mask_ext M ((Ext.refl w).alloc _))
  · rw [joinedF_many op ps (by rw [hR.1, ← hnv]; exact h1)]
    have HC := Lib.hid (fun (o : Obj) => composed_calls op ps vs a n c (w.heap.size :: M) (w.alloc o) (hrows.ext ((Ext.refl w).alloc o))
      (hR.mono (mask_sub_mask fun k hk hn => ⟨by simp [hn]; omega, Below.heap_alloc _ _ _ hk⟩)) (fun k hk => by
        rcases List.mem_cons.1 hk with rfl | hk
        · simp
        · have := hM k hk; simp; omega) ht hsum hn)
    have h1' : ((n : Int) == 1) = false := by simp; omega
    generalize composedF op ps = C at *
    clear hrows hR hM ht hsum hnv h1
    go_enter Tryd.func104, Tryd.ntmps104
    go_wp2_with fail
    refine (HC.out _).mono ?_
    rintro r w1 ⟨v, rfl, hv, hw1⟩
    have hb := hw1.blk (alloc_new w _)
    obtain ⟨p0, p1, p2, p3, p4, p5, p6, p7, pf⟩ := blk8 hb
    have HV := Lib.hid hv
    have HW := Lib.hid (((Ext.refl w).alloc _).trans hw1)
    clear hb hv hw1
    unfold PartV.val
    go_wp2_with fail
    refine bodyPost_ret (v := v.val) (by simp [results, Tryd.results104, go_sem, PartV.val, p0, p1, p2, p3, p4, p5, p6, p7]) rfl ⟨v, rfl, ?_, ?_⟩
    · refine HV.out.mono (mask_sub_mask fun k hk hn => ?_)
      simp only [List.mem_cons, not_or] at hn
      refine ⟨hn.2, ?_⟩
      repeat (rw [heap_setCell_other _ _ _ _ (by simp only; exact hn.1)])
    · repeat (with_reducible (refine Ext.setAbove ?_ ?_ _))
      exact HW.out
      all_goals simp
end Go.Proofs.YtaepiiediblleaaDoor
