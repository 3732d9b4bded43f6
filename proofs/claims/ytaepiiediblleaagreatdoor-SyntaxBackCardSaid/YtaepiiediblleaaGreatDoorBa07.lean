/-
  Texts of the claim, joined: Level3, Level4, Level5, Level6.
-/
import Derived.Test.YtaepiiediblleaaGreatDoorBa06
import Derived.RegionTactic
namespace Go.Proofs.YtaepiiediblleaaGreatDoor
open Go.RowKit

/-- append, as one step of a region that draws its order. -/
theorem step_append1 {t e : TypeId} {z : Value} {size bytes : Nat} (E : ElemT t e z size bytes) {ops : Array Oper} {o : Oper} {a : Act} {K : Act → World → Prop} {Q : Exit → Act → World → Prop} {Z : Prop} {W : World}
    (hgd : o.guard = none) (s x : Operand) (ho : o.op = .call { callee := .builtin .append, args := #[s, x], argTypes := #[t, t] }) (base : Nat) (v : Value) (n : Nat) (xs : List Value) (hs : a.eval s = v)
    (B m c : Nat) (news : List Value) (hx : a.eval x = .slice (some ⟨B, 0, none⟩) m c) (hl : news.length = m * size) (h1 : ∀ u ∈ news, u.oneCell' = true) (hm : 0 < m) (hn : n + m ≤ 100000000) (hb : bytes ≤ 1000) (H : Nat)
    (hown : W.ownsRow base e size v n xs) (hnews : ∀ j (h : j < news.length), W.cell? ⟨B, j, none⟩ = some news[j]) (hbase : base ≤ W.heap.size) (hH : W.heap.size = H)
    (h : ∀ g cap w', w'.ownsRow base e size (.slice (some ⟨g, 0, none⟩) (n + m) cap) (n + m) (xs ++ news) → W.grownBy w' v.ownBlock → (v.ownBlock = some g ∨ g = H) → g < w'.heap.size → K (a.put o.dst (.slice (some ⟨g, 0, none⟩) (n + m) cap)) w') :
    if Region.wanted o (yielded ops a.tmps) = true then Oper.wp Tryz.prog o a W K Q else Z := by
  obtain ⟨i, hi, hz, hsz, hby⟩ := info_parts E.info
  refine step_append_lies W hgd s x t ho base e i z size bytes E.ht hi hz hsz hby E.hzs E.hsz v n xs hs hown ⟨B, 0, none⟩ m c news hx hl ?_ h1 hm (by simp only [maxLen]; omega) ?_ hbase H hH h
  · intro j u hu
    obtain ⟨hj, rfl⟩ := List.getElem?_eq_some_iff.1 hu
    have : (⟨B, 0, none⟩ : Addr).add j = ⟨B, j, none⟩ := by unfold Addr.add; split <;> simp_all
    rw [this]
    exact hnews j hj
  · calc (n + m) * bytes ≤ 100000000 * 1000 := Nat.mul_le_mul hn hb
      _ ≤ 140737488355328 := by omega

def itF : Nat → Part → Part
  | 0, p => p
  | n + 1, p => composedF 6 [itF n p]
theorem itF_size (n : Nat) (p : Part) : (itF n p).size = p.size + n := by
  induction n with
  | zero => rfl
  | succ n ih => rw [itF, composedF]; split <;> simp [sumSize, ih] <;> omega
theorem itF_tidy (n : Nat) (p : Part) (h : p.depth ≤ p.size) : (itF n p).depth ≤ (itF n p).size := by
  induction n with
  | zero => exact h
  | succ n ih => rw [itF, composedF]; split <;> simp [sumSize, maxDepth] <;> omega

theorem potAll_snoc (l : List Lvl) (t : Lvl) : potAll (l ++ [t]) = potAll l + t.pot := by
  induction l with
  | nil => simp [potAll]
  | cons a r ih => simp [potAll, ih]; omega
theorem sumPot_snoc (l : List Part) (p : Part) : sumPot (l ++ [p]) = sumPot l + (p.size + 1) := by
  induction l with
  | nil => simp [sumPot]
  | cons a r ih => simp [sumPot, ih]; omega
theorem sumPot_eq (l : List Part) : sumPot l = sumSize l + l.length := by
  induction l with
  | nil => simp [sumPot, sumSize]
  | cons a r ih => simp [sumPot, sumSize, ih]; omega

/-- The operand with its negations, in the block box. -/
def AddI (w1 : World) (box : Nat) (K : List Nat) (p : Part) (n : Nat) (i : Value) (wr : World) : Prop :=
  ∃ (j : Nat) (v : PartV), j ≤ n ∧ i = .int .i64 j ∧ Chg [box] w1 wr ∧ wr.heap[box]? = some (.cells v.cells.toArray 56 (0, 0)) ∧ PartR (mask wr (box :: K)) (itF j p) v

/-- What add does: the last level has one part more. -/
def AddQ (toks : List Tok) (ta : Option Addr) (tn tc : Nat) (w0 w : World) (bp k : Nat) (vl : Value) (li : List Lvl) (t' : Lvl) (l : List LvlV) (M X : List Nat) (e : Ending) (w' : World) : Prop :=
  e = .returned (.tuple #[]) ∧ ∃ x' M', PI toks ta tn tc w0 w' bp k vl (li ++ [t']) (l ++ [x']) M' (X ++ M') ∧ Chg M w w' ∧ ∀ y ∈ M', y ∈ M ∨ w.heap.size ≤ y

theorem Chg.mono {N N' : List Nat} {a b : World} (h : Chg N a b) (hN : ∀ y ∈ N, y ∈ N') : Chg N' a b := ⟨h.os, h.tape, h.output, h.size, fun k hk hn => h.block k hk (fun h' => hn (hN k h'))⟩
theorem set_tail (l : List LvlV) (C : List Value) (j : Nat) (u : Value) : (l.flatMap LvlV.cells ++ C).set (l.length * 3 + j) u = l.flatMap LvlV.cells ++ C.set j u := by
  have hl := length_flatMap_of LvlV.cells 3 (fun _ => rfl) l
  rw [List.set_append_right _ _ (by omega), hl]
  congr 1
  congr 1
  omega

theorem PartsR.snoc {w : World} {ps : List Part} {vs : List PartV} {p : Part} {v : PartV} (h : PartsR w ps vs) (hp : PartR w p v) : PartsR w (ps ++ [p]) (vs ++ [v]) := by
  refine ⟨by simp [h.1], fun i h1 h2 => ?_⟩
  by_cases hi : i < ps.length
  · rw [List.getElem_append_left hi, List.getElem_append_left (by rw [← h.1]; exact hi)]
    exact h.2 i hi _
  · have e : i = ps.length := by simp at h1; omega
    subst e
    rw [List.getElem_append_right (Nat.le_refl _), List.getElem_append_right (by rw [h.1]; exact Nat.le_refl _)]
    simpa using hp

theorem Chg.grown {N : List Nat} {a w w' : World} {row : Option Nat} (h : Chg N a w) (hg : w.grownBy w' row) (hr : ∀ y, row = some y → y ∈ N ∨ a.heap.size ≤ y) : Chg N a w' :=
  ⟨hg.os.trans h.os, hg.tape.trans h.tape, hg.output.trans h.output, Nat.le_trans h.size hg.size, fun y hy hn =>
    (hg.block y (Nat.lt_of_lt_of_le hy h.size) (fun e => by rcases hr y e.symm with h' | h'; exact hn h'; omega)).trans (h.block y hy hn)⟩

/-- A row of parts of the last level has grown by one part: the new state. -/
theorem add_fin {toks : List Tok} {ta : Option Addr} {tn tc : Nat} {w0 w wr w5 w6 : World} {bp k g cap : Nat} {li : List Lvl} {t : Lvl} {l : List LvlV} {x : LvlV} {M X : List Nat} {box : Nat} {o : Obj} {vas : List PartV} {vj : PartV} {q : Part} {g6 cap6 : Nat}
    (hcw : Chg [box] w wr) (hbox : box = w.heap.size)
    (h4 : PI toks ta tn tc w0 wr bp k (.slice (some ⟨g, 0, none⟩) (l.length + 1) cap) (li ++ [t]) (l ++ [x]) M (box :: (X ++ M))) (hll : li.length = l.length) (hC5 : Chg [g] wr w5)
    (d6 : w5.ownsRow w0.heap.size 51 3 (.slice (some ⟨g, 0, none⟩) (l.length + 1) cap) (l.length + 1) (((l ++ [x]).flatMap LvlV.cells).set (l.length * 3) (.int .i64 0)))
    (d5 : LvlR w5 w0.heap.size (box :: (X ++ M)) t x) (hpva : PartsR (mask w5 (box :: (X ++ M))) t.ands vas)
    (ho6 : w6.ownsRow w0.heap.size 56 8 (.slice (some ⟨g6, 0, none⟩) (t.ands.length + 1) cap6) (t.ands.length + 1) (vas.flatMap PartV.cells ++ vj.cells))
    (hg6 : ((w5.alloc o).drew).grownBy w6 x.va.ownBlock) (hl6 : x.va.ownBlock = some g6 ∨ g6 = w5.heap.size + 1) (hlt6 : g6 < w6.heap.size)
    (hq : PartR (mask wr (box :: (X ++ M))) q vj) (hqt : q.depth ≤ q.size) (hpot : potAll (li ++ [⟨0, t.ands ++ [q], t.ors⟩]) ≤ 2 * k) :
    ∃ x' M', PI toks ta tn tc w0 (w6.setCell ⟨g, l.length * 3 + 1, none⟩ (.slice (some ⟨g6, 0, none⟩) (t.ands.length + 1) cap6)) bp k (.slice (some ⟨g, 0, none⟩) (l.length + 1) cap) (li ++ [⟨0, t.ands ++ [q], t.ors⟩]) (l ++ [x']) M' (X ++ M') ∧
      Chg M w (w6.setCell ⟨g, l.length * 3 + 1, none⟩ (.slice (some ⟨g6, 0, none⟩) (t.ands.length + 1) cap6)) ∧ ∀ y ∈ M', y ∈ M ∨ w.heap.size ≤ y := by
  have hgM : g ∈ M := by rw [h4.hM]; simp [rowOf, Value.ownBlock]
  have hvg : rowOf (.slice (some ⟨g, 0, none⟩) (l.length + 1) cap) = [g] := rfl
  have hrn := h4.rowsNot
  rw [hvg] at hrn
  have hgr : g < wr.heap.size := h4.hKlt g (h4.hK g hgM)
  have hwr : ∀ y ∈ M, y < wr.heap.size := fun y hy => h4.hKlt y (h4.hK y hy)
  have hsz5 := hC5.size
  have hsz6 := hg6.size
  simp at hsz6
  have hva : ∀ y, x.va.ownBlock = some y → y ∈ x.rows := fun y hy => List.mem_append_left _ (mem_rowOf.2 hy)
  have hg6x : g6 ≠ g := by
    rcases hl6 with h | h
    · intro e; subst e; exact (hrn _ (hva _ h)).1 (by simp)
    · have := hsz5; omega
  -- what has changed since wr, and since w5
  have hc57 : Chg (g :: rowOf x.va) w5 (w6.setCell ⟨g, l.length * 3 + 1, none⟩ (.slice (some ⟨g6, 0, none⟩) (t.ands.length + 1) cap6)) :=
    (((Chg.refl (g :: rowOf x.va) w5).alloc o).drew.grown hg6 (fun y hy => Or.inl (by simp [mem_rowOf.2 hy]))).setCell (Or.inl (by simp)) _
  have hc7 : Chg (g :: rowOf x.va) wr (w6.setCell ⟨g, l.length * 3 + 1, none⟩ (.slice (some ⟨g6, 0, none⟩) (t.ands.length + 1) cap6)) := (hC5.mono (by simp)).then hc57
  have hs7 : (w6.setCell ⟨g, l.length * 3 + 1, none⟩ (.slice (some ⟨g6, 0, none⟩) (t.ands.length + 1) cap6)).heap.size = w6.heap.size := by simp
  have hNM : ∀ y ∈ g :: rowOf x.va, y ∈ M := fun y hy => by
    rcases List.mem_cons.1 hy with rfl | hy
    · exact hgM
    · exact (hrn y (hva y (mem_rowOf.1 hy))).2.2
  -- the new set of blocks
  have hx'r : (LvlV.mk 0 (.slice (some ⟨g6, 0, none⟩) (t.ands.length + 1) cap6) x.vo).rows = g6 :: rowOf x.vo := rfl
  have hM' : ∀ y ∈ bp :: ([g] ++ (l ++ [LvlV.mk 0 (.slice (some ⟨g6, 0, none⟩) (t.ands.length + 1) cap6) x.vo]).flatMap LvlV.rows), (y ∈ M ∧ y < w6.heap.size) ∨ (w5.heap.size ≤ y ∧ y < w6.heap.size) := by
    intro y hy
    have inM : y ∈ M → (y ∈ M ∧ y < w6.heap.size) ∨ (w5.heap.size ≤ y ∧ y < w6.heap.size) := fun h => Or.inl ⟨h, by have := hwr y h; omega⟩
    rw [rows_snoc, hx'r] at hy
    rcases List.mem_cons.1 hy with rfl | hy
    · exact inM (by rw [h4.hM]; simp)
    · rcases List.mem_append.1 hy with hy | hy
      · simp at hy; subst hy; exact inM hgM
      · rcases List.mem_append.1 hy with hy | hy
        · exact inM (by rw [h4.hM, rows_snoc]; exact List.mem_cons_of_mem _ (List.mem_append_right _ (List.mem_append_left _ hy)))
        · rcases List.mem_cons.1 hy with rfl | hy
          · rcases hl6 with h | h
            · exact inM (hrn _ (hva _ h)).2.2
            · exact Or.inr ⟨by omega, hlt6⟩
          · exact inM (hrn y (List.mem_append_right _ hy)).2.2
  have hsub5 : Sub (mask w5 (box :: (X ++ M))) (mask (w6.setCell ⟨g, l.length * 3 + 1, none⟩ (.slice (some ⟨g6, 0, none⟩) (t.ands.length + 1) cap6)) (X ++ (bp :: ([g] ++ (l ++ [LvlV.mk 0 (.slice (some ⟨g6, 0, none⟩) (t.ands.length + 1) cap6) x.vo]).flatMap LvlV.rows)))) :=
    mask_sub_mask fun y hy hn => by
      simp only [List.mem_cons, List.mem_append, not_or] at hn
      exact ⟨fun h => by
        rcases List.mem_append.1 h with h | h
        · exact hn.2.1 h
        · rcases hM' y h with ⟨h1, _⟩ | ⟨h1, _⟩; exact hn.2.2 h1; omega, hc57.block y hy (fun h => hn.2.2 (hNM y h))⟩
  have hsub : Sub (mask wr (box :: (X ++ M))) (mask (w6.setCell ⟨g, l.length * 3 + 1, none⟩ (.slice (some ⟨g6, 0, none⟩) (t.ands.length + 1) cap6)) (X ++ (bp :: ([g] ++ (l ++ [LvlV.mk 0 (.slice (some ⟨g6, 0, none⟩) (t.ands.length + 1) cap6) x.vo]).flatMap LvlV.rows)))) :=
    mask_sub_mask fun y hy hn => by
      simp only [List.mem_cons, List.mem_append, not_or] at hn
      exact ⟨fun h => by
        rcases List.mem_append.1 h with h | h
        · exact hn.2.1 h
        · rcases hM' y h with ⟨h1, _⟩ | ⟨h1, _⟩; exact hn.2.2 h1; omega, hc7.block y hy (fun h => hn.2.2 (hNM y h))⟩
  have hnd := h4.rowsNd
  have hvo : ∀ y, x.vo.ownBlock = some y → y ∉ g :: rowOf x.va := by
    intro y hy h
    rcases List.mem_cons.1 h with rfl | h
    · exact (hrn y (List.mem_append_right _ (mem_rowOf.2 hy))).1 (by simp)
    · unfold LvlV.rows at hnd
      rw [List.nodup_append] at hnd
      exact hnd.2.2 y h y (mem_rowOf.2 hy) rfl
  refine ⟨LvlV.mk 0 (.slice (some ⟨g6, 0, none⟩) (t.ands.length + 1) cap6) x.vo, _, h4.replace (N := g :: rowOf x.va) hll ?_ (Nat.le_refl _) hc7 ?_ hsub ?_ ?_ ?_ ?_ (fun y hy => List.mem_append_right _ hy) ?_ hpot ?_, ?_, ?_⟩
  · refine h4.pc.chg hc7 (fun h => ?_) (fun y hy => ?_)
    · rcases List.mem_cons.1 h with e | h
      · have := h4.nd; rw [h4.hM] at this; simp [rowOf, Value.ownBlock, e] at this
      · exact (hrn bp (hva bp (mem_rowOf.1 h))).2.1 rfl
    · rcases List.mem_cons.1 hy with rfl | hy
      · exact (h4.own.lt y rfl).1
      · obtain ⟨vs, h1, _⟩ := (h4.lastR hll).2.1
        exact (h1.lt y (mem_rowOf.1 hy)).1
  · intro y hy
    rcases List.mem_cons.1 hy with rfl | hy
    · exact Or.inl (by simp [rowOf, Value.ownBlock])
    · exact Or.inl (List.mem_cons_of_mem _ (List.mem_append_right _ (hva y (mem_rowOf.1 hy))))
  · have h1 : w6.ownsRow w0.heap.size 51 3 (.slice (some ⟨g, 0, none⟩) (l.length + 1) cap) (l.length + 1) (((l ++ [x]).flatMap LvlV.cells).set (l.length * 3) (.int .i64 0)) :=
      owns_chg d6 (((Chg.refl (rowOf x.va) w5).alloc o).drew.grown hg6 (fun y hy => Or.inl (mem_rowOf.2 hy))) (fun y hy h => by
        simp [Value.ownBlock] at hy; subst hy
        exact (hrn g (hva g (mem_rowOf.1 h))).1 (by simp))
    have h2 := (h1.stored (l.length * 3 + 1) (.slice (some ⟨g6, 0, none⟩) (t.ands.length + 1) cap6)).1
    rw [flatMap_snoc] at h2
    have e0 := set_tail l x.cells 0 (.int .i64 0)
    rw [Nat.add_zero] at e0
    rw [e0, set_tail] at h2
    exact h2
  · refine ⟨rfl, ⟨vas ++ [vj], ?_, (hpva.mono hsub5).snoc (hq.mono hsub)⟩, ?_⟩
    · have := owns_chg ho6 ((Chg.refl [g] w6).setCell (p := ⟨g, l.length * 3 + 1, none⟩) (Or.inl (by simp)) (.slice (some ⟨g6, 0, none⟩) (t.ands.length + 1) cap6)) (fun y hy => by simp [Value.ownBlock] at hy; subst hy; simpa using hg6x)
      simpa using this
    · obtain ⟨vs, h1, h2⟩ := d5.2.2
      exact ⟨vs, owns_chg h1 hc57 hvo, h2.mono hsub5⟩
  · intro y hy
    rw [hx'r] at hy
    rcases List.mem_cons.1 hy with rfl | hy
    · rcases hl6 with h | h
      · exact Or.inl (hva _ h)
      · exact Or.inr (by omega)
    · exact Or.inl (List.mem_append_right _ hy)
  · rw [hx'r, List.nodup_cons]
    unfold LvlV.rows at hnd
    rw [List.nodup_append] at hnd
    refine ⟨fun h => ?_, hnd.2.1⟩
    rcases hl6 with h' | h'
    · exact hvo g6 (mem_rowOf.1 h) (List.mem_cons_of_mem _ (mem_rowOf.2 h'))
    · have := hwr g6 (hrn g6 (List.mem_append_right _ h)).2.2
      omega
  · intro y hy
    rw [hs7]
    rcases List.mem_append.1 hy with hy | hy
    · have := h4.hKlt y (List.mem_cons_of_mem _ (List.mem_append_left _ hy)); omega
    · rcases hM' y hy with ⟨_, h⟩ | ⟨_, h⟩ <;> exact h
  · have := h4.tidy t (by simp)
    refine ⟨fun z hz => ?_, this.2⟩
    rcases List.mem_append.1 hz with hz | hz
    · exact this.1 z hz
    · simp at hz; subst hz; exact hqt
  · have := hcw.trans (N' := g :: rowOf x.va) hc7
    refine ⟨hc7.os.trans hcw.os, hc7.tape.trans hcw.tape, hc7.output.trans hcw.output, Nat.le_trans hcw.size hc7.size, fun y hy hn => ?_⟩
    exact (hc7.block y (Nat.lt_of_lt_of_le hy hcw.size) (fun h => hn (hNM y h))).trans (hcw.block y hy (by simp; omega))
  · intro y hy
    rcases hM' y hy with ⟨h, _⟩ | ⟨h, _⟩
    · exact Or.inl h
    · exact Or.inr (by have := hcw.size; omega)

set_option maxRecDepth 100000 in
set_option maxHeartbeats 4000000 in
theorem add_calls {toks : List Tok} {ta : Option Addr} {tn tc : Nat} {w0 w : World} {bp k : Nat} {vl : Value} {li : List Lvl} {t : Lvl} {l : List LvlV} {x : LvlV} {M X : List Nat} (h : PI toks ta tn tc w0 w bp k vl (li ++ [t]) (l ++ [x]) M (X ++ M)) (hll : li.length = l.length)
    (p : Part) (v : PartV) (hp : PartR (mask w (X ++ M)) p v) (hpt : p.depth ≤ p.size) (hpot : potAll (li ++ [t]) + p.size + 1 ≤ 2 * k) :
    Calls Tryz.prog 40 #[.pointer (some ⟨bp, 0, none⟩), v.val] w (AddQ toks ta tn tc w0 w bp k vl li ⟨0, t.ands ++ [itF t.nots p], t.ors⟩ l M X) := by
  have HI := Lib.hid h
  have hsm := h.small
  have hkt := h.pc.hk
  obtain ⟨g, cap, rfl, hgM, hgb, hg0, hgw, -, -, -, -, hl6⟩ := h.at
  have hbw := h.pc.cells.2.2.2.2
  have hxn : x.nots = t.nots := by
    have := (h.lvl li.length (by simp) (by simp; omega)).1
    simpa [List.getElem_append_right, hll] using this
  have HXN := Lib.hid hxn
  have HP := Lib.hid hp
  have HB := Lib.hid (show ∀ o, Ext w (w.alloc o) from fun o => (Ext.refl w).alloc o)
  have hpb : t.nots ≤ 2 * k := by have := h.pot; rw [potAll_snoc] at this; unfold Lvl.pot at this; omega
  have hps : p.size ≤ 2 * k := by omega
  clear h hp hxn
  unfold PartV.val
  go_enter Tryz.func40, Tryz.ntmps40
  go_wp2_with fail
  have hI1 := Lib.hid (HI.out.ext (HB.out (.cells v.cells.toArray 56)))
  refine (top_calls' g l.length cap bp _ ?_ ?_).mono ?_
  · exact hI1.out.pc.cells.2.2.1
  · exact hl6
  rintro r w1 ⟨rfl, hx1⟩
  have hI2 := Lib.hid (hI1.out.ext hx1)
  have hE1 := Lib.hid (show Ext w w1 from (HB.out _).trans hx1)
  have hbx := Lib.hid (hx1.blk (alloc_new w _))
  have hz1 := blk_lt hbx.out
  clear hx1 hI1
  obtain ⟨g', cap', e1, -, -, -, hgw1, c0, c1, c2, cf, -⟩ := hI2.out.at
  simp only [Value.slice.injEq, Option.some.injEq, Addr.mk.injEq, and_true, true_and] at e1
  obtain ⟨rfl, rfl⟩ := e1
  rw [HXN.out] at c0
  have hS := Lib.hid (show Sub (mask w (X ++ M)) (mask w1 (w.heap.size :: (X ++ M))) from mask_sub_mask fun y hy hn => ⟨by rw [List.mem_cons, not_or]; exact ⟨by omega, hn⟩, hE1.out.block y hy⟩)
  have hI3 := Lib.hid (show PI toks ta tn tc w0 w1 bp k _ (li ++ [t]) (l ++ [x]) M (w.heap.size :: (X ++ M)) from HI.out.chg (hE1.out.chg []) (by simp) (by simp) hS.out (fun y hy => List.mem_cons_of_mem _ (HI.out.hK y hy)) (fun y hy => by
    rcases List.mem_cons.1 hy with rfl | hy
    · exact hz1
    · have := HI.out.hKlt y hy; omega))
  clear hI2
  go_wp2_with fail
  go_loopw [11] (AddI w1 w.heap.size (X ++ M) p t.nots) (fun i _ => t.nots - (intOf i).toNat)
  case atStart => exact ⟨0, v, by omega, rfl, Chg.refl _ _, hbx.out, HP.out.mono hS.out⟩
  case round =>
    obtain ⟨j, vj, hj, rfl, hcj, hbj, hpj⟩ := hrel
    have HCJ := Lib.hid hcj
    have HBJ := Lib.hid hbj
    have HPJ := Lib.hid hpj
    have hzj := blk_lt hbj
    unfold PartV.cells at hbj
    obtain ⟨b0, b1, b2, b3, b4, b5, b6, b7, bf⟩ := blk8 hbj
    clear hcj hbj hpj
    by_cases hlt : j < t.nots
    · go_wp2_with fail
      refine (composed_calls 6 [itF j p] [vj] _ 1 1 (w.heap.size :: (X ++ M)) _ ?_ ?_ ?_ ?_ ?_ ?_).mono ?_
      · refine ⟨rfl, by omega, Or.inr ⟨_, _, rfl⟩, fun i hi => ⟨_, _, rfl, fun y hy => ?_⟩⟩
        obtain rfl : i = 0 := by simp at hi; exact hi
        have := World.cell?_alloc_at (w := wr) (#[.int .i64 vj.x.op, .string vj.x.name, .slice vj.x.aw vj.x.nw vj.x.cw, .int .i64 vj.x.lo, .int .i64 vj.x.hi, .slice vj.x.aa vj.x.na vj.x.ca, .int .i64 vj.size, .int .i64 vj.depth]) 56 wr.heap.size y rfl
        simp only [Nat.zero_mul, Nat.zero_add]
        rw [this]
        simp [PartV.cells]
      · refine ⟨rfl, fun i h1 h2 => ?_⟩
        obtain rfl : i = 0 := by simp at h1; exact h1
        exact HPJ.out.mono (mask_ext _ ((Ext.refl wr).alloc _))
      · intro y hy
        rcases List.mem_cons.1 hy with rfl | hy
        · simp; omega
        · have := HI.out.hKlt y hy; simp; omega
      · intro z hz
        simp at hz; subst hz
        exact itF_tidy _ _ hpt
      · simp only [sumSize, itF_size]; omega
      · omega
      rintro r w2 ⟨v2, rfl, hv2, hx2⟩
      have HV2 := Lib.hid hv2
      have HX2 := Lib.hid (((Ext.refl wr).alloc _).trans hx2)
      have hb2 := HX2.out.blk HBJ.out
      have hz2 := blk_lt hb2
      have HB2 := Lib.hid hb2
      unfold PartV.cells at hb2
      clear b0 b1 b2 b3 b4 b5 b6 b7 bf
      obtain ⟨b0, b1, b2, b3, b4, b5, b6, b7, bf⟩ := blk8 hb2
      clear hv2 hx2 hb2 c0 c1 c2 cf
      unfold PartV.val
      go_wp2_with fail
      go_roundw
      case rel =>
        refine ⟨j + 1, v2, by omega, by go_num, ?_, ?_, ?_⟩
        · refine HCJ.out.then (Chg.then (HX2.out.chg _) ?_)
          repeat (with_reducible (refine Chg.setCell ?_ ?_ _))
          exact Chg.refl _ _
          all_goals (refine Or.inl ?_; simp)
        · rw [heap_setCell_same _ _ _ _ _ _ (heap_setCell_same _ _ _ _ _ _ (heap_setCell_same _ _ _ _ _ _ (heap_setCell_same _ _ _ _ _ _ (heap_setCell_same _ _ _ _ _ _ (heap_setCell_same _ _ _ _ _ _ (heap_setCell_same _ _ _ _ _ _ (heap_setCell_same _ _ _ _ _ _ HB2.out)))))))]
          rfl
        · refine HV2.out.mono (mask_sub_mask fun y hy hn => ⟨hn, ?_⟩)
          simp only [List.mem_cons, not_or] at hn
          repeat (rw [heap_setCell_other _ _ _ _ (by simp only; exact hn.1)])
      case measure => simp [intOf]; omega
    · have hjn : j = t.nots := by omega
      rw [hjn] at HPJ
      have hI4 := Lib.hid (show PI toks ta tn tc w0 wr bp k _ (li ++ [t]) (l ++ [x]) M (w.heap.size :: (X ++ M)) from hI3.out.chg HCJ.out (fun y hy => by have := HI.out.hKlt y (HI.out.hK y hy); simp; omega) (by simp; have := HI.out.pc.hx.size; omega) (mask_sub_mask fun y hy hn => ⟨hn, HCJ.out.block y hy (by rw [List.mem_cons, not_or] at hn; simpa using hn.1)⟩) (fun y hy => List.mem_cons_of_mem _ (HI.out.hK y hy)) (fun y hy => by
        rcases List.mem_cons.1 hy with rfl | hy
        · exact hzj
        · have := HI.out.hKlt y hy; omega))
      clear c0 c1 c2 cf hI3 hbx hjn
      obtain ⟨g', cap', e1, -, -, -, hgw2, c0, c1, c2, cf, -⟩ := hI4.out.at
      simp only [Value.slice.injEq, Option.some.injEq, Addr.mk.injEq, and_true, true_and] at e1
      obtain ⟨rfl, rfl⟩ := e1
      have hgx : ∀ y ∈ x.rows, y ≠ g := fun y hy e => (hI4.out.rowsNot y hy).1 (by subst e; simp [rowOf, Value.ownBlock])
      have hC5 := Lib.hid ((Chg.refl [g] wr).setCell (p := ⟨g, l.length * 3, none⟩) (Or.inl (by simp)) (.int .i64 0))
      have d1 := Lib.hid (show (wr.setCell ⟨g, l.length * 3, none⟩ (.int .i64 0)).cell? ⟨g, l.length * 3 + 1, none⟩ = some x.va by rw [World.cell?_setCell_other _ _ _ _ (by simp)]; exact c1)
      have d2 := Lib.hid (show (wr.setCell ⟨g, l.length * 3, none⟩ (.int .i64 0)).heap[w.heap.size]? = some (.cells vj.cells.toArray 56 (0, 0)) from (heap_setCell_other _ _ _ _ (by simp; omega)).trans HBJ.out)
      have d3 := Lib.hid (show ∀ y, (wr.setCell ⟨g, l.length * 3, none⟩ (.int .i64 0)).frozen? ⟨g, y, none⟩ = false from fun y => by simpa using cf y)
      have d4 := Lib.hid (show g < (wr.setCell ⟨g, l.length * 3, none⟩ (.int .i64 0)).heap.size by simpa using hgw2)
      have d5 := Lib.hid ((hI4.out.lastR hll).chg (K' := w.heap.size :: (X ++ M)) hC5.out (fun y hy => by simpa using hgx y hy) (mask_sub_mask fun y hy hn => ⟨hn, hC5.out.block y hy (by simp; intro e; subst e; exact hn (List.mem_cons_of_mem _ (HI.out.hK _ hgM)))⟩))
      have hown4 : wr.ownsRow w0.heap.size 51 3 (.slice (some ⟨g, 0, none⟩) (l.length + 1) cap) (l.length + 1) ((l ++ [x]).flatMap LvlV.cells) := by
        have := hI4.out.own; rwa [List.length_append, List.length_singleton] at this
      have d6 := Lib.hid (hown4.stored (l.length * 3) (.int .i64 0)).1
      clear hown4
      have hzz : (wr.setCell ⟨g, l.length * 3, none⟩ (.int .i64 0)).heap.size = wr.heap.size := by simp
      go_wp2_with fail
      clear c0 c1 c2 cf b0 b1 b2 b3 b4 b5 b6 b7 bf
      generalize wr.setCell ⟨g, l.length * 3, none⟩ (.int .i64 0) = w5 at *
      have hB5 := d2.out
      unfold PartV.cells at hB5
      obtain ⟨b0, b1, b2, b3, b4, b5, b6, b7, bf⟩ := blk8 hB5
      have c1 := d1.out
      have cf := d3.out
      have hg5 := d4.out
      have hz5 : w.heap.size < w5.heap.size := blk_lt hB5
      have HZ5 := Lib.hid hzz
      clear hB5 hzz
      obtain ⟨vas, hova, hpva⟩ := d5.out.2.1
      have HOVA := Lib.hid hova
      have HPVA := Lib.hid hpva
      have hb5 : w0.heap.size ≤ w5.heap.size := by omega
      have hlen : t.ands.length ≤ 2 * k := by have := HI.out.pot; rw [potAll_snoc] at this; unfold Lvl.pot at this; rw [sumPot_eq] at this; omega
      clear hova hpva
      have HNW : Hid (∀ j (hj : j < vj.cells.length), ((w5.alloc (.cells #[.int .i64 vj.x.op, .string vj.x.name, .slice vj.x.aw vj.x.nw vj.x.cw, .int .i64 vj.x.lo, .int .i64 vj.x.hi, .slice vj.x.aa vj.x.na vj.x.ca, .int .i64 vj.size, .int .i64 vj.depth] 56)).drew).cell? ⟨w5.heap.size, j, none⟩ = some vj.cells[j]) := by
        intro j hj
        show (w5.alloc _).cell? _ = _
        rw [World.cell?_alloc_at _ _ _ _ rfl]
        simp [PartV.cells]
      have HNE := Lib.hid (show some g ≠ x.va.ownBlock from fun e => hgx g (List.mem_append_left _ (mem_rowOf.2 e.symm)) rfl)
      go_region_law ((refine step_append1 info_part rfl _ _ rfl w0.heap.size _ t.ands.length _ rfl _ 1 1 vj.cells rfl rfl (by simp [PartV.cells, Value.oneCell']) (by omega) (by omega) (by omega) (w5.heap.size + 1) (owns_ext HOVA.out ((Ext.refl w5).alloc _).drew) HNW.out (by simp; omega) (by simp) ?_; intro g6 cap6 w6 ho6 hg6 hl6' hlt6; have e1 : w6.cell? ⟨g, l.length * 3 + 1, none⟩ = some x.va := hg6.cell ((((Ext.refl w5).alloc _).drew).cell c1) HNE.out; have e2 : w6.frozen? ⟨g, l.length * 3 + 1, none⟩ = false := by rw [World.frozen?_of_block (hg6.block g (by simp; omega) HNE.out)]; exact (((Ext.refl w5).alloc _).drew.frozen c1).trans (cf _)))
      all_goals
        go_end0
        exact ⟨rfl, add_fin (hE1.out.chg [w.heap.size] |>.then HCJ.out) rfl hI4.out hll hC5.out d6.out d5.out HPVA.out ho6 hg6 hl6' hlt6 HPJ.out (itF_tidy _ _ hpt) (by
          rw [potAll_snoc] at hpot ⊢
          unfold Lvl.pot at hpot ⊢
          rw [sumPot_snoc, itF_size]
          simp only
          omega)⟩
end Go.Proofs.YtaepiiediblleaaGreatDoor

namespace Go.Proofs.YtaepiiediblleaaGreatDoor
open Go.RowKit

/-- Only the place has changed. -/
theorem PI.step {toks : List Tok} {ta : Option Addr} {tn tc : Nat} {w0 w : World} {bp k : Nat} {vl : Value} {lv : List Lvl} {lvs : List LvlV} {M K : List Nat} (h : PI toks ta tn tc w0 w bp k vl lv lvs M K) {w' : World} {k' : Nat} (hc : Chg [bp] w w') (hp : PC toks ta tn tc w0 w' bp k' vl) (hk : k ≤ k') : PI toks ta tn tc w0 w' bp k' vl lv lvs M K := by
  have hnd := h.nd
  rw [h.hM, List.nodup_cons] at hnd
  have hbK : bp ∈ K := h.hK bp (by rw [h.hM]; simp)
  have hs : Sub (mask w K) (mask w' K) := mask_sub_mask fun y hy hn => ⟨hn, hc.block y hy (by simp; intro e; subst e; exact hn hbK)⟩
  have hne : ∀ y, y ∈ rowOf vl ++ lvs.flatMap LvlV.rows → y ∉ [bp] := fun y hy h' => by simp at h'; subst h'; exact hnd.1 hy
  refine ⟨hp, owns_chg h.own hc (fun y hy => hne y (List.mem_append_left _ (mem_rowOf.2 hy))), h.len, fun i h1 h2 => (h.lvl i h1 h2).chg hc (fun y hy => hne y (List.mem_append_right _ (List.mem_flatMap.2 ⟨lvs[i], List.getElem_mem h2, hy⟩))) hs, h.hM, h.nd, h.hK,
    fun y hy => Nat.lt_of_lt_of_le (h.hKlt y hy) hc.size, by have := h.pot; omega, by have := h.cnt; omega, h.tidy, h.small⟩

/-- The last level has been written anew: the new state. -/
theorem PI.finish {toks : List Tok} {ta : Option Addr} {tn tc : Nat} {w0 w w7 : World} {bp k g cap : Nat} {li : List Lvl} {t t' : Lvl} {l : List LvlV} {x x' : LvlV} {M K N : List Nat} (X : List Nat) (hX : ∀ y ∈ X, y ∈ K)
    (h : PI toks ta tn tc w0 w bp k (.slice (some ⟨g, 0, none⟩) (l.length + 1) cap) (li ++ [t]) (l ++ [x]) M K) (hll : li.length = l.length) (hN : ∀ y ∈ N, y = g ∨ y ∈ x.rows) (hc : Chg N w w7)
    (hown : w7.ownsRow w0.heap.size 51 3 (.slice (some ⟨g, 0, none⟩) (l.length + 1) cap) (l.length + 1) (l.flatMap LvlV.cells ++ x'.cells))
    (hr : ∀ y ∈ x'.rows, y ∈ x.rows ∨ w.heap.size ≤ y) (hlt : ∀ y ∈ x'.rows, y < w7.heap.size) (hnd : x'.rows.Nodup)
    (hnew : ∀ M' : List Nat, (∀ wx : World, Chg N wx w7 → (∀ y ∈ x'.rows, y ∈ x.rows ∨ wx.heap.size ≤ y) → Sub (mask wx K) (mask w7 M')) → LvlR w7 w0.heap.size M' t' x')
    (hpot : potAll (li ++ [t']) ≤ 2 * k) (htidy : Tidy t'.ands ∧ Tidy t'.ors) :
    ∃ M', PI toks ta tn tc w0 w7 bp k (.slice (some ⟨g, 0, none⟩) (l.length + 1) cap) (li ++ [t']) (l ++ [x']) M' (X ++ M') ∧ Chg M w w7 ∧ ∀ y ∈ M', y ∈ M ∨ w.heap.size ≤ y := by
  have hgM : g ∈ M := by rw [h.hM]; simp [rowOf, Value.ownBlock]
  have hrn := h.rowsNot
  have hNM : ∀ y ∈ N, y ∈ M := fun y hy => by
    rcases hN y hy with rfl | hy
    · exact hgM
    · exact (hrn y hy).2.2
  have hpre : ∀ y, y ∈ bp :: ([g] ++ (l ++ [x']).flatMap LvlV.rows) → y ∈ M ∨ y ∈ x'.rows := by
    intro y hy
    rw [rows_snoc] at hy
    rcases List.mem_cons.1 hy with rfl | hy
    · exact Or.inl (by rw [h.hM]; simp)
    · rcases List.mem_append.1 hy with hy | hy
      · simp at hy; subst hy; exact Or.inl hgM
      · rcases List.mem_append.1 hy with hy | hy
        · exact Or.inl (by rw [h.hM, rows_snoc]; exact List.mem_cons_of_mem _ (List.mem_append_right _ (List.mem_append_left _ hy)))
        · exact Or.inr hy
  have hsub : ∀ wx : World, Chg N wx w7 → (∀ y ∈ x'.rows, y ∈ x.rows ∨ wx.heap.size ≤ y) → Sub (mask wx K) (mask w7 (X ++ (bp :: ([g] ++ (l ++ [x']).flatMap LvlV.rows)))) := by
    intro wx hcx hrx
    refine mask_sub_mask fun y hy hn => ⟨fun h' => ?_, hcx.block y hy (fun h' => hn (h.hK y (hNM y h')))⟩
    rcases List.mem_append.1 h' with h' | h'
    · exact hn (hX y h')
    rcases hpre y h' with h' | h'
    · exact hn (h.hK y h')
    · rcases hrx y h' with h'' | h''
      · exact hn (h.hK y (hrn y h'').2.2)
      · omega
  refine ⟨bp :: ([g] ++ (l ++ [x']).flatMap LvlV.rows), h.replace (N := N) hll ?_ (Nat.le_refl _) hc ?_ (hsub w hc hr) hown (hnew _ hsub) hr hnd (fun y hy => List.mem_append_right _ hy) ?_ hpot htidy, ⟨hc.os, hc.tape, hc.output, hc.size, fun y hy hn => hc.block y hy (fun h' => hn (hNM y h'))⟩, ?_⟩
  · refine h.pc.chg hc (fun h' => ?_) (fun y hy => ?_)
    · rcases hN bp h' with e | h'
      · have := h.nd; rw [h.hM] at this; simp [rowOf, Value.ownBlock, e] at this
      · exact (hrn bp h').2.1 rfl
    · rcases hN y hy with rfl | hy
      · exact (h.own.lt y rfl).1
      · rcases List.mem_append.1 hy with hy | hy
        · obtain ⟨vs, h1, _⟩ := (h.lastR hll).2.1
          exact (h1.lt y (mem_rowOf.1 hy)).1
        · obtain ⟨vs, h1, _⟩ := (h.lastR hll).2.2
          exact (h1.lt y (mem_rowOf.1 hy)).1
  · intro y hy
    rcases hN y hy with rfl | hy
    · exact Or.inl (by simp [rowOf, Value.ownBlock])
    · exact Or.inl (List.mem_cons_of_mem _ (List.mem_append_right _ hy))
  · intro y hy
    rcases List.mem_append.1 hy with hy | hy
    · exact Nat.lt_of_lt_of_le (h.hKlt y (hX y hy)) hc.size
    rcases hpre y hy with h' | h'
    · exact Nat.lt_of_lt_of_le (h.hKlt y (h.hK y h')) hc.size
    · exact hlt y h'
  · intro y hy
    rcases hpre y hy with h' | h'
    · exact Or.inl h'
    · rcases hr y h' with h'' | h''
      · exact Or.inl (hrn y h'').2.2
      · exact Or.inr h''

theorem ownParts_rows {w : World} {base : Nat} {K : List Nat} {l : List Part} {v : Value} (h : OwnParts w base K l v) : ∃ a c vs, v = .slice a l.length c ∧ IsRows w 8 PartV.cells vs a l.length c ∧ PartsR (mask w K) l vs := by
  obtain ⟨vs, h1, h2⟩ := h
  rw [h2.1] at h1
  obtain ⟨a, c, rfl, hr⟩ := IsRows.of_owns (f := PartV.cells) (fun _ => rfl) h1
  refine ⟨a, c, vs, by rw [h2.1], by rw [h2.1]; exact hr, h2⟩

/-- What another does. -/
def AnotherQ (b : Bool) (k' : Nat) (t' : Lvl) (toks : List Tok) (ta : Option Addr) (tn tc : Nat) (w0 w : World) (bp : Nat) (vl : Value) (li : List Lvl) (l : List LvlV) (M X : List Nat) (e : Ending) (w' : World) : Prop :=
  e = .returned (.bool b) ∧ ∃ x' M', PI toks ta tn tc w0 w' bp k' vl (li ++ [t']) (l ++ [x']) M' (X ++ M') ∧ Chg M w w' ∧ ∀ y ∈ M', y ∈ M ∨ w.heap.size ≤ y

set_option maxRecDepth 100000 in
set_option maxHeartbeats 2000000 in
theorem another_and {toks : List Tok} {ta : Option Addr} {tn tc : Nat} {w0 w : World} {bp k : Nat} {vl : Value} {li : List Lvl} {t : Lvl} {l : List LvlV} {x : LvlV} {M X : List Nat} (h : PI toks ta tn tc w0 w bp k vl (li ++ [t]) (l ++ [x]) M (X ++ M)) (ho : HasOps w0) (h1 : acceptB toks k 1 wAnd = true) :
    Calls Tryz.prog 41 #[.pointer (some ⟨bp, 0, none⟩)] w (AnotherQ true (k + 1) t toks ta tn tc w0 w bp vl li l M X) := by
  have HI := Lib.hid h
  have H1 := Lib.hid h1
  obtain ⟨o1, o2, o4, o5, o6, o7, o8, olt⟩ := opsAt ho h.pc.hx
  have hbM : bp ∈ M := by rw [h.hM]; simp
  clear h ho h1
  go_enter Tryz.func41, Tryz.ntmps41
  go_wp2_with fail
  refine (HI.out.pc.acceptY H1.out).mono ?_
  rintro r w1 ⟨rfl, hc1, hp1⟩
  have HC1 := Lib.hid hc1
  have HP1 := Lib.hid hp1
  clear hc1 hp1 o1 o2 o4 o5 o6 o7 o8 olt
  go_wp2_with fail
  go_ret
  exact ⟨rfl, x, M, HI.out.step HC1.out HP1.out (by omega), HC1.out.mono (by simpa using hbM), fun y hy => Or.inl hy⟩

set_option maxRecDepth 100000 in
set_option maxHeartbeats 2000000 in
theorem another_none {toks : List Tok} {ta : Option Addr} {tn tc : Nat} {w0 w : World} {bp k : Nat} {vl : Value} {li : List Lvl} {t : Lvl} {l : List LvlV} {x : LvlV} {M X : List Nat} (h : PI toks ta tn tc w0 w bp k vl (li ++ [t]) (l ++ [x]) M (X ++ M)) (ho : HasOps w0) (h1 : acceptB toks k 1 wAnd = false) (h2 : acceptB toks k 1 wOr = false) :
    Calls Tryz.prog 41 #[.pointer (some ⟨bp, 0, none⟩)] w (AnotherQ false k t toks ta tn tc w0 w bp vl li l M X) := by
  have HI := Lib.hid h
  have H1 := Lib.hid h1
  have H2 := Lib.hid h2
  have HO := Lib.hid ho
  obtain ⟨o1, o2, o4, o5, o6, o7, o8, olt⟩ := opsAt ho h.pc.hx
  have hbM : bp ∈ M := by rw [h.hM]; simp
  clear h ho h1 h2
  go_enter Tryz.func41, Tryz.ntmps41
  go_wp2_with fail
  refine (HI.out.pc.acceptN H1.out).mono ?_
  rintro r w1 ⟨rfl, hc1, hp1⟩
  have HC1 := Lib.hid hc1
  have HP1 := Lib.hid hp1
  clear hc1 hp1 o1 o2 o4 o5 o6 o7 o8 olt
  obtain ⟨o1, o2, o4, o5, o6, o7, o8, olt⟩ := opsAt HO.out HP1.out.hx
  go_wp2_with fail
  refine (HP1.out.acceptN H2.out).mono ?_
  rintro r w2 ⟨rfl, hc2, hp2⟩
  have HC2 := Lib.hid (HC1.out.then hc2)
  have HP2 := Lib.hid hp2
  clear hc2 hp2 o1 o2 o4 o5 o6 o7 o8 olt
  go_wp2_with fail
  go_ret
  exact ⟨rfl, x, M, HI.out.step HC2.out HP2.out (by omega), HC2.out.mono (by simpa using hbM), fun y hy => Or.inl hy⟩
end Go.Proofs.YtaepiiediblleaaGreatDoor

namespace Go.Proofs.YtaepiiediblleaaGreatDoor
open Go.RowKit

theorem joinedF_size (op : Int) (l : List Part) : (joinedF op l).size ≤ 1 + sumSize l := by
  match l with
  | [] => simp [joinedF, composedF, sumSize, maxDepth]
  | [p] => simp [joinedF, sumSize]
  | a :: b :: r => simp only [joinedF, composedF]; split <;> simp
theorem maxDepth_all {l : List Part} (h : Tidy l) : maxDepth l ≤ sumSize l := by
  have := maxDepth_le h l.length
  rwa [List.take_length] at this
theorem joinedF_tidy (op : Int) (l : List Part) (h : Tidy l) : (joinedF op l).depth ≤ (joinedF op l).size := by
  have hm := maxDepth_all h
  match l, h with
  | [], _ => simp [joinedF, composedF, sumSize, maxDepth]
  | [p], h => exact h p (by simp)
  | a :: b :: r, _ => simp only [joinedF, composedF]; split <;> simp <;> omega

theorem another_fin {toks : List Tok} {ta : Option Addr} {tn tc : Nat} {w0 w3 w4 w6 : World} {bp k g cap : Nat} {li : List Lvl} {t : Lvl} {l : List LvlV} {x : LvlV} {M X : List Nat} {o : Obj} {vos : List PartV} {vq : PartV} {q : Part} {g6 cap6 : Nat}
    (h : PI toks ta tn tc w0 w3 bp k (.slice (some ⟨g, 0, none⟩) (l.length + 1) cap) (li ++ [t]) (l ++ [x]) M (X ++ M)) (hll : li.length = l.length) (hx4 : Ext w3 w4) (hpo : PartsR (mask w3 (X ++ M)) t.ors vos)
    (ho6 : w6.ownsRow w0.heap.size 56 8 (.slice (some ⟨g6, 0, none⟩) (t.ors.length + 1) cap6) (t.ors.length + 1) (vos.flatMap PartV.cells ++ vq.cells))
    (hg6 : (w4.alloc o).grownBy w6 x.vo.ownBlock) (hl6 : x.vo.ownBlock = some g6 ∨ g6 = w4.heap.size + 1) (hlt6 : g6 < w6.heap.size)
    (hq : PartR (mask w4 (X ++ M)) q vq) (hqt : q.depth ≤ q.size) (hpot : potAll (li ++ [⟨t.nots, [], t.ors ++ [q]⟩]) ≤ 2 * k) :
    ∃ x' M', PI toks ta tn tc w0 ((w6.setCell ⟨g, l.length * 3 + 2, none⟩ (.slice (some ⟨g6, 0, none⟩) (t.ors.length + 1) cap6)).setCell ⟨g, l.length * 3 + 1, none⟩ (.slice none 0 0)) bp k (.slice (some ⟨g, 0, none⟩) (l.length + 1) cap) (li ++ [⟨t.nots, [], t.ors ++ [q]⟩]) (l ++ [x']) M' (X ++ M') ∧
      Chg M w3 ((w6.setCell ⟨g, l.length * 3 + 2, none⟩ (.slice (some ⟨g6, 0, none⟩) (t.ors.length + 1) cap6)).setCell ⟨g, l.length * 3 + 1, none⟩ (.slice none 0 0)) ∧ ∀ y ∈ M', y ∈ M ∨ w3.heap.size ≤ y := by
  have hrn := h.rowsNot
  have hvo : ∀ y, x.vo.ownBlock = some y → y ∈ x.rows := fun y hy => List.mem_append_right _ (mem_rowOf.2 hy)
  have hgx : ∀ y ∈ x.rows, y ≠ g := fun y hy e => (hrn y hy).1 (by subst e; simp [rowOf, Value.ownBlock])
  have hgl : g < w3.heap.size := h.hKlt g (h.hK g (by rw [h.hM]; simp [rowOf, Value.ownBlock]))
  have hs4 := hx4.size
  have hg6x : g6 ≠ g := by
    rcases hl6 with h' | h'
    · exact hgx _ (hvo _ h')
    · omega
  have hc46 : ∀ wx, Ext wx w4 → Chg (g :: rowOf x.vo) wx w6 := fun wx hx => ((hx.chg (g :: rowOf x.vo)).alloc o).grown hg6 (fun y hy => Or.inl (List.mem_cons_of_mem _ (mem_rowOf.2 hy)))
  have hc7 : ∀ wx, Ext wx w4 → Chg (g :: rowOf x.vo) wx ((w6.setCell ⟨g, l.length * 3 + 2, none⟩ (.slice (some ⟨g6, 0, none⟩) (t.ors.length + 1) cap6)).setCell ⟨g, l.length * 3 + 1, none⟩ (.slice none 0 0)) := fun wx hx => ((hc46 wx hx).setCell (Or.inl (by simp)) _).setCell (Or.inl (by simp)) _
  have hx'r : (LvlV.mk x.nots (.slice none 0 0) (.slice (some ⟨g6, 0, none⟩) (t.ors.length + 1) cap6)).rows = [g6] := rfl
  refine ⟨LvlV.mk x.nots (.slice none 0 0) (.slice (some ⟨g6, 0, none⟩) (t.ors.length + 1) cap6), h.finish (N := g :: rowOf x.vo) X (fun y hy => List.mem_append_left _ hy) hll ?_ (hc7 w3 hx4) ?_ ?_ ?_ (by rw [hx'r]; simp) ?_ hpot ?_⟩
  · intro y hy
    rcases List.mem_cons.1 hy with rfl | hy
    · exact Or.inl rfl
    · exact Or.inr (hvo y (mem_rowOf.1 hy))
  · have hown := h.own
    rw [List.length_append, List.length_singleton] at hown
    have h1 : w6.ownsRow w0.heap.size 51 3 (.slice (some ⟨g, 0, none⟩) (l.length + 1) cap) (l.length + 1) ((l ++ [x]).flatMap LvlV.cells) :=
      owns_chg hown (((hx4.chg (rowOf x.vo)).alloc o).grown hg6 (fun y hy => Or.inl (mem_rowOf.2 hy))) (fun y hy h' => by
        simp [Value.ownBlock] at hy; subst hy
        exact hgx g (hvo g (mem_rowOf.1 h')) rfl)
    have h2 := ((h1.stored (l.length * 3 + 2) (.slice (some ⟨g6, 0, none⟩) (t.ors.length + 1) cap6)).1.stored (l.length * 3 + 1) (.slice none 0 0)).1
    rw [flatMap_snoc, set_tail, set_tail] at h2
    exact h2
  · intro y hy
    rw [hx'r] at hy
    simp at hy
    subst hy
    rcases hl6 with h' | h'
    · exact Or.inl (hvo _ h')
    · exact Or.inr (by omega)
  · intro y hy
    rw [hx'r] at hy
    simp at hy
    subst hy
    simpa using hlt6
  · intro M' hsub
    refine ⟨(h.lastR hll).1, ⟨[], World.ownsRow_nil _ _ _ _, rfl, fun i hi => by simp at hi⟩, ⟨vos ++ [vq], ?_, (hpo.mono (hsub w3 (hc7 w3 hx4) ?_)).snoc (hq.mono (hsub w4 (hc7 w4 (Ext.refl _)) ?_))⟩⟩
    · have := owns_chg ho6 (((Chg.refl [g] w6).setCell (p := ⟨g, l.length * 3 + 2, none⟩) (Or.inl (by simp)) (.slice (some ⟨g6, 0, none⟩) (t.ors.length + 1) cap6)).setCell (p := ⟨g, l.length * 3 + 1, none⟩) (Or.inl (by simp)) (.slice none 0 0)) (fun y hy => by simp [Value.ownBlock] at hy; subst hy; simpa using hg6x)
      simpa using this
    · intro y hy
      rw [hx'r] at hy
      simp at hy
      subst hy
      rcases hl6 with h' | h'
      · exact Or.inl (hvo _ h')
      · exact Or.inr (by omega)
    · intro y hy
      rw [hx'r] at hy
      simp at hy
      subst hy
      rcases hl6 with h' | h'
      · exact Or.inl (hvo _ h')
      · exact Or.inr (by omega)
  · refine ⟨fun z hz => by simp at hz, fun z hz => ?_⟩
    rcases List.mem_append.1 hz with hz | hz
    · exact (h.tidy t (by simp)).2 z hz
    · simp at hz; subst hz; exact hqt

set_option maxRecDepth 100000 in
set_option maxHeartbeats 4000000 in
theorem another_or {toks : List Tok} {ta : Option Addr} {tn tc : Nat} {w0 w : World} {bp k : Nat} {vl : Value} {li : List Lvl} {t : Lvl} {l : List LvlV} {x : LvlV} {M X : List Nat} (h : PI toks ta tn tc w0 w bp k vl (li ++ [t]) (l ++ [x]) M (X ++ M)) (hll : li.length = l.length) (ho : HasOps w0) (h1 : acceptB toks k 1 wAnd = false) (h2 : acceptB toks k 1 wOr = true) (hne : t.ands ≠ []) :
    Calls Tryz.prog 41 #[.pointer (some ⟨bp, 0, none⟩)] w (AnotherQ true (k + 1) ⟨t.nots, [], t.ors ++ [joinedF 7 t.ands]⟩ toks ta tn tc w0 w bp vl li l M X) := by
  have HI := Lib.hid h
  have H1 := Lib.hid h1
  have H2 := Lib.hid h2
  have HO := Lib.hid ho
  have hsm := h.small
  have hkt := h.pc.hk
  obtain ⟨o1, o2, o4, o5, o6, o7, o8, olt⟩ := opsAt ho h.pc.hx
  have hbM : bp ∈ M := by rw [h.hM]; simp
  clear h ho h1 h2
  go_enter Tryz.func41, Tryz.ntmps41
  go_wp2_with fail
  refine (HI.out.pc.acceptN H1.out).mono ?_
  rintro r w1 ⟨rfl, hc1, hp1⟩
  have HC1 := Lib.hid hc1
  have HP1 := Lib.hid hp1
  clear hc1 hp1 o1 o2 o4 o5 o6 o7 o8 olt
  obtain ⟨o1, o2, o4, o5, o6, o7, o8, olt⟩ := opsAt HO.out HP1.out.hx
  go_wp2_with fail
  refine (HP1.out.acceptY H2.out).mono ?_
  rintro r w2 ⟨rfl, hc2, hp2⟩
  have HC2 := Lib.hid (HC1.out.then hc2)
  have hI2 := Lib.hid (HI.out.step HC2.out hp2 (by omega))
  clear hc2 hp2 o1 o2 o4 o5 o6 o7 o8 olt HC1 HP1
  obtain ⟨g, cap, rfl, hgM, hgb, hg0, hgw, -, -, -, -, hl6⟩ := hI2.out.at
  go_wp2_with fail
  refine (top_calls' g l.length cap bp _ hI2.out.pc.cells.2.2.1 hl6).mono ?_
  rintro r w3 ⟨rfl, hx3⟩
  have hI3 := Lib.hid (hI2.out.ext hx3)
  have HC3 := Lib.hid (HC2.out.then (hx3.chg _))
  clear hx3 hI2 HC2
  obtain ⟨g', cap', e1, -, -, -, hgw3, -, c1, c2, cf, -⟩ := hI3.out.at
  simp only [Value.slice.injEq, Option.some.injEq, Addr.mk.injEq, and_true, true_and] at e1
  obtain ⟨rfl, rfl⟩ := e1
  obtain ⟨aa, ca, vas, eva, hra, hpa⟩ := ownParts_rows (hI3.out.lastR hll).2.1
  obtain ⟨vos, hov, hpo⟩ := (hI3.out.lastR hll).2.2
  obtain ⟨oa, oc, ovs, evo, -, -⟩ := ownParts_rows (hI3.out.lastR hll).2.2
  have hb3 := hI3.out.pc.hx.size
  have hpot := hI3.out.pot
  rw [potAll_snoc] at hpot
  unfold Lvl.pot at hpot
  rw [sumPot_eq, sumPot_eq] at hpot
  have hlen1 : t.ands.length ≤ 2 * (k + 1) := by omega
  have hlen2 : t.ors.length ≤ 2 * (k + 1) := by omega
  have hsum1 : sumSize t.ands ≤ 2 * (k + 1) := by omega
  have htd := (hI3.out.tidy t (by simp)).1
  have HJ := Lib.hid (fun (W : World) (hx : Ext w3 W) => joined_calls 7 t.ands vas aa t.ands.length ca (X ++ M) W (hra.ext hx) (hpa.mono (mask_ext _ hx)) (fun y hy => Nat.lt_of_lt_of_le (hI3.out.hKlt y hy) hx.size) htd (by omega) (by omega))
  have hgx : ∀ y ∈ x.rows, y ≠ g := fun y hy e => (hI3.out.rowsNot y hy).1 (by subst e; simp [rowOf, Value.ownBlock])
  have HNE := Lib.hid (show some g ≠ x.vo.ownBlock from fun e => hgx g (List.mem_append_right _ (mem_rowOf.2 e.symm)) rfl)
  have HOV := Lib.hid hov
  have HPO := Lib.hid hpo
  have HGX := Lib.hid hgx
  have HPT := Lib.hid hpot
  have HEVA := Lib.hid eva
  have HEVO := Lib.hid evo
  rw [eva] at c1
  rw [evo] at c2 HOV HNE
  have HNA := Lib.hid (show 1 ≤ t.ands.length from List.length_pos_iff.2 hne)
  clear hra hpa hov hpo hgx htd hpot eva evo hne
  go_wp2_with fail
  go_region_law (first
    | (refine step_append1 info_part rfl _ _ rfl w0.heap.size _ t.ors.length _ rfl _ 1 1 vq.cells rfl rfl (by simp [PartV.cells, Value.oneCell']) (by omega) (by omega) (by omega) (w4.heap.size + 1) (owns_ext HOV.out (hEx4.alloc _)) (by intro j hj; rw [World.cell?_alloc_at _ _ _ _ rfl]; simp [PartV.cells]) (by simp; omega) (by simp) ?_; intro g6 cap6 w6 ho6 hg6 hl6' hlt6; have e1 : w6.cell? ⟨g, l.length * 3 + 2, none⟩ = some (.slice oa t.ors.length oc) := hg6.cell ((hEx4.alloc _).cell c2) HNE.out; have e2 : w6.frozen? ⟨g, l.length * 3 + 2, none⟩ = false := (by rw [World.frozen?_of_block (hg6.block g (by simp; omega) HNE.out)]; exact ((hEx4.alloc _).frozen c2).trans (cf _)); have e3 : w6.cell? ⟨g, l.length * 3 + 1, none⟩ = some (.slice aa t.ands.length ca) := hg6.cell ((hEx4.alloc _).cell c1) HNE.out; have e4 : w6.frozen? ⟨g, l.length * 3 + 1, none⟩ = false := (by rw [World.frozen?_of_block (hg6.block g (by simp; omega) HNE.out)]; exact ((hEx4.alloc _).frozen c1).trans (cf _)))
    | (go_simp; go_at_call 81; refine (HJ.out _ (Ext.drew (Ext.refl w3))).mono ?_; rintro r w4 ⟨vq, rfl, hvq, hx4⟩; have hEx4 : Ext w3 w4 := (Ext.drew (Ext.refl w3)).trans hx4; have f2 : w4.cell? ⟨g, l.length * 3 + 2, none⟩ = some (.slice oa t.ors.length oc) := hEx4.cell c2; have hz4 := hEx4.size; have hg4 : g < w4.heap.size := (by omega); unfold PartV.val))
  all_goals
    have HQ := Lib.hid hvq
    have HO6 := Lib.hid ho6
    have HG6 := Lib.hid hg6
    have HL6 := Lib.hid hl6'
    have HLT := Lib.hid hlt6
    have HX4 := Lib.hid hEx4
    clear hvq ho6 hg6 hl6' hlt6 hEx4 c1 c2 cf
    go_wp2_with fail
    go_ret
    rw [← HEVO.out] at HG6 HL6
    obtain ⟨x', M', h1, h2, h3⟩ := another_fin hI3.out hll HX4.out HPO.out HO6.out HG6.out HL6.out HLT.out HQ.out (joinedF_tidy 7 _ (hI3.out.tidy t (by simp)).1) (by
      have h5 := HI.out.pot
      have h6 := joinedF_size 7 t.ands
      rw [potAll_snoc] at h5 ⊢
      unfold Lvl.pot at h5 ⊢
      rw [sumPot_snoc]
      rw [sumPot_eq t.ands] at h5
      simp only [sumPot]
      have h7 := HNA.out
      omega)
    exact ⟨rfl, x', M', h1, (HC3.out.mono (by simpa using hbM)).then h2, fun y hy => by
      rcases h3 y hy with h | h
      · exact Or.inl h
      · exact Or.inr (Nat.le_trans HC3.out.size h)⟩
end Go.Proofs.YtaepiiediblleaaGreatDoor

namespace Go.Proofs.YtaepiiediblleaaGreatDoor
open Go.RowKit

theorem elemLevel : ElemT 52 51 (.agg #[.int .i64 0, .slice none 0 0, .slice none 0 0]) 3 56 := ⟨by kernel_rfl, by kernel_rfl, rfl, by decide⟩

/-- append of elements that were just laid into a block of their own; where the new row lies. -/
theorem wpList_append2 {t e : TypeId} {z : Value} {size bytes : Nat} (E : ElemT t e z size bytes) {ops : Array Oper} {rest : List Oper} {o : Oper} {a : Act} {Q : Exit → Act → World → Prop} {X : World} {arr : Array Value} {tt : TypeId}
    (hgd : o.guard = none) (s x : Operand) (ho : o.op = .call { callee := .builtin .append, args := #[s, x], argTypes := #[t, t] }) (base : Nat) (v : Value) (n : Nat) (xs : List Value) (hs : a.eval s = v) (hown : X.ownsRow base e size v n xs)
    (B m c : Nat) (hx : a.eval x = .slice (some ⟨B, 0, none⟩) m c) (hB : B = X.heap.size) (hl : arr.size = m * size) (h1 : ∀ u ∈ arr.toList, u.oneCell' = true) (hm : 0 < m) (hn : n + m ≤ 100000000) (hb : bytes ≤ 1000) (hbase : base ≤ X.heap.size)
    (h : ∀ g cap w', w'.ownsRow base e size (.slice (some ⟨g, 0, none⟩) (n + m) cap) (n + m) (xs ++ arr.toList) → (X.alloc (.cells arr tt)).grownBy w' v.ownBlock → (v.ownBlock = some g ∨ g = X.heap.size + 1) → g < w'.heap.size → wpList Tryz.prog ops Q rest (a.put o.dst (.slice (some ⟨g, 0, none⟩) (n + m) cap)) w') : wpList Tryz.prog ops Q (o :: rest) a (X.alloc (.cells arr tt)) := by
  subst hB
  obtain ⟨i, hi, hz, hsz, hby⟩ := info_parts E.info
  refine wpList_append_lies (X.alloc (.cells arr tt)) hgd s x t ho base e i z size bytes E.ht hi hz hsz hby E.hzs E.hsz v n xs hs (hown.alloc _) ⟨X.heap.size, 0, none⟩ m c arr.toList hx (by simpa using hl) ?_ h1 hm (by simp only [maxLen]; omega) ?_ (by simp; omega) (X.heap.size + 1) (by simp) h
  · intro j u hu
    have : (⟨X.heap.size, 0, none⟩ : Addr).add j = ⟨X.heap.size, j, none⟩ := by unfold Addr.add; split <;> simp_all
    rw [this, World.cell?_alloc_at _ _ _ _ rfl]
    simpa using hu
  · calc (n + m) * bytes ≤ 100000000 * 1000 := Nat.mul_le_mul hn hb
      _ ≤ 140737488355328 := by omega

def lvl0 : Lvl := ⟨0, [], []⟩
def lvlV0 : LvlV := ⟨0, .slice none 0 0, .slice none 0 0⟩

/-- A level more. -/
theorem PI.push {toks : List Tok} {ta : Option Addr} {tn tc : Nat} {w0 w3 w6 : World} {bp k : Nat} {vl : Value} {lv : List Lvl} {lvs : List LvlV} {M X : List Nat} {o : Obj} {g6 cap6 : Nat} (h : PI toks ta tn tc w0 w3 bp k vl lv lvs M (X ++ M))
    (ho6 : w6.ownsRow w0.heap.size 51 3 (.slice (some ⟨g6, 0, none⟩) (lvs.length + 1) cap6) (lvs.length + 1) (lvs.flatMap LvlV.cells ++ lvlV0.cells))
    (hg6 : (w3.alloc o).grownBy w6 vl.ownBlock) (hl6 : vl.ownBlock = some g6 ∨ g6 = w3.heap.size + 1) (hlt6 : g6 < w6.heap.size) (hcnt : lv.length ≤ k) :
    ∃ M', PI toks ta tn tc w0 (w6.setCell ⟨bp, 2, none⟩ (.slice (some ⟨g6, 0, none⟩) (lvs.length + 1) cap6)) bp k (.slice (some ⟨g6, 0, none⟩) (lvs.length + 1) cap6) (lv ++ [lvl0]) (lvs ++ [lvlV0]) M' (X ++ M') ∧
      Chg M w3 (w6.setCell ⟨bp, 2, none⟩ (.slice (some ⟨g6, 0, none⟩) (lvs.length + 1) cap6)) ∧ ∀ y ∈ M', y ∈ M ∨ w3.heap.size ≤ y := by
  have hbM : bp ∈ M := by rw [h.hM]; simp
  have hvM : ∀ y, vl.ownBlock = some y → y ∈ M := fun y hy => by rw [h.hM]; simp [mem_rowOf.2 hy]
  have hnd := h.nd
  rw [h.hM, List.nodup_cons, List.nodup_append] at hnd
  have hg6b : g6 ≠ bp := by
    rcases hl6 with h' | h'
    · intro e; subst e; exact hnd.1 (List.mem_append_left _ (mem_rowOf.2 h'))
    · have := h.hKlt bp (h.hK bp hbM); omega
  have hb6 : w6.heap[bp]? = some (.cells #[.slice ta tn tc, .int .i64 k, vl] 54 (0, 0)) := by
    rw [hg6.block bp (by have := h.hKlt bp (h.hK bp hbM); simp; omega) (fun e => hnd.1 (List.mem_append_left _ (mem_rowOf.2 e.symm)))]
    exact blk_alloc h.pc.hb
  have hc7 : Chg (bp :: rowOf vl) w3 (w6.setCell ⟨bp, 2, none⟩ (.slice (some ⟨g6, 0, none⟩) (lvs.length + 1) cap6)) :=
    (((Chg.refl (bp :: rowOf vl) w3).alloc o).grown hg6 (fun y hy => Or.inl (List.mem_cons_of_mem _ (mem_rowOf.2 hy)))).setCell (Or.inl (by simp)) _
  have hNM : ∀ y ∈ bp :: rowOf vl, y ∈ M := fun y hy => by
    rcases List.mem_cons.1 hy with rfl | hy
    · exact hbM
    · exact hvM y (mem_rowOf.1 hy)
  have hr0 : (lvs ++ [lvlV0]).flatMap LvlV.rows = lvs.flatMap LvlV.rows := by rw [rows_snoc]; simp [lvlV0, LvlV.rows, rowOf, Value.ownBlock]
  have hM' : ∀ y ∈ bp :: ([g6] ++ (lvs ++ [lvlV0]).flatMap LvlV.rows), (y ∈ M ∨ w3.heap.size ≤ y) ∧ y < w6.heap.size := by
    intro y hy
    have hs := hg6.size
    simp at hs
    rw [hr0] at hy
    rcases List.mem_cons.1 hy with rfl | hy
    · exact ⟨Or.inl hbM, by have := h.hKlt y (h.hK y hbM); omega⟩
    · rcases List.mem_append.1 hy with hy | hy
      · simp at hy; subst hy
        refine ⟨?_, hlt6⟩
        rcases hl6 with h' | h'
        · exact Or.inl (hvM _ h')
        · exact Or.inr (by omega)
      · have : y ∈ M := by rw [h.hM]; exact List.mem_cons_of_mem _ (List.mem_append_right _ hy)
        exact ⟨Or.inl this, by have := h.hKlt y (h.hK y this); omega⟩
  have hsub : Sub (mask w3 (X ++ M)) (mask (w6.setCell ⟨bp, 2, none⟩ (.slice (some ⟨g6, 0, none⟩) (lvs.length + 1) cap6)) (X ++ (bp :: ([g6] ++ (lvs ++ [lvlV0]).flatMap LvlV.rows)))) :=
    mask_sub_mask fun y hy hn => ⟨fun h' => by
      rcases List.mem_append.1 h' with h' | h'
      · exact hn (List.mem_append_left _ h')
      · rcases (hM' y h').1 with h1 | h1; exact hn (List.mem_append_right _ h1); omega, hc7.block y hy (fun h' => hn (List.mem_append_right _ (hNM y h')))⟩
  refine ⟨bp :: ([g6] ++ (lvs ++ [lvlV0]).flatMap LvlV.rows), ⟨⟨h.pc.ht, ?_, ?_, h.pc.hbp, h.pc.hk, h.pc.htn, h.pc.hz⟩, ?_, by simp [h.len], ?_, rfl, ?_, fun y hy => List.mem_append_right _ hy, ?_, ?_, by simp; omega, ?_, h.small⟩, hc7.mono hNM, fun y hy => (hM' y hy).1⟩
  · refine hc7.ext h.pc.hx (fun y hy => ?_)
    rcases List.mem_cons.1 hy with rfl | hy
    · exact h.pc.hbp
    · exact (h.own.lt y (mem_rowOf.1 hy)).1
  · have := heap_setCell_same w6 bp 2 _ _ (.slice (some ⟨g6, 0, none⟩) (lvs.length + 1) cap6) hb6
    exact this
  · rw [flatMap_snoc]
    have := owns_chg ho6 ((Chg.refl [bp] w6).setCell (p := ⟨bp, 2, none⟩) (Or.inl (by simp)) (.slice (some ⟨g6, 0, none⟩) (lvs.length + 1) cap6)) (fun y hy => by simp [Value.ownBlock] at hy; subst hy; simpa using hg6b)
    simpa using this
  · intro i h1 h2
    by_cases hi : i < lv.length
    · have hi' : i < lvs.length := by have := h.len; omega
      rw [List.getElem_append_left hi, List.getElem_append_left hi']
      refine (h.lvl i hi hi').chg hc7 (fun y hy h' => ?_) hsub
      have hyl : y ∈ lvs.flatMap LvlV.rows := List.mem_flatMap.2 ⟨lvs[i], List.getElem_mem hi', hy⟩
      rcases List.mem_cons.1 h' with rfl | h'
      · exact hnd.1 (List.mem_append_right _ hyl)
      · exact hnd.2.2.2 y h' y hyl rfl
    · have e : i = lv.length := by simp at h1; omega
      subst e
      rw [List.getElem_append_right (Nat.le_refl _), List.getElem_append_right (by rw [h.len]; exact Nat.le_refl _)]
      simp only [h.len, Nat.sub_self, List.getElem_cons_zero]
      exact ⟨rfl, ⟨[], World.ownsRow_nil _ _ _ _, rfl, fun i hi => by simp [lvl0] at hi⟩, ⟨[], World.ownsRow_nil _ _ _ _, rfl, fun i hi => by simp [lvl0] at hi⟩⟩
  · rw [hr0]
    have h1 := hnd.2.2.1
    rw [List.nodup_cons]
    refine ⟨fun h' => ?_, ?_⟩
    · rcases List.mem_append.1 h' with h' | h'
      · simp at h'; exact hg6b h'.symm
      · exact hnd.1 (List.mem_append_right _ h')
    · rw [List.nodup_append]
      refine ⟨by simp, h1, fun a ha b hb e => ?_⟩
      simp at ha
      subst ha; subst e
      rcases hl6 with h' | h'
      · exact hnd.2.2.2 a (mem_rowOf.2 h') a hb rfl
      · have : a ∈ M := by rw [h.hM]; exact List.mem_cons_of_mem _ (List.mem_append_right _ hb)
        have := h.hKlt a (h.hK a this)
        omega
  · intro y hy
    rcases List.mem_append.1 hy with hy | hy
    · have h1 := h.hKlt y (List.mem_append_left _ hy)
      have h2 := hc7.size
      omega
    · have := (hM' y hy).2
      simpa using this
  · rw [potAll_snoc]; simpa [lvl0, Lvl.pot, sumPot] using h.pot
  · intro z hz
    rcases List.mem_append.1 hz with hz | hz
    · exact h.tidy z hz
    · simp at hz; subst hz; exact ⟨fun _ h' => by simp [lvl0] at h', fun _ h' => by simp [lvl0] at h'⟩
end Go.Proofs.YtaepiiediblleaaGreatDoor
