import Derived.Test.YtaepiiediblleaaDoorLevel5
namespace Go.Proofs.YtaepiiediblleaaDoor
open Go.RowKit

theorem elemLevel : ElemT 92 91 (.agg #[.int .i64 0, .slice none 0 0, .slice none 0 0]) 3 56 := ⟨by kernel_rfl, by kernel_rfl, rfl, by decide⟩

/-- append of elements that were just laid into a block of their own; where the new row lies. -/
theorem wpList_append2 {t e : TypeId} {z : Value} {size bytes : Nat} (E : ElemT t e z size bytes) {ops : Array Oper} {rest : List Oper} {o : Oper} {a : Act} {Q : Exit → Act → World → Prop} {X : World} {arr : Array Value} {tt : TypeId}
    (hgd : o.guard = none) (s x : Operand) (ho : o.op = .call { callee := .builtin .append, args := #[s, x], argTypes := #[t, t] }) (base : Nat) (v : Value) (n : Nat) (xs : List Value) (hs : a.eval s = v) (hown : X.ownsRow base e size v n xs)
    (B m c : Nat) (hx : a.eval x = .slice (some ⟨B, 0, none⟩) m c) (hB : B = X.heap.size) (hl : arr.size = m * size) (h1 : ∀ u ∈ arr.toList, u.oneCell' = true) (hm : 0 < m) (hn : n + m ≤ 100000000) (hb : bytes ≤ 1000) (hbase : base ≤ X.heap.size)
    (h : ∀ g cap w', w'.ownsRow base e size (.slice (some ⟨g, 0, none⟩) (n + m) cap) (n + m) (xs ++ arr.toList) → (X.alloc (.cells arr tt)).grownBy w' v.ownBlock → (v.ownBlock = some g ∨ g = X.heap.size + 1) → g < w'.heap.size → wpList Tryd.prog ops Q rest (a.put o.dst (.slice (some ⟨g, 0, none⟩) (n + m) cap)) w') : wpList Tryd.prog ops Q (o :: rest) a (X.alloc (.cells arr tt)) := by
  subst hB
  obtain ⟨i, hi, hz, hsz, hby⟩ := info_parts E.info
  refine wpList_append_lies (X.alloc (.cells arr tt)) hgd s x t ho base e i z size bytes E.ht hi hz hsz hby E.hzs E.hsz v n xs hs (hown.alloc _) ⟨X.heap.size, 0, none⟩ m c arr.toList hx (by simpa using hl) ?_ h1 hm (by simp only [maxLen]; omega) ?_ (by simp; omega) (X.heap.size + 1) (by simp) h
  · intro j u hu
    have : (⟨X.heap.size, 0, none⟩ : Addr).add j = ⟨X.heap.size, j, none⟩ := by unfold Addr.add; split <;> simp_all
    rw [this, World.cell?_alloc_at _ _ _ _ rfl]
    simpa using hu
  · calc (n + m) * bytes ≤ 100000000 * 1000 := Nat.mul_le_mul hn hb
      _ ≤ 140737488355328 := by omega

def lvl0 : Lvl := ⟨0, [], []⟩
def lvlV0 : LvlV := ⟨0, .slice none 0 0, .slice none 0 0⟩

/-- A level more. -/
theorem PI.push {toks : List Tok} {ta : Option Addr} {tn tc : Nat} {w0 w3 w6 : World} {bp k : Nat} {vl : Value} {lv : List Lvl} {lvs : List LvlV} {M X : List Nat} {o : Obj} {g6 cap6 : Nat} (h : PI toks ta tn tc w0 w3 bp k vl lv lvs M (X ++ M))
    (ho6 : w6.ownsRow w0.heap.size 91 3 (.slice (some ⟨g6, 0, none⟩) (lvs.length + 1) cap6) (lvs.length + 1) (lvs.flatMap LvlV.cells ++ lvlV0.cells))
    (hg6 : (w3.alloc o).grownBy w6 vl.ownBlock) (hl6 : vl.ownBlock = some g6 ∨ g6 = w3.heap.size + 1) (hlt6 : g6 < w6.heap.size) (hcnt : lv.length ≤ k) :
    ∃ M', PI toks ta tn tc w0 (w6.setCell ⟨bp, 2, none⟩ (.slice (some ⟨g6, 0, none⟩) (lvs.length + 1) cap6)) bp k (.slice (some ⟨g6, 0, none⟩) (lvs.length + 1) cap6) (lv ++ [lvl0]) (lvs ++ [lvlV0]) M' (X ++ M') ∧
      Chg M w3 (w6.setCell ⟨bp, 2, none⟩ (.slice (some ⟨g6, 0, none⟩) (lvs.length + 1) cap6)) ∧ ∀ y ∈ M', y ∈ M ∨ w3.heap.size ≤ y := by
  have hbM : bp ∈ M := by rw [h.hM]; simp
  have hvM : ∀ y, vl.ownBlock = some y → y ∈ M := fun y hy => by rw [h.hM]; simp [mem_rowOf.2 hy]
  have hnd := h.nd
  rw [h.hM, List.nodup_cons, List.nodup_append] at hnd
  have hg6b : g6 ≠ bp := by
    rcases hl6 with h' | h'
    · intro e; subst e; exact hnd.1 (List.mem_append_left _ (mem_rowOf.2 h'))
    · have := h.hKlt bp (h.hK bp hbM); omega
  have hb6 : w6.heap[bp]? = some (.cells #[.slice ta tn tc, .int .i64 k, vl] 94 (0, 0)) := by
    rw [hg6.block bp (by have := h.hKlt bp (h.hK bp hbM); simp; omega) (fun e => hnd.1 (List.mem_append_left _ (mem_rowOf.2 e.symm)))]
    exact blk_alloc h.pc.hb
  have hc7 : Chg (bp :: rowOf vl) w3 (w6.setCell ⟨bp, 2, none⟩ (.slice (some ⟨g6, 0, none⟩) (lvs.length + 1) cap6)) :=
    (((Chg.refl (bp :: rowOf vl) w3).alloc o).grown hg6 (fun y hy => Or.inl (List.mem_cons_of_mem _ (mem_rowOf.2 hy)))).setCell (Or.inl (by simp)) _
  have hNM : ∀ y ∈ bp :: rowOf vl, y ∈ M := fun y hy => by
    rcases List.mem_cons.1 hy with rfl | hy
    · exact hbM
    · exact hvM y (mem_rowOf.1 hy)
  have hr0 : (lvs ++ [lvlV0]).flatMap LvlV.rows = lvs.flatMap LvlV.rows := by rw [rows_snoc]; simp [lvlV0, LvlV.rows, rowOf, Value.ownBlock]
  have hM' : ∀ y ∈ bp :: ([g6] ++ (lvs ++ [lvlV0]).flatMap LvlV.rows), (y ∈ M ∨ w3.heap.size ≤ y) ∧ y < w6.heap.size := by
    intro y hy
    have hs := hg6.size
    simp at hs
    rw [hr0] at hy
    rcases List.mem_cons.1 hy with rfl | hy
    · exact ⟨Or.inl hbM, by have := h.hKlt y (h.hK y hbM); omega⟩
    · rcases List.mem_append.1 hy with hy | hy
      · simp at hy; subst hy
        refine ⟨?_, hlt6⟩
        rcases hl6 with h' | h'
        · exact Or.inl (hvM _ h')
        · exact Or.inr (by omega)
      · have : y ∈ M := by rw [h.hM]; exact List.mem_cons_of_mem _ (List.mem_append_right _ hy)
        exact ⟨Or.inl this, by have := h.hKlt y (h.hK y this); omega⟩
  have hsub : Sub (mask w3 (X ++ M)) (mask (w6.setCell ⟨bp, 2, none⟩ (.slice (some ⟨g6, 0, none⟩) (lvs.length + 1) cap6)) (X ++ (bp :: ([g6] ++ (lvs ++ [lvlV0]).flatMap LvlV.rows)))) :=
    mask_sub_mask fun y hy hn => ⟨fun h' => by
      rcases List.mem_append.1 h' with h' | h'
      · exact hn (List.mem_append_left _ h')
      · rcases (hM' y h').1 with h1 | h1; exact hn (List.mem_append_right _ h1); omega, hc7.block y hy (fun h' => hn (List.mem_append_right _ (hNM y h')))⟩
  refine ⟨bp :: ([g6] ++ (lvs ++ [lvlV0]).flatMap LvlV.rows), ⟨⟨h.pc.ht, ?_, ?_, h.pc.hbp, h.pc.hk, h.pc.htn, h.pc.hz⟩, ?_, by simp [h.len], ?_, rfl, ?_, fun y hy => List.mem_append_right _ hy, ?_, ?_, by simp; omega, ?_, h.small⟩, hc7.mono hNM, fun y hy => (hM' y hy).1⟩
  · refine hc7.ext h.pc.hx (fun y hy => ?_)
    rcases List.mem_cons.1 hy with rfl | hy
    · exact h.pc.hbp
    · exact (h.own.lt y (mem_rowOf.1 hy)).1
  · have := heap_setCell_same w6 bp 2 _ _ (.slice (some ⟨g6, 0, none⟩) (lvs.length + 1) cap6) hb6
    exact this
  · rw [flatMap_snoc]
    have := owns_chg ho6 ((Chg.refl [bp] w6).setCell (p := ⟨bp, 2, none⟩) (Or.inl (by simp)) (.slice (some ⟨g6, 0, none⟩) (lvs.length + 1) cap6)) (fun y hy => by simp [Value.ownBlock] at hy; subst hy; simpa using hg6b)
    simpa using this
  · intro i h1 h2
    by_cases hi : i < lv.length
    · have hi' : i < lvs.length := by have := h.len; omega
      rw [List.getElem_append_left hi, List.getElem_append_left hi']
      refine (h.lvl i hi hi').chg hc7 (fun y hy h' => ?_) hsub
      have hyl : y ∈ lvs.flatMap LvlV.rows := List.mem_flatMap.2 ⟨lvs[i], List.getElem_mem hi', hy⟩
      rcases List.mem_cons.1 h' with rfl | h'
      · exact hnd.1 (List.mem_append_right _ hyl)
      · exact hnd.2.2.2 y h' y hyl rfl
    · have e : i = lv.length := by simp at h1; omega
      subst e
      rw [List.getElem_append_right (Nat.le_refl _), List.getElem_append_right (by rw [h.len]; exact Nat.le_refl _)]
      simp only [h.len, Nat.sub_self, List.getElem_cons_zero]
      exact ⟨rfl, ⟨[], World.ownsRow_nil _ _ _ _, rfl, fun i hi => by simp [lvl0] at hi⟩, ⟨[], World.ownsRow_nil _ _ _ _, rfl, fun i hi => by simp [lvl0] at hi⟩⟩
  · rw [hr0]
    have h1 := hnd.2.2.1
    rw [List.nodup_cons]
    refine ⟨fun h' => ?_, ?_⟩
    · rcases List.mem_append.1 h' with h' | h'
      · simp at h'; exact hg6b h'.symm
      · exact hnd.1 (List.mem_append_right _ h')
    · rw [List.nodup_append]
      refine ⟨by simp, h1, fun a ha b hb e => ?_⟩
      simp at ha
      subst ha; subst e
      rcases hl6 with h' | h'
      · exact hnd.2.2.2 a (mem_rowOf.2 h') a hb rfl
      · have : a ∈ M := by rw [h.hM]; exact List.mem_cons_of_mem _ (List.mem_append_right _ hb)
        have := h.hKlt a (h.hK a this)
        omega
  · intro y hy
    rcases List.mem_append.1 hy with hy | hy
    · have h1 := h.hKlt y (List.mem_append_left _ hy)
      have h2 := hc7.size
      omega
    · have := (hM' y hy).2
      simpa using this
  · rw [potAll_snoc]; simpa [lvl0, Lvl.pot, sumPot] using h.pot
  · intro z hz
    rcases List.mem_append.1 hz with hz | hz
    · exact h.tidy z hz
    · simp at hz; subst hz; exact ⟨fun _ h' => by simp [lvl0] at h', fun _ h' => by simp [lvl0] at h'⟩
end Go.Proofs.YtaepiiediblleaaDoor
