import Derived.Test.YtaepiiediblleaaDoorLevel1
namespace Go.Proofs.YtaepiiediblleaaDoor
open Go.RowKit

theorem top_calls' (g m cap bp : Nat) (w : World) (c2 : w.cell? ⟨bp, 2, none⟩ = some (.slice (some ⟨g, 0, none⟩) (m + 1) cap)) (hn2 : m ≤ 1000000) :
    Calls Tryd.prog 99 #[.pointer (some ⟨bp, 0, none⟩)] w (GivesE (.pointer (some ⟨g, m * 3, none⟩)) w) := top_calls g (m + 1) cap bp w c2 (by omega) (by omega)

theorem flatMap_snoc (l : List LvlV) (x : LvlV) : (l ++ [x]).flatMap LvlV.cells = l.flatMap LvlV.cells ++ x.cells := by simp
theorem rows_snoc (l : List LvlV) (x : LvlV) : (l ++ [x]).flatMap LvlV.rows = l.flatMap LvlV.rows ++ x.rows := by simp
theorem set_last (l : List LvlV) (x : LvlV) (j : Nat) (u : Value) : ((l ++ [x]).flatMap LvlV.cells).set (l.length * 3 + j) u = l.flatMap LvlV.cells ++ x.cells.set j u := by
  rw [flatMap_snoc]
  have hl := length_flatMap_of LvlV.cells 3 (fun _ => rfl) l
  rw [List.set_append_right _ _ (by omega), hl]
  congr 1
  congr 1
  omega

/-- The last level, in memory. -/
theorem PI.at {toks : List Tok} {ta : Option Addr} {tn tc : Nat} {w0 w : World} {bp k : Nat} {vl : Value} {lv : List Lvl} {l : List LvlV} {x : LvlV} {M K : List Nat} (h : PI toks ta tn tc w0 w bp k vl lv (l ++ [x]) M K) :
    ∃ g cap, vl = .slice (some ⟨g, 0, none⟩) (l.length + 1) cap ∧ g ∈ M ∧ g ≠ bp ∧ w0.heap.size ≤ g ∧ g < w.heap.size ∧ w.cell? ⟨g, l.length * 3, none⟩ = some (.int .i64 x.nots) ∧ w.cell? ⟨g, l.length * 3 + 1, none⟩ = some x.va ∧
      w.cell? ⟨g, l.length * 3 + 2, none⟩ = some x.vo ∧ (∀ j, w.frozen? ⟨g, j, none⟩ = false) ∧ l.length ≤ 1000000 := by
  obtain ⟨g, cap, h1, h2, h3, h4, h5, h6, h7, h8, h9⟩ := h.last (by simp)
  have e : (l ++ [x]).length - 1 = l.length := by simp
  have e2 : (l ++ [x])[(l ++ [x]).length - 1]'(by simp) = x := by simp
  rw [e2] at h6 h7 h8
  rw [e] at h6 h7 h8
  simp only [List.length_append, List.length_singleton] at h1
  refine ⟨g, cap, h1, h2, h3, h4, h5, h6, h7, h8, h9, ?_⟩
  have := h.cnt
  have := h.len
  have := h.pc.hk
  have := h.small
  simp at *
  omega

theorem PI.lastR {toks : List Tok} {ta : Option Addr} {tn tc : Nat} {w0 w : World} {bp k : Nat} {vl : Value} {li : List Lvl} {t : Lvl} {l : List LvlV} {x : LvlV} {M K : List Nat} (h : PI toks ta tn tc w0 w bp k vl (li ++ [t]) (l ++ [x]) M K) (hll : li.length = l.length) : LvlR w w0.heap.size K t x := by
  have := h.lvl li.length (by simp) (by simp; omega)
  simpa [List.getElem_append_right, hll] using this
theorem PI.rowsNot {toks : List Tok} {ta : Option Addr} {tn tc : Nat} {w0 w : World} {bp k : Nat} {vl : Value} {lv : List Lvl} {l : List LvlV} {x : LvlV} {M K : List Nat} (h : PI toks ta tn tc w0 w bp k vl lv (l ++ [x]) M K) : ∀ y ∈ x.rows, y ∉ rowOf vl ∧ y ≠ bp ∧ y ∈ M := by
  intro y hy
  have hnM := h.nd
  rw [h.hM, rows_snoc] at hnM
  rw [List.nodup_cons, List.nodup_append] at hnM
  refine ⟨fun h1 => hnM.2.2.2 y h1 y (List.mem_append_right _ hy) rfl, fun e => hnM.1 (by subst e; exact List.mem_append_right _ (List.mem_append_right _ hy)), ?_⟩
  rw [h.hM, rows_snoc]
  exact List.mem_cons_of_mem _ (List.mem_append_right _ (List.mem_append_right _ hy))
theorem PI.rowsNd {toks : List Tok} {ta : Option Addr} {tn tc : Nat} {w0 w : World} {bp k : Nat} {vl : Value} {lv : List Lvl} {l : List LvlV} {x : LvlV} {M K : List Nat} (h : PI toks ta tn tc w0 w bp k vl lv (l ++ [x]) M K) : x.rows.Nodup := by
  have hnM := h.nd
  rw [h.hM, rows_snoc, List.nodup_cons, List.nodup_append, List.nodup_append] at hnM
  exact hnM.2.2.1.2.1

/-- The last level is replaced. -/
theorem PI.replace {toks : List Tok} {ta : Option Addr} {tn tc : Nat} {w0 w w' : World} {bp k : Nat} {vl : Value} {li : List Lvl} {t t' : Lvl} {l : List LvlV} {x x' : LvlV} {M K K' N : List Nat} {k' : Nat}
    (h : PI toks ta tn tc w0 w bp k vl (li ++ [t]) (l ++ [x]) M K) (hll : li.length = l.length) (hpc : PC toks ta tn tc w0 w' bp k' vl) (hk : k ≤ k') (hc : Chg N w w') (hN : ∀ y ∈ N, y ∈ bp :: (rowOf vl ++ x.rows) ∨ y ∉ M) (hs : Sub (mask w K) (mask w' K'))
    (hown : w'.ownsRow w0.heap.size 91 3 vl (l.length + 1) (l.flatMap LvlV.cells ++ x'.cells)) (hnew : LvlR w' w0.heap.size K' t' x') (hr : ∀ y ∈ x'.rows, y ∈ x.rows ∨ w.heap.size ≤ y) (hnd : x'.rows.Nodup)
    (hK : ∀ y ∈ bp :: (rowOf vl ++ (l ++ [x']).flatMap LvlV.rows), y ∈ K') (hKlt : ∀ y ∈ K', y < w'.heap.size) (hpot : potAll (li ++ [t']) ≤ 2 * k') (htidy : Tidy t'.ands ∧ Tidy t'.ors) :
    PI toks ta tn tc w0 w' bp k' vl (li ++ [t']) (l ++ [x']) (bp :: (rowOf vl ++ (l ++ [x']).flatMap LvlV.rows)) K' := by
  have hnM := h.nd
  rw [h.hM, rows_snoc] at hnM
  have hlt : ∀ y ∈ M, y < w.heap.size := fun y hy => h.hKlt y (h.hK y hy)
  rw [h.hM, rows_snoc] at hlt
  refine ⟨hpc, ?_, by simpa using hll, ?_, rfl, ?_, hK, hKlt, hpot, ?_, ?_, h.small⟩
  · rw [flatMap_snoc]; simpa using hown
  · intro i h1 h2
    by_cases hi : i < li.length
    · have hi' : i < l.length := by omega
      have := h.lvl i (by simp; omega) (by simp; omega)
      simp only [List.getElem_append_left hi, List.getElem_append_left hi'] at this ⊢
      refine this.chg hc (fun y hy hyN => ?_) hs
      have hyl : y ∈ l.flatMap LvlV.rows := List.mem_flatMap.2 ⟨l[i], List.getElem_mem hi', hy⟩
      rcases hN y hyN with hb | hb
      · rw [show bp :: (rowOf vl ++ (l.flatMap LvlV.rows ++ x.rows)) = [bp] ++ (rowOf vl ++ (l.flatMap LvlV.rows ++ x.rows)) from rfl] at hnM
        rw [List.nodup_append] at hnM
        obtain ⟨_, hn1, hn2⟩ := hnM
        rw [List.nodup_append] at hn1
        obtain ⟨_, hn3, hn4⟩ := hn1
        rw [List.nodup_append] at hn3
        rcases List.mem_cons.1 hb with rfl | hb
        · exact hn2 y (by simp) y (List.mem_append_right _ (List.mem_append_left _ hyl)) rfl
        · rcases List.mem_append.1 hb with hb | hb
          · exact hn4 y hb y (List.mem_append_left _ hyl) rfl
          · exact hn3.2.2 y hyl y hb rfl
      · exact hb (by rw [h.hM, rows_snoc]; exact List.mem_cons_of_mem _ (List.mem_append_right _ (List.mem_append_left _ hyl)))
    · have hi1 : i = li.length := by simp at h1; omega
      subst hi1
      simp only [List.getElem_append_right (Nat.le_refl _), List.getElem_append_right (show l.length ≤ li.length by omega)]
      simpa using hnew
  · rw [rows_snoc]
    have key : ∀ (A B C D : List Nat), (A ++ (B ++ (C ++ D))).Nodup → ∀ E : List Nat, E.Nodup → (∀ y ∈ E, y ∈ D ∨ ∀ z ∈ A ++ (B ++ C), y ≠ z) → (A ++ (B ++ (C ++ E))).Nodup := by
      intro A B C D h1 E h2 h3
      have e1 : A ++ (B ++ (C ++ D)) = (A ++ (B ++ C)) ++ D := by simp
      have e2 : A ++ (B ++ (C ++ E)) = (A ++ (B ++ C)) ++ E := by simp
      rw [e1, List.nodup_append] at h1
      rw [e2, List.nodup_append]
      refine ⟨h1.1, h2, fun a ha b hb e => ?_⟩
      rcases h3 b hb with h4 | h4
      · exact h1.2.2 a ha b h4 e
      · exact h4 a ha e.symm
    refine key [bp] (rowOf vl) (l.flatMap LvlV.rows) x.rows hnM x'.rows hnd (fun y hy => ?_)
    rcases hr y hy with h4 | h4
    · exact Or.inl h4
    · refine Or.inr fun z hz e => ?_
      have := hlt z (by
        rcases List.mem_append.1 hz with hz | hz
        · simp at hz; subst hz; simp
        · rcases List.mem_append.1 hz with hz | hz
          · exact List.mem_cons_of_mem _ (List.mem_append_left _ hz)
          · exact List.mem_cons_of_mem _ (List.mem_append_right _ (List.mem_append_left _ hz)))
      omega
  · have := h.cnt
    simp at this ⊢
    omega
  · intro y hy
    rcases List.mem_append.1 hy with hy | hy
    · exact h.tidy y (List.mem_append_left _ hy)
    · simp at hy; subst hy; exact htidy
end Go.Proofs.YtaepiiediblleaaDoor
