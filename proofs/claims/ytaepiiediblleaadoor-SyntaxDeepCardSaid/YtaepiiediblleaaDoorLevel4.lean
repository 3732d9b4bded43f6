import Derived.Test.YtaepiiediblleaaDoorLevel3
namespace Go.Proofs.YtaepiiediblleaaDoor
open Go.RowKit

/-- Only the place has changed. -/
theorem PI.step {toks : List Tok} {ta : Option Addr} {tn tc : Nat} {w0 w : World} {bp k : Nat} {vl : Value} {lv : List Lvl} {lvs : List LvlV} {M K : List Nat} (h : PI toks ta tn tc w0 w bp k vl lv lvs M K) {w' : World} {k' : Nat} (hc : Chg [bp] w w') (hp : PC toks ta tn tc w0 w' bp k' vl) (hk : k ≤ k') : PI toks ta tn tc w0 w' bp k' vl lv lvs M K := by
  have hnd := h.nd
  rw [h.hM, List.nodup_cons] at hnd
  have hbK : bp ∈ K := h.hK bp (by rw [h.hM]; simp)
  have hs : Sub (mask w K) (mask w' K) := mask_sub_mask fun y hy hn => ⟨hn, hc.block y hy (by simp; intro e; subst e; exact hn hbK)⟩
  have hne : ∀ y, y ∈ rowOf vl ++ lvs.flatMap LvlV.rows → y ∉ [bp] := fun y hy h' => by simp at h'; subst h'; exact hnd.1 hy
  refine ⟨hp, owns_chg h.own hc (fun y hy => hne y (List.mem_append_left _ (mem_rowOf.2 hy))), h.len, fun i h1 h2 => (h.lvl i h1 h2).chg hc (fun y hy => hne y (List.mem_append_right _ (List.mem_flatMap.2 ⟨lvs[i], List.getElem_mem h2, hy⟩))) hs, h.hM, h.nd, h.hK,
    fun y hy => Nat.lt_of_lt_of_le (h.hKlt y hy) hc.size, by have := h.pot; omega, by have := h.cnt; omega, h.tidy, h.small⟩

/-- The last level has been written anew: the new state. -/
theorem PI.finish {toks : List Tok} {ta : Option Addr} {tn tc : Nat} {w0 w w7 : World} {bp k g cap : Nat} {li : List Lvl} {t t' : Lvl} {l : List LvlV} {x x' : LvlV} {M K N : List Nat} (X : List Nat) (hX : ∀ y ∈ X, y ∈ K)
    (h : PI toks ta tn tc w0 w bp k (.slice (some ⟨g, 0, none⟩) (l.length + 1) cap) (li ++ [t]) (l ++ [x]) M K) (hll : li.length = l.length) (hN : ∀ y ∈ N, y = g ∨ y ∈ x.rows) (hc : Chg N w w7)
    (hown : w7.ownsRow w0.heap.size 91 3 (.slice (some ⟨g, 0, none⟩) (l.length + 1) cap) (l.length + 1) (l.flatMap LvlV.cells ++ x'.cells))
    (hr : ∀ y ∈ x'.rows, y ∈ x.rows ∨ w.heap.size ≤ y) (hlt : ∀ y ∈ x'.rows, y < w7.heap.size) (hnd : x'.rows.Nodup)
    (hnew : ∀ M' : List Nat, (∀ wx : World, Chg N wx w7 → (∀ y ∈ x'.rows, y ∈ x.rows ∨ wx.heap.size ≤ y) → Sub (mask wx K) (mask w7 M')) → LvlR w7 w0.heap.size M' t' x')
    (hpot : potAll (li ++ [t']) ≤ 2 * k) (htidy : Tidy t'.ands ∧ Tidy t'.ors) :
    ∃ M', PI toks ta tn tc w0 w7 bp k (.slice (some ⟨g, 0, none⟩) (l.length + 1) cap) (li ++ [t']) (l ++ [x']) M' (X ++ M') ∧ Chg M w w7 ∧ ∀ y ∈ M', y ∈ M ∨ w.heap.size ≤ y := by
  have hgM : g ∈ M := by rw [h.hM]; simp [rowOf, Value.ownBlock]
  have hrn := h.rowsNot
  have hNM : ∀ y ∈ N, y ∈ M := fun y hy => by
    rcases hN y hy with rfl | hy
    · exact hgM
    · exact (hrn y hy).2.2
  have hpre : ∀ y, y ∈ bp :: ([g] ++ (l ++ [x']).flatMap LvlV.rows) → y ∈ M ∨ y ∈ x'.rows := by
    intro y hy
    rw [rows_snoc] at hy
    rcases List.mem_cons.1 hy with rfl | hy
    · exact Or.inl (by rw [h.hM]; simp)
    · rcases List.mem_append.1 hy with hy | hy
      · simp at hy; subst hy; exact Or.inl hgM
      · rcases List.mem_append.1 hy with hy | hy
        · exact Or.inl (by rw [h.hM, rows_snoc]; exact List.mem_cons_of_mem _ (List.mem_append_right _ (List.mem_append_left _ hy)))
        · exact Or.inr hy
  have hsub : ∀ wx : World, Chg N wx w7 → (∀ y ∈ x'.rows, y ∈ x.rows ∨ wx.heap.size ≤ y) → Sub (mask wx K) (mask w7 (X ++ (bp :: ([g] ++ (l ++ [x']).flatMap LvlV.rows)))) := by
    intro wx hcx hrx
    refine mask_sub_mask fun y hy hn => ⟨fun h' => ?_, hcx.block y hy (fun h' => hn (h.hK y (hNM y h')))⟩
    rcases List.mem_append.1 h' with h' | h'
    · exact hn (hX y h')
    rcases hpre y h' with h' | h'
    · exact hn (h.hK y h')
    · rcases hrx y h' with h'' | h''
      · exact hn (h.hK y (hrn y h'').2.2)
      · omega
  refine ⟨bp :: ([g] ++ (l ++ [x']).flatMap LvlV.rows), h.replace (N := N) hll ?_ (Nat.le_refl _) hc ?_ (hsub w hc hr) hown (hnew _ hsub) hr hnd (fun y hy => List.mem_append_right _ hy) ?_ hpot htidy, ⟨hc.os, hc.tape, hc.output, hc.size, fun y hy hn => hc.block y hy (fun h' => hn (hNM y h'))⟩, ?_⟩
  · refine h.pc.chg hc (fun h' => ?_) (fun y hy => ?_)
    · rcases hN bp h' with e | h'
      · have := h.nd; rw [h.hM] at this; simp [rowOf, Value.ownBlock, e] at this
      · exact (hrn bp h').2.1 rfl
    · rcases hN y hy with rfl | hy
      · exact (h.own.lt y rfl).1
      · rcases List.mem_append.1 hy with hy | hy
        · obtain ⟨vs, h1, _⟩ := (h.lastR hll).2.1
          exact (h1.lt y (mem_rowOf.1 hy)).1
        · obtain ⟨vs, h1, _⟩ := (h.lastR hll).2.2
          exact (h1.lt y (mem_rowOf.1 hy)).1
  · intro y hy
    rcases hN y hy with rfl | hy
    · exact Or.inl (by simp [rowOf, Value.ownBlock])
    · exact Or.inl (List.mem_cons_of_mem _ (List.mem_append_right _ hy))
  · intro y hy
    rcases List.mem_append.1 hy with hy | hy
    · exact Nat.lt_of_lt_of_le (h.hKlt y (hX y hy)) hc.size
    rcases hpre y hy with h' | h'
    · exact Nat.lt_of_lt_of_le (h.hKlt y (h.hK y h')) hc.size
    · exact hlt y h'
  · intro y hy
    rcases hpre y hy with h' | h'
    · exact Or.inl h'
    · rcases hr y h' with h'' | h''
      · exact Or.inl (hrn y h'').2.2
      · exact Or.inr h''

theorem ownParts_rows {w : World} {base : Nat} {K : List Nat} {l : List Part} {v : Value} (h : OwnParts w base K l v) : ∃ a c vs, v = .slice a l.length c ∧ IsRows w 8 PartV.cells vs a l.length c ∧ PartsR (mask w K) l vs := by
  obtain ⟨vs, h1, h2⟩ := h
  rw [h2.1] at h1
  obtain ⟨a, c, rfl, hr⟩ := IsRows.of_owns (f := PartV.cells) (fun _ => rfl) h1
  refine ⟨a, c, vs, by rw [h2.1], by rw [h2.1]; exact hr, h2⟩

/-- What another does. -/
def AnotherQ (b : Bool) (k' : Nat) (t' : Lvl) (toks : List Tok) (ta : Option Addr) (tn tc : Nat) (w0 w : World) (bp : Nat) (vl : Value) (li : List Lvl) (l : List LvlV) (M X : List Nat) (e : Ending) (w' : World) : Prop :=
  e = .returned (.bool b) ∧ ∃ x' M', PI toks ta tn tc w0 w' bp k' vl (li ++ [t']) (l ++ [x']) M' (X ++ M') ∧ Chg M w w' ∧ ∀ y ∈ M', y ∈ M ∨ w.heap.size ≤ y

set_option maxRecDepth 100000 in
set_option maxHeartbeats 2000000 in
theorem another_and {toks : List Tok} {ta : Option Addr} {tn tc : Nat} {w0 w : World} {bp k : Nat} {vl : Value} {li : List Lvl} {t : Lvl} {l : List LvlV} {x : LvlV} {M X : List Nat} (h : PI toks ta tn tc w0 w bp k vl (li ++ [t]) (l ++ [x]) M (X ++ M)) (ho : HasOps w0) (h1 : acceptB toks k 1 wAnd = true) :
    Calls Tryd.prog 79 #[.pointer (some ⟨bp, 0, none⟩)] w (AnotherQ true (k + 1) t toks ta tn tc w0 w bp vl li l M X) := by
  have HI := Lib.hid h
  have H1 := Lib.hid h1
  obtain ⟨o1, o2, o4, o5, o6, o7, o8, olt⟩ := opsAt ho h.pc.hx
  have hbM : bp ∈ M := by rw [h.hM]; simp
  clear h ho h1
  go_enter Tryd.func79, Tryd.ntmps79
  go_wp2_with fail
  refine (HI.out.pc.acceptY H1.out).mono ?_
  rintro r w1 ⟨rfl, hc1, hp1⟩
  have HC1 := Lib.hid hc1
  have HP1 := Lib.hid hp1
  clear hc1 hp1 o1 o2 o4 o5 o6 o7 o8 olt
  go_wp2_with fail
  go_ret
  exact ⟨rfl, x, M, HI.out.step HC1.out HP1.out (by omega), HC1.out.mono (by simpa using hbM), fun y hy => Or.inl hy⟩

set_option maxRecDepth 100000 in
set_option maxHeartbeats 2000000 in
theorem another_none {toks : List Tok} {ta : Option Addr} {tn tc : Nat} {w0 w : World} {bp k : Nat} {vl : Value} {li : List Lvl} {t : Lvl} {l : List LvlV} {x : LvlV} {M X : List Nat} (h : PI toks ta tn tc w0 w bp k vl (li ++ [t]) (l ++ [x]) M (X ++ M)) (ho : HasOps w0) (h1 : acceptB toks k 1 wAnd = false) (h2 : acceptB toks k 1 wOr = false) :
    Calls Tryd.prog 79 #[.pointer (some ⟨bp, 0, none⟩)] w (AnotherQ false k t toks ta tn tc w0 w bp vl li l M X) := by
  have HI := Lib.hid h
  have H1 := Lib.hid h1
  have H2 := Lib.hid h2
  have HO := Lib.hid ho
  obtain ⟨o1, o2, o4, o5, o6, o7, o8, olt⟩ := opsAt ho h.pc.hx
  have hbM : bp ∈ M := by rw [h.hM]; simp
  clear h ho h1 h2
  go_enter Tryd.func79, Tryd.ntmps79
  go_wp2_with fail
  refine (HI.out.pc.acceptN H1.out).mono ?_
  rintro r w1 ⟨rfl, hc1, hp1⟩
  have HC1 := Lib.hid hc1
  have HP1 := Lib.hid hp1
  clear hc1 hp1 o1 o2 o4 o5 o6 o7 o8 olt
  obtain ⟨o1, o2, o4, o5, o6, o7, o8, olt⟩ := opsAt HO.out HP1.out.hx
  go_wp2_with fail
  refine (HP1.out.acceptN H2.out).mono ?_
  rintro r w2 ⟨rfl, hc2, hp2⟩
  have HC2 := Lib.hid (HC1.out.then hc2)
  have HP2 := Lib.hid hp2
  clear hc2 hp2 o1 o2 o4 o5 o6 o7 o8 olt
  go_wp2_with fail
  go_ret
  exact ⟨rfl, x, M, HI.out.step HC2.out HP2.out (by omega), HC2.out.mono (by simpa using hbM), fun y hy => Or.inl hy⟩
end Go.Proofs.YtaepiiediblleaaDoor
