/-
  Texts of the claim, joined: Spoilt1.
-/
import Derived.Test.YtaepiiediblleaaGreatDoorFo24
import Derived.Test.YtaepiiediblleaaGreatDoorFo23
import Derived.Test.YtaepiiediblleaaGreatDoorFo12
import Derived.Test.YtaepiiediblleaaGreatDoorFo11
namespace Go.Proofs.YtaepiiediblleaaGreatDoor
open Go.RowKit

/-- append of a slice of length 0. -/
theorem run_append_zero {P : Program} (W : World) (t ty e : TypeId) (i : TypeInfo) (ht : P.underlying t = some (.slice e)) (hi : P.info? e = some i) (b : Option Addr) (n cap : Nat) (hnc : n ≤ cap) (ax : Option Addr) (c : Nat) :
    (Builtin.append_ #[t, t] ty #[.slice b n cap, .slice ax 0 c]).run P W = .ok (.slice b n cap) W := by
  cases b <;> cases ax <;> simp [Builtin.append_, run_underlying ht, sizeOf, typeInfo, hi, Builtin.lenOf, Builtin.firstCells, hnc, storeCells, loadCells, loadCellsFrom]
/-- append of all elements of a slice that lies in memory, of none too. -/
theorem wpList_append_all {t e : TypeId} {z : Value} {size bytes : Nat} (E : ElemT t e z size bytes) {ops : Array Oper} {rest : List Oper} {o : Oper} {a : Act} {Q : Exit → Act → World → Prop} {W : World}
    (hgd : o.guard = none) (s x : Operand) (ho : o.op = .call { callee := .builtin .append, args := #[s, x], argTypes := #[t, t] }) (base : Nat) (v : Value) (n : Nat) (xs : List Value) (hs : a.eval s = v) (hown : W.ownsRow base e size v n xs)
    (ax : Option Addr) (m c : Nat) (news : List Value) (hx : a.eval x = .slice ax m c) (hl : news.length = m * size) (hnews : 0 < m → ∃ b off, ax = some ⟨b, off, none⟩ ∧ ∀ j (h : j < news.length), W.cell? ⟨b, off + j, none⟩ = some news[j]) (h1 : ∀ u ∈ news, u.oneCell' = true)
    (hn : n + m ≤ 100000000) (hb : bytes ≤ 1000) (hbase : base ≤ W.heap.size)
    (h : ∀ v' w', w'.ownsRow base e size v' (n + m) (xs ++ news) → W.grownBy w' v.ownBlock → (∀ k, v'.ownBlock = some k → v.ownBlock = some k ∨ k = W.heap.size) → wpList Tryz.prog ops Q rest (a.put o.dst v') w') : wpList Tryz.prog ops Q (o :: rest) a W := by
  obtain ⟨i, hi, hz, hsz, hby⟩ := info_parts E.info
  by_cases hm : m = 0
  · subst hm
    have hnil : news = [] := List.eq_nil_of_length_eq_zero (by simpa using hl)
    subst hnil
    obtain ⟨b, cap, rfl, hnc⟩ : ∃ b cap, v = .slice b n cap ∧ n ≤ cap := by
      rcases hown.2 with ⟨rfl, rfl⟩ | ⟨g, cap, cur, rfl, _, _, hnc, _⟩
      · exact ⟨none, 0, rfl, by omega⟩
      · exact ⟨_, cap, rfl, hnc⟩
    refine wpList_plain hgd fun K hK => ?_
    have hrun := run_append_zero (P := Tryz.prog) W t o.type e i E.ht hi b n cap hnc ax c
    unfold Oper.wp
    simp [execOp, ho, resolve, invoke, builtin, hs, hx, hrun, Result.andThen]
    refine hK _ _ (h _ _ (by simpa using hown) ⟨rfl, rfl, rfl, Nat.le_refl _, fun _ _ _ => rfl⟩ (fun k hk => Or.inl hk))
  · obtain ⟨b, off, rfl, hcell⟩ := hnews (by omega)
    refine wpList_append_lies W hgd s x t ho base e i z size bytes E.ht hi hz hsz hby E.hzs E.hsz v n xs hs hown ⟨b, off, none⟩ m c news hx hl ?_ h1 (by omega) (by simp only [maxLen]; omega) (by
      calc (n + m) * bytes ≤ 100000000 * 1000 := Nat.mul_le_mul hn hb
        _ ≤ 140737488355328 := by omega) hbase _ rfl ?_
    · intro j u hu
      obtain ⟨hj, rfl⟩ := List.getElem?_eq_some_iff.1 hu
      have : (⟨b, off, none⟩ : Addr).add j = ⟨b, off + j, none⟩ := by unfold Addr.add; split <;> simp_all
      rw [this]
      exact hcell j hj
    · intro g cap w' h2 h3 h4 _
      refine h _ w' h2 h3 fun k hk => ?_
      simp only [Value.ownBlock] at hk
      injection hk with hk
      subst hk
      exact h4
theorem sub_new {w W : World} {bd : Nat} {M N : List Nat} (h : Chg [bd] w W) (hn : ∀ y ∈ N, w.heap.size ≤ y) : Sub (mask w (bd :: M)) (mask W (bd :: (N ++ M))) := mask_sub_mask fun k hk hm => by
  simp only [List.mem_cons, not_or, List.mem_append] at hm ⊢
  exact ⟨⟨hm.1, fun h' => by have := hn k h'; omega, hm.2⟩, h.block k hk (by simpa using hm.1)⟩
theorem sub_old {w W : World} {bd : Nat} {M : List Nat} (h : Chg [bd] w W) : Sub (mask w (bd :: M)) (mask W (bd :: M)) := by
  have := sub_new (M := M) (N := []) h (by simp)
  simpa using this
/-- The cells of arguments. -/
theorem exs_list {w : World} {l : List Ex} {aa : Option Addr} (h : ExsD w l aa) : ∃ xs : List ExV, ExsR w l xs ∧ (0 < l.length → ∃ b off, aa = some ⟨b, off, none⟩ ∧ ∀ j (hj : j < (xs.flatMap ExV.cells).length), w.cell? ⟨b, off + j, none⟩ = some (xs.flatMap ExV.cells)[j]) := by
  have each : ∀ i, i < l.length → ∃ x : ExV, ∀ (hi : i < l.length), IsEx w l[i] x.val ∧ ∃ b off, aa = some ⟨b, off, none⟩ ∧ ∀ j (hj : j < 6), w.cell? ⟨b, off + i * 6 + j, none⟩ = some (x.cells[j]'(by rw [exV_len]; exact hj)) := by
    intro i hi
    obtain ⟨b, off, rfl, aw, nw, cw, aa', na, ca, h0, h1, h2, h3, h4, h5, h6⟩ := ExsD.at l _ h i hi
    refine ⟨⟨l[i].op, l[i].name, aw, nw, cw, l[i].lo, l[i].hi, aa', na, ca⟩, fun _ => ⟨h6, b, off, rfl, fun j hj => ?_⟩⟩
    have hj' : j = 0 ∨ j = 1 ∨ j = 2 ∨ j = 3 ∨ j = 4 ∨ j = 5 := by omega
    rcases hj' with rfl | rfl | rfl | rfl | rfl | rfl
    · exact h0
    · exact h1
    · exact h2
    · exact h3
    · exact h4
    · exact h5
  have lo : ∀ (n : Nat), n ≤ l.length → ∃ xs : List ExV, xs.length = n ∧ ∀ i (hi : i < xs.length) (hl : i < l.length), IsEx w l[i] xs[i].val ∧ ∃ b off, aa = some ⟨b, off, none⟩ ∧ ∀ j (hj : j < 6), w.cell? ⟨b, off + i * 6 + j, none⟩ = some (xs[i].cells[j]'(by rw [exV_len]; exact hj)) := by
    intro n
    induction n with
    | zero => intro _; exact ⟨[], rfl, fun i hi => by simp at hi⟩
    | succ n ih =>
      intro hn
      obtain ⟨xs, e1, e2⟩ := ih (by omega)
      obtain ⟨x, hx⟩ := each n (by omega)
      refine ⟨xs ++ [x], by simp [e1], fun i hi hl => ?_⟩
      by_cases hin : i < xs.length
      · simp only [List.getElem_append_left hin]; exact e2 i hin hl
      · have : i = n := by simp at hi; omega
        subst this
        simp only [List.getElem_append_right (Nat.le_of_not_lt hin), e1, Nat.sub_self, List.getElem_cons_zero]
        exact hx hl
  obtain ⟨xs, e1, e2⟩ := lo l.length (Nat.le_refl _)
  refine ⟨xs, ⟨e1.symm, fun i h1 h2 => (e2 i h2 h1).1⟩, fun hp => ?_⟩
  obtain ⟨_, b, off, rfl, _⟩ := e2 0 (by omega) hp
  refine ⟨b, off, rfl, fun j hj => ?_⟩
  have hlen := length_flatMap_of ExV.cells 6 (fun _ => rfl) xs
  have hi : j / 6 < xs.length := by omega
  obtain ⟨_, b', off', e3, hc⟩ := e2 (j / 6) hi (by omega)
  simp only [Option.some.injEq, Addr.mk.injEq, and_true] at e3
  obtain ⟨rfl, rfl⟩ := e3
  have h6 := hc (j % 6) (by omega)
  have e4 : off + j / 6 * 6 + j % 6 = off + j := by omega
  rw [e4] at h6
  rw [h6]
  have := flatMap_at ExV.cells 6 (fun _ => rfl) xs (j / 6) hi (j % 6) (by rw [exV_len]; omega)
  rw [show j / 6 * 6 + j % 6 = j by omega, List.getElem?_eq_getElem hj] at this
  exact this.symm
theorem strs_list {w : World} {l : List ByteArray} {a : Option Addr} {n c : Nat} (h : IsStrs w l a n c) : 0 < n → ∃ b off, a = some ⟨b, off, none⟩ ∧ ∀ j (hj : j < (l.map Value.string).length), w.cell? ⟨b, off + j, none⟩ = some (l.map Value.string)[j] := by
  intro hn
  obtain ⟨b, off, rfl, _⟩ := h.2.2.2 0 (by have := h.1; omega)
  refine ⟨b, off, rfl, fun j hj => ?_⟩
  obtain ⟨b', off', e, hc⟩ := h.2.2.2 j (by simpa using hj)
  simp only [Option.some.injEq, Addr.mk.injEq, and_true] at e
  obtain ⟨rfl, rfl⟩ := e
  rw [hc]; simp
end Go.Proofs.YtaepiiediblleaaGreatDoor
