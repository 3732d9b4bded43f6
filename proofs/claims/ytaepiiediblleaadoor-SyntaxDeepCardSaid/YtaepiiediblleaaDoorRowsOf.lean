import Derived.Test.YtaepiiediblleaaDoorBase
namespace Go.Proofs.YtaepiiediblleaaDoor
open Go.RowKit

/-- The facts of a slice type t with elements of type e. -/
structure ElemT (t e : TypeId) (z : Value) (size bytes : Nat) : Prop where
  ht : Tryd.prog.underlying t = some (.slice e)
  info : (Tryd.prog.info? e).map (fun i => (i.zero, i.size, i.bytes)) = some (some z, size, bytes)
  hzs : z.cells.size = size
  hsz : 0 < size

theorem run_append1 {t e : TypeId} {z : Value} {size bytes : Nat} (E : ElemT t e z size bytes) (ty : TypeId) (W : World) {base : Nat} {v : Value} {n : Nat} {xs : List Value} (hown : W.ownsRow base e size v n xs)
    (B off m c : Nat) (news : List Value) (hl : news.length = m * size) (hnews : ∀ j (h : j < news.length), W.cell? ⟨B, off + j, none⟩ = some news[j]) (h1 : ∀ u ∈ news, u.oneCell' = true)
    (hm : n + m ≤ maxLen) (hb : (n + m) * bytes ≤ 140737488355328) (hbase : base ≤ W.heap.size) :
    ∃ v' w', Sem.run Tryd.prog (Builtin.append_ #[t, t] ty #[v, .slice (some ⟨B, off, none⟩) m c]) W = .ok v' w' ∧ w'.ownsRow base e size v' (n + m) (xs ++ news) ∧ W.grownBy w' v.ownBlock ∧
      (v' = .slice none 0 0 ↔ v = .slice none 0 0 ∧ m = 0) := by
  obtain ⟨i, hi, hz, hs, hby⟩ := info_parts E.info
  refine run_append_own (P := Tryd.prog) W base t ty e i z size bytes E.ht hi hz hs hby E.hzs E.hsz v n xs hown ⟨B, off, none⟩ m c news hl ?_ h1 hm hb hbase
  intro j u hu
  obtain ⟨hj, rfl⟩ := List.getElem?_eq_some_iff.1 hu
  have : (⟨B, off, none⟩ : Addr).add j = ⟨B, off + j, none⟩ := by unfold Addr.add; split <;> simp_all
  rw [this]
  exact hnews j hj

/-- A slice of records: n of them, each of size cells. -/
def IsRows {α : Type} (w : World) (size : Nat) (f : α → List Value) (l : List α) (a : Option Addr) (n c : Nat) : Prop :=
  n = l.length ∧ n ≤ c ∧ OkAddr a c ∧ ∀ i (h : i < l.length), ∃ b off, a = some ⟨b, off, none⟩ ∧ ∀ j (hj : j < (f l[i]).length), w.cell? ⟨b, off + i * size + j, none⟩ = some (f l[i])[j]

theorem IsRows.mono {α : Type} {w w' : World} {size : Nat} {f : α → List Value} {l : List α} {a : Option Addr} {n c : Nat} (h : IsRows w size f l a n c) (he : Sub w w') : IsRows w' size f l a n c :=
  ⟨h.1, h.2.1, h.2.2.1, fun i hi => by obtain ⟨b, off, h1, h2⟩ := h.2.2.2 i hi; exact ⟨b, off, h1, fun j hj => he _ _ (h2 j hj)⟩⟩
theorem IsRows.ext {α : Type} {w w' : World} {size : Nat} {f : α → List Value} {l : List α} {a : Option Addr} {n c : Nat} (h : IsRows w size f l a n c) (he : Ext w w') : IsRows w' size f l a n c := h.mono he.sub

theorem flatMap_at {α : Type} (f : α → List Value) (size : Nat) (hf : ∀ x, (f x).length = size) : (l : List α) → (i : Nat) → (hi : i < l.length) → (j : Nat) → (hj : j < (f l[i]).length) → (l.flatMap f)[i * size + j]? = some (f l[i])[j]
  | [], i, hi, _, _ => by simp at hi
  | x :: r, 0, _, j, hj => by
    simp only [List.getElem_cons_zero] at hj
    simp only [List.flatMap_cons, Nat.zero_mul, Nat.zero_add, List.getElem_cons_zero]
    rw [List.getElem?_append_left hj, List.getElem?_eq_getElem hj]
  | x :: r, i + 1, hi, j, hj => by
    have := flatMap_at f size hf r i (by simpa using hi) j (by simpa using hj)
    simp only [List.flatMap_cons, List.getElem_cons_succ] at *
    rw [List.getElem?_append_right (by rw [hf, Nat.succ_mul]; omega), hf, show (i + 1) * size + j - size = i * size + j by rw [Nat.succ_mul]; omega]
    exact this

theorem length_flatMap_of {α : Type} (f : α → List Value) (size : Nat) (hf : ∀ x, (f x).length = size) : (l : List α) → (l.flatMap f).length = l.length * size
  | [] => by simp
  | x :: r => by simp only [List.flatMap_cons, List.length_append, hf, length_flatMap_of f size hf r, List.length_cons, Nat.succ_mul]; omega

theorem IsRows.of_owns {α : Type} {w : World} {base : Nat} {e : TypeId} {size : Nat} {f : α → List Value} {l : List α} {v : Value} (hf : ∀ x, (f x).length = size) (h : w.ownsRow base e size v l.length (l.flatMap f)) :
    ∃ a c, v = .slice a l.length c ∧ IsRows w size f l a l.length c := by
  rcases h.2 with ⟨rfl, h0⟩ | ⟨g, cap, cur, rfl, _, hg, hle, _, _, _⟩
  · have : l = [] := List.eq_nil_of_length_eq_zero h0
    subst this
    exact ⟨none, 0, rfl, rfl, by simp, Or.inl ⟨rfl, rfl⟩, fun i hi => by simp at hi⟩
  · refine ⟨some ⟨g, 0, none⟩, cap, rfl, rfl, hle, Or.inr ⟨g, 0, rfl⟩, fun i hi => ⟨g, 0, rfl, fun j hj => ?_⟩⟩
    rw [Nat.zero_add, h.cellAt _ ?_]
    · exact flatMap_at f size hf l i hi j hj
    · rw [hf] at hj
      calc i * size + j < i * size + size := by omega
        _ = (i + 1) * size := by rw [Nat.succ_mul]
        _ ≤ l.length * size := Nat.mul_le_mul_right _ hi

theorem owns_ext {w w' : World} {base : Nat} {e : TypeId} {size : Nat} {v : Value} {n : Nat} {xs : List Value} (h : w.ownsRow base e size v n xs) (he : Ext w w') : w'.ownsRow base e size v n xs :=
  h.kept (row := none) ⟨he.os, he.tape, he.output, he.size, fun k hk _ => he.block k hk⟩ (by cases hv : v.ownBlock <;> simp)

theorem Ext.grown {a w w' : World} {row : Option Nat} (h : Ext a w) (hg : w.grownBy w' row) (hr : ∀ k, row = some k → a.heap.size ≤ k) : Ext a w' := Below.grown h hg h.size hr

/-- append of elements that were just laid into a block of their own. -/
theorem wpList_append_new {t e : TypeId} {z : Value} {size bytes : Nat} (E : ElemT t e z size bytes) {ops : Array Oper} {rest : List Oper} {o : Oper} {a : Act} {Q : Exit → Act → World → Prop} {X : World} {arr : Array Value} {tt : TypeId}
    (hgd : o.guard = none) (s x : Operand) (ho : o.op = .call { callee := .builtin .append, args := #[s, x], argTypes := #[t, t] }) (base : Nat) (v : Value) (n : Nat) (xs : List Value) (hs : a.eval s = v) (hown : X.ownsRow base e size v n xs)
    (B m c : Nat) (hx : a.eval x = .slice (some ⟨B, 0, none⟩) m c) (hB : B = X.heap.size) (hl : arr.size = m * size) (h1 : ∀ u ∈ arr.toList, u.oneCell' = true) (hm : n + m ≤ maxLen) (hb : (n + m) * bytes ≤ 140737488355328) (hbase : base ≤ X.heap.size)
    (h : ∀ v' w', w'.ownsRow base e size v' (n + m) (xs ++ arr.toList) → X.grownBy w' v.ownBlock → wpList Tryd.prog ops Q rest (a.put o.dst v') w') : wpList Tryd.prog ops Q (o :: rest) a (X.alloc (.cells arr tt)) := by
  subst hB
  obtain ⟨i, hi, hz, hsz, hby⟩ := info_parts E.info
  refine wpList_append_own (X.alloc (.cells arr tt)) hgd s x t ho base e i z size bytes E.ht hi hz hsz hby E.hzs E.hsz v n xs hs (hown.alloc _) ⟨X.heap.size, 0, none⟩ m c arr.toList hx (by simpa using hl) ?_ h1 hm hb (by simp; omega) ?_
  · intro j u hu
    have : (⟨X.heap.size, 0, none⟩ : Addr).add j = ⟨X.heap.size, j, none⟩ := by unfold Addr.add; split <;> simp_all
    rw [this, World.cell?_alloc_at _ _ _ _ rfl]
    simpa using hu
  · intro v' w' h2 h3 _
    refine h v' w' h2 ⟨h3.os, h3.tape, h3.output, ?_, fun k hk hne => ?_⟩
    · have := h3.size; simp at this; omega
    · rw [h3.block k (by simp; omega) hne]
      exact Below.heap_alloc _ _ _ hk

/-- What was appended to is still the call's own. -/
theorem owns_base {w : World} {base : Nat} {e : TypeId} {size : Nat} {v : Value} {n : Nat} {xs : List Value} (h : w.ownsRow base e size v n xs) : ∀ k, v.ownBlock = some k → base ≤ k := fun k hk => (h.lt k hk).1
end Go.Proofs.YtaepiiediblleaaDoor
