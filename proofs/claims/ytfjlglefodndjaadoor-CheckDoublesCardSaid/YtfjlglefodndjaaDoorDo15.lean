/-
  Texts of the claim, joined: MapAt, Heap1, Heap2, Heap3, Heap4, Heap5.
-/
import Derived.Test.YtfjlglefodndjaaDoorDo03
import Derived.StringKeys
import Derived.Maps.OwnSet
import Derived.Maps.Range
import Derived.Lib.Builder
import Derived.Test.YtfjlglefodndjaaDoorDo01
import Derived.Deep.DeepCutAuto
import Derived.Test.YtfjlglefodndjaaDoorDo06
import Derived.Deep.LoopGhost
import Derived.Outline
namespace Go.Proofs.YtfjlglefodndjaaDoor
open Go.RowKit Go.Maps

/-! A map in memory as a function of its keys, whatever its elements are: each element is kept as the Go value itself. -/
def heldE (v : Value) : Option (DataW Value × List MemPlace) := some (.held v, [])
/-- The data D holds f. -/
def HoldsF (D : DataW Value) (f : Lit → Option Value) : Prop := ∀ x, WideAt.IsKeyLit x → Maps.has D x = (f x).isSome ∧ ∀ v, f x = some v → ∀ z, D.atKey x z = .held v
/-- Block b is a map with keys of type k, of at most n entries, that holds f. -/
def MapAt (w : World) (k : TypeId) (b n : Nat) (f : Lit → Option Value) : Prop := ∃ D : DataW Value, w.ownsMap Tryd.prog k heldE b n D ∧ HoldsF D f
open Classical in
noncomputable def setF (f : Lit → Option Value) (x : Lit) (v : Option Value) : Lit → Option Value := fun y => if y = x then v else f y
theorem setF_same (f : Lit → Option Value) (x : Lit) (v : Option Value) : setF f x v x = v := by simp [setF]
theorem setF_other (f : Lit → Option Value) {x y : Lit} (v : Option Value) (h : y ≠ x) : setF f x v y = f y := by simp [setF, h]
theorem MapAt.made (w : World) (k : TypeId) : MapAt (w.alloc (.map #[] 0)) k w.heap.size 0 (fun _ => none) :=
  ⟨.map [], World.ownsMap_made w _ k heldE, fun x _ => ⟨rfl, fun v h => by cases h⟩⟩
theorem MapAt.lt {w : World} {k : TypeId} {b n : Nat} {f : Lit → Option Value} (h : MapAt w k b n f) : b < w.heap.size := by obtain ⟨D, h, _⟩ := h; exact h.lt
theorem MapAt.more {w : World} {k : TypeId} {b n n' : Nat} {f : Lit → Option Value} (h : MapAt w k b n f) (hn : n ≤ n') : MapAt w k b n' f := by obtain ⟨D, h, hs⟩ := h; exact ⟨D, h.mono hn, hs⟩
theorem MapAt.chg {w w' : World} {k : TypeId} {b n : Nat} {f : Lit → Option Value} {N : List Nat} (h : MapAt w k b n f) (hc : Chg N w w') (hn : b ∉ N) : MapAt w' k b n f := by
  have hlt := h.lt
  obtain ⟨D, ⟨es, clock, hb, r⟩, hs⟩ := h
  exact ⟨D, ⟨es, clock, (hc.block b hlt hn).trans hb, r⟩, hs⟩
theorem MapAt.ext {w w' : World} {k : TypeId} {b n : Nat} {f : Lit → Option Value} (h : MapAt w k b n f) (he : Ext w w') : MapAt w' k b n f := h.chg (he.chg []) (by simp)
theorem MapAt.congr {w : World} {k : TypeId} {b n : Nat} {f g : Lit → Option Value} (h : MapAt w k b n f) (e : ∀ x, f x = g x) : MapAt w k b n g := by rw [show g = f from funext fun x => (e x).symm]; exact h
theorem grown_one {w w' : World} {b : Nat} (h : w.grownBy w' (some b)) : Chg [b] w w' := ⟨h.os, h.tape, h.output, h.size, fun k hk hn => h.block k hk (fun e => hn (by simp at e; simp [e]))⟩
theorem HoldsF.at {D : DataW Value} {f : Lit → Option Value} (h : HoldsF D f) {x : Lit} (hx : WideAt.IsKeyLit x) {v z : Value} (hv : DataW.held v = D.atKey x (.held z)) : v = (f x).getD z := by
  obtain ⟨h1, h2⟩ := h x hx
  cases hf : f x with
  | none =>
    rw [hf] at h1
    rw [atKey_of_not_has h1] at hv
    simpa using hv
  | some u =>
    rw [h2 u hf] at hv
    simpa using hv
theorem HoldsF.put {D : DataW Value} {f : Lit → Option Value} (h : HoldsF D f) (hD : IsMap D) {x : Lit} (hx : WideAt.IsKeyLit x) (v : Value) : HoldsF (D.put x (.held v)) (setF f x (some v)) := by
  intro y hy
  by_cases e : y = x
  · subst e
    rw [setF_same]
    refine ⟨by rw [has_put_same hD hx]; rfl, fun u hu z => ?_⟩
    rw [atKey_put_same hD hx]
    cases hu; rfl
  · rw [setF_other _ _ e]
    refine ⟨by rw [has_put_other e]; exact (h y hy).1, fun u hu z => ?_⟩
    rw [atKey_put_other e]
    exact (h y hy).2 u hu z
theorem HoldsF.del {D : DataW Value} {f : Lit → Option Value} (h : HoldsF D f) {x : Lit} (hx : WideAt.IsKeyLit x) : HoldsF (D.del x) (setF f x none) := by
  intro y hy
  by_cases e : y = x
  · subst e
    rw [setF_same]
    exact ⟨by rw [has_del_same]; rfl, fun u hu => by cases hu⟩
  · rw [setF_other _ _ e]
    refine ⟨by rw [has_del_other e]; exact (h y hy).1, fun u hu z => ?_⟩
    rw [atKey_del_other e]
    exact (h y hy).2 u hu z
/-- An empty map has size 0, and only that. -/
theorem HoldsF.size {D : DataW Value} {f : Lit → Option Value} (h : HoldsF D f) {es : List (Lit × DataW Value)} (hD : D = .map es) (hk : ∀ p ∈ es, WideAt.IsKeyLit p.1) : Maps.size D = 0 ↔ ∀ x, WideAt.IsKeyLit x → f x = none := by
  subst hD
  rw [size_eq]
  constructor
  · intro h0 x hx
    have := (h x hx).1
    rw [List.eq_nil_of_length_eq_zero h0] at this
    cases hf : f x with
    | none => rfl
    | some u => rw [hf] at this; simp [has_eq] at this
  · intro h0
    cases es with
    | nil => rfl
    | cons p r =>
      have hp := hk p (by simp)
      have := (h p.1 hp).1
      rw [h0 p.1 hp, has_eq] at this
      simp [WideAt.sameKey_self hp] at this
section
variable (w : World) {ops : Array Oper} {rest : List Oper} {o : Oper} {a : Act} {Q : Exit → Act → World → Prop}
theorem wpList_map_ok (hg : o.guard = none) (m x : Operand) (t : TypeId) (hop : o.op = Op.lookup t m x true) (k e : TypeId) (K : Keyed Tryd.prog k) (ht : Tryd.prog.underlying t = some (.map k e)) {z : Value} (hz : (zeroValue e).run Tryd.prog w = .ok z w) (b n : Nat) (f : Lit → Option Value)
    (hm : a.eval m = .map (some b)) (hmap : MapAt w k b n f) (key : Value) (kl : Lit) (hx : a.eval x = key) (hkey : keyOf Tryd.prog k key = some kl) (hkl : WideAt.IsKeyLit kl)
    (hK : wpList Tryd.prog ops Q rest (a.put o.dst (.tuple #[(f kl).getD z, .bool (f kl).isSome])) w) : wpList Tryd.prog ops Q (o :: rest) a w := by
  obtain ⟨D, hown, hf⟩ := hmap
  refine wpList_lookup_own_ok w hg m x t hop k e K ht heldE hz (.held z) [] rfl b n D hm hown key kl hx hkey fun v ps hv => ?_
  have e1 : DataW.held v = D.atKey kl (.held z) := by
    simp only [heldE, Option.some.injEq, Prod.mk.injEq] at hv
    exact hv.1
  rw [hf.at hkl e1, (hf kl hkl).1]
  exact hK
theorem wpList_map_get (hg : o.guard = none) (m x : Operand) (t : TypeId) (hop : o.op = Op.lookup t m x false) (k e : TypeId) (K : Keyed Tryd.prog k) (ht : Tryd.prog.underlying t = some (.map k e)) {z : Value} (hz : (zeroValue e).run Tryd.prog w = .ok z w) (b n : Nat) (f : Lit → Option Value)
    (hm : a.eval m = .map (some b)) (hmap : MapAt w k b n f) (key : Value) (kl : Lit) (hx : a.eval x = key) (hkey : keyOf Tryd.prog k key = some kl) (hkl : WideAt.IsKeyLit kl)
    (hK : wpList Tryd.prog ops Q rest (a.put o.dst ((f kl).getD z)) w) : wpList Tryd.prog ops Q (o :: rest) a w := by
  obtain ⟨D, hown, hf⟩ := hmap
  refine wpList_plain hg fun K' hK' => ?_
  obtain ⟨v, ps, hrun, hv⟩ := hown.lookup K ht hz (zd := .held z) (zp := []) rfl hkey
  have e1 : DataW.held v = D.atKey kl (.held z) := by
    simp only [heldE, Option.some.injEq, Prod.mk.injEq] at hv
    exact hv.1
  rw [← hf.at hkl e1] at hK
  unfold Oper.wp
  simp [execOp, hop, hm, hx, hrun, Result.andThen]
  exact hK' _ _ hK
theorem wpList_map_put (hg : o.guard = none) (m x v : Operand) (t : TypeId) (hop : o.op = Op.mapUpdate t m x v) (k e : TypeId) (K : Keyed Tryd.prog k) (ht : Tryd.prog.underlying t = some (.map k e)) (b n : Nat) (f : Lit → Option Value)
    (hm : a.eval m = .map (some b)) (hmap : MapAt w k b n f) (hn : n < maxLen) (key val : Value) (kl : Lit) (hx : a.eval x = key) (hv : a.eval v = val) (hkey : keyOf Tryd.prog k key = some kl) (hkl : WideAt.IsKeyLit kl)
    (hK : ∀ w', MapAt w' k b (n + 1) (setF f kl (some val)) → Chg [b] w w' → wpList Tryd.prog ops Q rest (a.put o.dst undef) w') : wpList Tryd.prog ops Q (o :: rest) a w := by
  obtain ⟨D, hown, hf⟩ := hmap
  refine wpList_mapUpdate_own w hg m x v t hop k e K ht heldE b n D hm hown hn key val kl hx hv hkey (.held val) [] rfl fun w' h1 h2 => ?_
  exact hK w' ⟨_, h1, hf.put hown.isMap hkl val⟩ (grown_one h2)
theorem wpList_map_del (hg : o.guard = none) (m x : Operand) (t k : TypeId) (hop : o.op = Op.call { callee := Callee.builtin Builtin.delete, args := #[m, x], argTypes := #[t, k] }) (e : TypeId) (K : Keyed Tryd.prog k) (ht : Tryd.prog.underlying t = some (.map k e)) (b n : Nat) (f : Lit → Option Value)
    (hm : a.eval m = .map (some b)) (hmap : MapAt w k b n f) (key : Value) (kl : Lit) (hx : a.eval x = key) (hkey : keyOf Tryd.prog k key = some kl) (hkl : WideAt.IsKeyLit kl)
    (hK : ∀ w', MapAt w' k b n (setF f kl none) → Chg [b] w w' → wpList Tryd.prog ops Q rest (a.put o.dst (.tuple #[])) w') : wpList Tryd.prog ops Q (o :: rest) a w := by
  obtain ⟨D, hown, hf⟩ := hmap
  refine wpList_delete_own w hg m x t k hop e K ht heldE b n D hm hown key kl hx hkey fun w' h1 h2 => ?_
  exact hK w' ⟨_, h1, hf.del hkl⟩ (grown_one h2.grown)
theorem wpList_map_len (hg : o.guard = none) (m : Operand) (t : TypeId) (hop : o.op = Op.call { callee := Callee.builtin Builtin.len, args := #[m], argTypes := #[t] }) (k e : TypeId) (K : Keyed Tryd.prog k) (ht : Tryd.prog.underlying t = some (.map k e)) (b n : Nat) (f : Lit → Option Value)
    (hm : a.eval m = .map (some b)) (hmap : MapAt w k b n f)
    (hK : ∀ s : Nat, s ≤ n → (s = 0 ↔ ∀ x, WideAt.IsKeyLit x → f x = none) → wpList Tryd.prog ops Q rest (a.put o.dst (.int .i64 s)) w) : wpList Tryd.prog ops Q (o :: rest) a w := by
  obtain ⟨D, hown, hf⟩ := hmap
  refine wpList_len_own w hg m t hop k e ht heldE b n D hm hown ?_
  obtain ⟨es, hes, _, hk⟩ := hown.entries K
  exact hK _ hown.size_le (hf.size hes hk)
end
end Go.Proofs.YtfjlglefodndjaaDoor

namespace Go.Proofs.YtfjlglefodndjaaDoor
open Go.RowKit

/-- A pile of integers in a block of its own (number b, from B on; one cell: a slice whose row the pile owns): T the block's type, e the elements' type. -/
def PileAt (T e : TypeId) (B b : Nat) (xs : List Int) (w : World) : Prop :=
  B ≤ b ∧ ∃ v, w.heap[b]? = some (.cells #[v] T (0, 0)) ∧ w.ownsRow B e 1 v xs.length (xs.map fun z => Value.int .i64 z) ∧ v.ownBlock ≠ some b
theorem PileAt.fresh (T e : TypeId) (w : World) : PileAt T e w.heap.size w.heap.size [] (w.alloc (.cells #[.slice none 0 0] T)) :=
  ⟨Nat.le_refl _, .slice none 0 0, heap_alloc_new w _, World.ownsRow_nil _ _ _ _, by simp [Value.ownBlock]⟩
theorem PileAt.lt {T e : TypeId} {B b : Nat} {xs : List Int} {w : World} (h : PileAt T e B b xs w) : b < w.heap.size := by
  obtain ⟨_, v, hb, _⟩ := h
  rcases Nat.lt_or_ge b w.heap.size with h' | h'
  · exact h'
  · simp [Array.getElem?_eq_none h'] at hb
theorem PileAt.ext {T e : TypeId} {B b : Nat} {xs : List Int} {w w' : World} (h : PileAt T e B b xs w) (hx : Ext w w') : PileAt T e B b xs w' := by
  have hlt := h.lt
  obtain ⟨hB, v, hb, hown, hne⟩ := h
  refine ⟨hB, v, (hx.block b hlt).trans hb, hown.kept (row := none) ⟨hx.os, hx.tape, hx.output, hx.size, fun k hk _ => hx.block k hk⟩ ?_, hne⟩
  rcases hown.2 with ⟨hv, _⟩ | ⟨g, cap, cur, hv, _⟩
  · exact Or.inl (by rw [hv]; rfl)
  · exact Or.inr (by rw [hv]; simp [Value.ownBlock])
/-- What a pile's slice is: nil, or a row of its own with these cells. -/
theorem PileAt.parts {T e : TypeId} {B b : Nat} {xs : List Int} {w : World} (h : PileAt T e B b xs w) : B ≤ b ∧ ((xs = [] ∧ w.heap[b]? = some (.cells #[.slice none 0 0] T (0, 0))) ∨
    ∃ g cap cur, w.heap[b]? = some (.cells #[.slice (some ⟨g, 0, none⟩) xs.length cap] T (0, 0)) ∧ B ≤ g ∧ g ≠ b ∧ w.heap[g]? = some (.cells cur e (0, 0)) ∧ xs.length ≤ cap ∧ cap ≤ maxLen ∧ cur.size = cap ∧ cur.toList.take xs.length = xs.map fun z => Value.int .i64 z) := by
  obtain ⟨hB, v, hb, hown, hne⟩ := h
  refine ⟨hB, ?_⟩
  rcases hown.2 with ⟨rfl, h0⟩ | ⟨g, cap, cur, rfl, hg1, hg2, hg3, hg4, hg5, hg6⟩
  · exact Or.inl ⟨List.eq_nil_of_length_eq_zero h0, hb⟩
  · refine Or.inr ⟨g, cap, cur, hb, hg1, fun e => hne (by simp [Value.ownBlock, e]), hg2, hg3, hg4, ?_, ?_⟩
    · simpa using hg5
    · simpa using hg6
/-- One element is overwritten. -/
theorem pile_set {T e : TypeId} {B b g cap : Nat} {cur : Array Value} {xs : List Int} {w : World} (hB : B ≤ b) (hb : w.heap[b]? = some (.cells #[.slice (some ⟨g, 0, none⟩) xs.length cap] T (0, 0))) (hg1 : B ≤ g) (hgb : g ≠ b) (hg : w.heap[g]? = some (.cells cur e (0, 0)))
    (h1 : xs.length ≤ cap) (h2 : cap ≤ maxLen) (h3 : cur.size = cap) (h4 : cur.toList.take xs.length = xs.map fun z => Value.int .i64 z) {i : Nat} (z : Int) :
    PileAt T e B b (xs.set i z) (w.setCell ⟨g, i, none⟩ (.int .i64 z)) ∧ Chg [g] w (w.setCell ⟨g, i, none⟩ (.int .i64 z)) := by
  refine ⟨⟨hB, .slice (some ⟨g, 0, none⟩) xs.length cap, ?_, ⟨?_, .inr ⟨g, cap, cur.setIfInBounds i (.int .i64 z), ?_, hg1, ?_, ?_, h2, ?_, ?_⟩⟩, ?_⟩, (Chg.refl _ _).setCell (Or.inl (by simp)) _⟩
  · rw [Below.heap_setCell _ _ _ _ (by simpa using fun h => hgb h.symm)]; exact hb
  · simp
  · simp
  · simp [World.setCell, Array.getElem?_modify, hg]
  · simpa using h1
  · simpa using h3
  · simp only [Array.toList_setIfInBounds, List.length_set, Nat.mul_one]
    rw [List.take_set, h4, List.map_set]
  · simp [Value.ownBlock, hgb]
/-- What a walk reads of a pile. -/
theorem pile_cell {e : TypeId} {g : Nat} {cur : Array Value} {xs : List Int} {w : World} (hg : w.heap[g]? = some (.cells cur e (0, 0))) (h4 : cur.toList.take xs.length = xs.map fun z => Value.int .i64 z) {i : Nat} (hi : i < xs.length) : w.cell? ⟨g, i, none⟩ = some (.int .i64 xs[i]) ∧ w.frozen? ⟨g, i, none⟩ = false := by
  have h5 : (cur.toList.take xs.length)[i]? = some (.int .i64 xs[i]) := by rw [h4]; simp [hi]
  rw [List.getElem?_take, if_pos hi] at h5
  refine ⟨?_, Lib.frozen_of_heap hg i⟩
  rw [Lib.cell_of_heap hg]
  simpa using h5
/-- The last element is taken away. -/
theorem pile_less {T e : TypeId} {B b g cap : Nat} {cur : Array Value} {xs : List Int} {w : World} (hB : B ≤ b) (hb : w.heap[b]? = some (.cells #[.slice (some ⟨g, 0, none⟩) xs.length cap] T (0, 0))) (hg1 : B ≤ g) (hgb : g ≠ b) (hg : w.heap[g]? = some (.cells cur e (0, 0)))
    (h1 : xs.length ≤ cap) (h2 : cap ≤ maxLen) (h3 : cur.size = cap) (h4 : cur.toList.take xs.length = xs.map fun z => Value.int .i64 z) :
    PileAt T e B b xs.dropLast (w.setCell ⟨b, 0, none⟩ (.slice (some ⟨g, 0, none⟩) (xs.length - 1) cap)) ∧ Chg [b] w (w.setCell ⟨b, 0, none⟩ (.slice (some ⟨g, 0, none⟩) (xs.length - 1) cap)) := by
  refine ⟨⟨hB, .slice (some ⟨g, 0, none⟩) (xs.length - 1) cap, ?_, ⟨?_, .inr ⟨g, cap, cur, ?_, hg1, ?_, ?_, h2, ?_, ?_⟩⟩, ?_⟩, (Chg.refl _ _).setCell (Or.inl (by simp)) _⟩
  · simp [World.setCell, Array.getElem?_modify, hb]
  · simp
  · simp
  · rw [Below.heap_setCell _ _ _ _ (by simpa using hgb)]; exact hg
  · simp; omega
  · simpa using h3
  · have h5 : cur.toList.take (xs.length - 1) = (cur.toList.take xs.length).take (xs.length - 1) := by rw [List.take_take]; congr 1; omega
    simp only [List.length_dropLast, Nat.mul_one]
    rw [h5, h4, ← List.map_take, List.dropLast_eq_take]
  · simp [Value.ownBlock, hgb]
end Go.Proofs.YtfjlglefodndjaaDoor

namespace Go.Proofs.YtfjlglefodndjaaDoor
open Go.RowKit

/-! The methods that heap.Interface calls on a *check.indexes: Len, Less, Swap are sort.IntSlice's, promoted. -/
theorem rows_idx : (Tryd.prog.info? 69).map (fun i => ["Len", "Less", "Swap", "Push", "Pop"].map fun s => (i.methods.find? (·.name == s)).map fun m => (m.path.toList.map fun p => (p.struct, p.index, p.deref), m.func)) =
  some [some ([(72, 0, true)], some (27, false)), some ([(72, 0, true)], some (98, false)), some ([(72, 0, true)], some (102, false)), some ([], some (100, true)), some ([], some (99, true))] := by kernel_rfl
theorem meth_push (n b : Nat) (w : World) : (method (n + 1) 69 (.pointer (some ⟨b, 0, none⟩)) "Push").run Tryd.prog w = .ok (100, .pointer (some ⟨b, 0, none⟩)) w := by kernel_rfl
theorem meth_pop (n b : Nat) (w : World) : (method (n + 1) 69 (.pointer (some ⟨b, 0, none⟩)) "Pop").run Tryd.prog w = .ok (99, .pointer (some ⟨b, 0, none⟩)) w := by kernel_rfl
theorem meth_len (n b : Nat) (v : Value) (w : World) (h : w.cell? ⟨b, 0, none⟩ = some v) : (method (n + 1) 69 (.pointer (some ⟨b, 0, none⟩)) "Len").run Tryd.prog w = .ok (27, v) w := by
  have e : (method (n + 1) 69 (.pointer (some ⟨b, 0, none⟩)) "Len").run Tryd.prog w = (loadVar 70 ⟨b, 0, none⟩ >>= fun v => pure (27, v)).run Tryd.prog w := by kernel_rfl
  rw [e]
  simp [loadVar, go_sem, h]
theorem meth_less (n b : Nat) (v : Value) (w : World) (h : w.cell? ⟨b, 0, none⟩ = some v) : (method (n + 1) 69 (.pointer (some ⟨b, 0, none⟩)) "Less").run Tryd.prog w = .ok (98, v) w := by
  have e : (method (n + 1) 69 (.pointer (some ⟨b, 0, none⟩)) "Less").run Tryd.prog w = (loadVar 70 ⟨b, 0, none⟩ >>= fun v => pure (98, v)).run Tryd.prog w := by kernel_rfl
  rw [e]
  simp [loadVar, go_sem, h]
theorem meth_swap (n b : Nat) (v : Value) (w : World) (h : w.cell? ⟨b, 0, none⟩ = some v) : (method (n + 1) 69 (.pointer (some ⟨b, 0, none⟩)) "Swap").run Tryd.prog w = .ok (102, v) w := by
  have e : (method (n + 1) 69 (.pointer (some ⟨b, 0, none⟩)) "Swap").run Tryd.prog w = (loadVar 70 ⟨b, 0, none⟩ >>= fun v => pure (102, v)).run Tryd.prog w := by kernel_rfl
  rw [e]
  simp [loadVar, go_sem, h]
theorem ahead_len (n b : Nat) (w : World) : (nilAhead (n + 1) 69 (.pointer (some ⟨b, 0, none⟩)) "Len").run Tryd.prog w = .ok (some false) w := by kernel_rfl
theorem ahead_less (n b : Nat) (w : World) : (nilAhead (n + 1) 69 (.pointer (some ⟨b, 0, none⟩)) "Less").run Tryd.prog w = .ok (some false) w := by kernel_rfl
theorem ahead_swap (n b : Nat) (w : World) : (nilAhead (n + 1) 69 (.pointer (some ⟨b, 0, none⟩)) "Swap").run Tryd.prog w = .ok (some false) w := by kernel_rfl
theorem ahead_push (n b : Nat) (w : World) : (nilAhead (n + 1) 69 (.pointer (some ⟨b, 0, none⟩)) "Push").run Tryd.prog w = .ok (some false) w := by kernel_rfl
theorem ahead_pop (n b : Nat) (w : World) : (nilAhead (n + 1) 69 (.pointer (some ⟨b, 0, none⟩)) "Pop").run Tryd.prog w = .ok (some false) w := by kernel_rfl
theorem ilen_calls (a : Option Addr) (n c : Nat) (w : World) : Calls Tryd.prog 27 #[.slice a n c] w (Gives (.int .i64 n) w) := by
  go_enter Tryd.func27, Tryd.ntmps27
  go_wp2_with fail
  go_ret
  exact ⟨rfl, rfl⟩
theorem iless_calls (g n c i j : Nat) (x y : Int) (w : World) (hi : i < n) (hj : j < n) (h1 : w.cell? ⟨g, i, none⟩ = some (.int .i64 x)) (h2 : w.cell? ⟨g, j, none⟩ = some (.int .i64 y)) :
    Calls Tryd.prog 98 #[.slice (some ⟨g, 0, none⟩) n c, .int .i64 i, .int .i64 j] w (GivesE (.bool (decide (x < y))) w) := by
  go_enter Tryd.func98, Tryd.ntmps98
  go_upto_region 1 with fail
  go_quiet (fail)
  go_wp2_with fail
  go_ret
  exact ⟨rfl, Ext.drewN (Ext.refl _) _⟩
end Go.Proofs.YtfjlglefodndjaaDoor

namespace Go.Proofs.YtfjlglefodndjaaDoor
open Go.RowKit

def tabS (g n c i j : Nat) (x y : Int) : List Value :=
  [.slice (some ⟨g, 0, none⟩) n c, .int .i64 i, .slice (some ⟨g, 0, none⟩) n c, .int .i64 j, .slice (some ⟨g, 0, none⟩) n c, .int .i64 j, .pointer (some ⟨g, j, none⟩), .int .i64 y, .slice (some ⟨g, 0, none⟩) n c, .int .i64 i, .pointer (some ⟨g, i, none⟩), .int .i64 x, .pointer (some ⟨g, i, none⟩), undef, .pointer (some ⟨g, j, none⟩)]
def RS (tab : List Value) (i : Nat) (u : Value) (_ : World) : Prop := u = tab.getD i undef
def GS (w w1 : World) (L : List Nat) (W : World) : Prop := (13 ∉ L → ∃ k, W = w.drewN k) ∧ (13 ∈ L → ∃ k, W = w1.drewN k)
def ES (_ : Nat) (_ _ : World) : Prop := True
theorem GS.plain {w w1 : World} {L : List Nat} {W : World} (h : GS w w1 L W) {i : Nat} (hi : i ≠ 13) : GS w w1 (L ++ [i]) W := by
  have hm : 13 ∈ L ++ [i] ↔ 13 ∈ L := by simp; omega
  unfold GS
  rw [hm]; exact h
theorem swap_before {ops : Array Oper} {m : Nat} {L : List Nat} {i : Nat} (hg : (13 == i || comesAfter ops m 13 i) = true) (hi : i ∉ L) (hL : ∀ j ∈ L, comesAfter ops m j i = false) : 13 ∉ L := by
  intro h
  rw [hL 13 h] at hg
  simp only [Bool.or_false, beq_iff_eq] at hg
  exact hi (hg ▸ h)

set_option maxRecDepth 100000 in
set_option maxHeartbeats 1000000 in
theorem iswap_calls (g n c i j : Nat) (x y : Int) (w : World) (hi : i < n) (hj : j < n) (h1 : w.cell? ⟨g, i, none⟩ = some (.int .i64 x)) (h2 : w.cell? ⟨g, j, none⟩ = some (.int .i64 y)) (hf : ∀ k, w.frozen? ⟨g, k, none⟩ = false) :
    Calls Tryd.prog 102 #[.slice (some ⟨g, 0, none⟩) n c, .int .i64 i, .int .i64 j] w (fun e w' => e = .returned (.tuple #[]) ∧ ∃ k, w' = ((w.setCell ⟨g, i, none⟩ (.int .i64 y)).setCell ⟨g, j, none⟩ (.int .i64 x)).drewN k) := by
  go_enter Tryd.func102, Tryd.ntmps102
  go_upto_region 0 with fail
  refine wp_region_growL (m := 15) [11, 14] (GS w (w.setCell ⟨g, i, none⟩ (.int .i64 y))) ES (RS (tabS g n c i j x y)) (by kernel_rfl) (by kernel_rfl) ⟨fun _ => ⟨1, rfl⟩, fun h => by simp at h⟩ (fun _ _ _ _ _ _ _ _ _ hR _ => hR) ?_ ?_
  · intro q o hq ho L vs W hiL hnc hG hd ρ hρ
    have hq' : q = 0 ∨ q = 1 ∨ q = 2 ∨ q = 3 ∨ q = 4 ∨ q = 5 ∨ q = 6 ∨ q = 7 ∨ q = 8 ∨ q = 9 ∨ q = 10 ∨ q = 11 ∨ q = 12 ∨ q = 13 ∨ q = 14 := by omega
    clear hq
    have o0 : ρ (.tmp 0) = .slice (some ⟨g, 0, none⟩) n c := hρ.out 0 rfl
    have o1 : ρ (.tmp 1) = .int .i64 i := hρ.out 1 rfl
    have o2 : ρ (.tmp 2) = .int .i64 j := hρ.out 2 rfl
    have hcs := hρ.const
    have HG := Lib.hid hG
    clear hG
    rcases hq' with rfl | rfl | rfl | rfl | rfl | rfl | rfl | rfl | rfl | rfl | rfl | rfl | rfl | rfl | rfl
    · cases ho
      clear hρ hd
      unfold GivesOp
      go_simp
      exact ⟨trivial, HG.out.plain (by omega), rfl⟩
    · cases ho
      clear hρ hd
      unfold GivesOp
      go_simp
      exact ⟨trivial, HG.out.plain (by omega), rfl⟩
    · cases ho
      clear hρ hd
      unfold GivesOp
      go_simp
      exact ⟨trivial, HG.out.plain (by omega), rfl⟩
    · cases ho
      clear hρ hd
      unfold GivesOp
      go_simp
      exact ⟨trivial, HG.out.plain (by omega), rfl⟩
    · cases ho
      clear hρ hd
      unfold GivesOp
      go_simp
      exact ⟨trivial, HG.out.plain (by omega), rfl⟩
    · cases ho
      clear hρ hd
      unfold GivesOp
      go_simp
      exact ⟨trivial, HG.out.plain (by omega), rfl⟩
    · cases ho
      have i4 := hρ.ins 4 10 (by omega) rfl (Nat.le_of_ble_eq_true rfl)
      have d4 : vs 4 = _ := hd ⟨4, .data⟩ (by simp) rfl
      rw [d4] at i4
      dsimp only [tabS, List.getD_cons_zero, List.getD_cons_succ] at i4
      have i5 := hρ.ins 5 11 (by omega) rfl (Nat.le_of_ble_eq_true rfl)
      have d5 : vs 5 = _ := hd ⟨5, .data⟩ (by simp) rfl
      rw [d5] at i5
      dsimp only [tabS, List.getD_cons_zero, List.getD_cons_succ] at i5
      clear hρ hd
      unfold GivesOp
      go_simp
      exact ⟨trivial, HG.out.plain (by omega), rfl⟩
    · cases ho
      have i6 := hρ.ins 6 12 (by omega) rfl (Nat.le_of_ble_eq_true rfl)
      have d6 : vs 6 = _ := hd ⟨6, .data⟩ (by simp) rfl
      rw [d6] at i6
      dsimp only [tabS, List.getD_cons_zero, List.getD_cons_succ] at i6
      obtain ⟨kw, rfl⟩ := HG.out.1 (swap_before (by decide +kernel) hiL hnc)
      have c1 : (w.drewN kw).cell? ⟨g, i, none⟩ = some (.int .i64 x) := h1
      have c2 : (w.drewN kw).cell? ⟨g, j, none⟩ = some (.int .i64 y) := h2
      have cf : ∀ k, (w.drewN kw).frozen? ⟨g, k, none⟩ = false := hf
      clear hρ hd
      unfold GivesOp
      go_simp
      exact ⟨trivial, HG.out.plain (by omega), rfl⟩
    · cases ho
      clear hρ hd
      unfold GivesOp
      go_simp
      exact ⟨trivial, HG.out.plain (by omega), rfl⟩
    · cases ho
      clear hρ hd
      unfold GivesOp
      go_simp
      exact ⟨trivial, HG.out.plain (by omega), rfl⟩
    · cases ho
      have i8 := hρ.ins 8 14 (by omega) rfl (Nat.le_of_ble_eq_true rfl)
      have d8 : vs 8 = _ := hd ⟨8, .data⟩ (by simp) rfl
      rw [d8] at i8
      dsimp only [tabS, List.getD_cons_zero, List.getD_cons_succ] at i8
      have i9 := hρ.ins 9 15 (by omega) rfl (Nat.le_of_ble_eq_true rfl)
      have d9 : vs 9 = _ := hd ⟨9, .data⟩ (by simp) rfl
      rw [d9] at i9
      dsimp only [tabS, List.getD_cons_zero, List.getD_cons_succ] at i9
      clear hρ hd
      unfold GivesOp
      go_simp
      exact ⟨trivial, HG.out.plain (by omega), rfl⟩
    · cases ho
      have i10 := hρ.ins 10 16 (by omega) rfl (Nat.le_of_ble_eq_true rfl)
      have d10 : vs 10 = _ := hd ⟨10, .data⟩ (by simp) rfl
      rw [d10] at i10
      dsimp only [tabS, List.getD_cons_zero, List.getD_cons_succ] at i10
      obtain ⟨kw, rfl⟩ := HG.out.1 (swap_before (by decide +kernel) hiL hnc)
      have c1 : (w.drewN kw).cell? ⟨g, i, none⟩ = some (.int .i64 x) := h1
      have c2 : (w.drewN kw).cell? ⟨g, j, none⟩ = some (.int .i64 y) := h2
      have cf : ∀ k, (w.drewN kw).frozen? ⟨g, k, none⟩ = false := hf
      clear hρ hd
      unfold GivesOp
      go_simp
      exact ⟨trivial, HG.out.plain (by omega), rfl⟩
    · cases ho
      have i0 := hρ.ins 0 6 (by omega) rfl (Nat.le_of_ble_eq_true rfl)
      have d0 : vs 0 = _ := hd ⟨0, .data⟩ (by simp) rfl
      rw [d0] at i0
      dsimp only [tabS, List.getD_cons_zero, List.getD_cons_succ] at i0
      have i1 := hρ.ins 1 7 (by omega) rfl (Nat.le_of_ble_eq_true rfl)
      have d1 : vs 1 = _ := hd ⟨1, .data⟩ (by simp) rfl
      rw [d1] at i1
      dsimp only [tabS, List.getD_cons_zero, List.getD_cons_succ] at i1
      clear hρ hd
      unfold GivesOp
      go_simp
      exact ⟨trivial, HG.out.plain (by omega), rfl⟩
    · cases ho
      have i12 := hρ.ins 12 18 (by omega) rfl (Nat.le_of_ble_eq_true rfl)
      have d12 : vs 12 = _ := hd ⟨12, .data⟩ (by simp) rfl
      rw [d12] at i12
      dsimp only [tabS, List.getD_cons_zero, List.getD_cons_succ] at i12
      have i7 := hρ.ins 7 13 (by omega) rfl (Nat.le_of_ble_eq_true rfl)
      have d7 : vs 7 = _ := hd ⟨7, .data⟩ (by simp) rfl
      rw [d7] at i7
      dsimp only [tabS, List.getD_cons_zero, List.getD_cons_succ] at i7
      obtain ⟨kw, rfl⟩ := HG.out.1 (swap_before (by decide +kernel) hiL hnc)
      have c1 : (w.drewN kw).cell? ⟨g, i, none⟩ = some (.int .i64 x) := h1
      have c2 : (w.drewN kw).cell? ⟨g, j, none⟩ = some (.int .i64 y) := h2
      have cf : ∀ k, (w.drewN kw).frozen? ⟨g, k, none⟩ = false := hf
      clear hρ hd
      unfold GivesOp
      go_simp
      exact ⟨trivial, ⟨fun h => absurd (by simp) h, fun _ => ⟨kw, rfl⟩⟩, rfl⟩
    · cases ho
      have i2 := hρ.ins 2 8 (by omega) rfl (Nat.le_of_ble_eq_true rfl)
      have d2 : vs 2 = _ := hd ⟨2, .data⟩ (by simp) rfl
      rw [d2] at i2
      dsimp only [tabS, List.getD_cons_zero, List.getD_cons_succ] at i2
      have i3 := hρ.ins 3 9 (by omega) rfl (Nat.le_of_ble_eq_true rfl)
      have d3 : vs 3 = _ := hd ⟨3, .data⟩ (by simp) rfl
      rw [d3] at i3
      dsimp only [tabS, List.getD_cons_zero, List.getD_cons_succ] at i3
      clear hρ hd
      unfold GivesOp
      go_simp
      exact ⟨trivial, HG.out.plain (by omega), rfl⟩
  · intro L vs W hall hG hR
    rw [if_neg (by decide +kernel)]
    have r11 : vs 11 = .int .i64 x := hR 11 (by simp) (by omega)
    have r14 : vs 14 = .pointer (some ⟨g, j, none⟩) := hR 14 (by simp) (by omega)
    obtain ⟨kw, rfl⟩ := hG.2 (hall 13 (by omega))
    have c2 : ∃ u, ((w.setCell ⟨g, i, none⟩ (.int .i64 y)).drewN kw).cell? ⟨g, j, none⟩ = some u := by
      by_cases e : i = j
      · subst e
        exact ⟨_, World.cell?_setCell_same' w ⟨g, i, none⟩ (.int .i64 y) (by simp [h1])⟩
      · exact ⟨_, (World.cell?_setCell_other w _ _ _ (by simp only [ne_eq, Addr.mk.injEq, true_and, and_true]; omega)).trans h2⟩
    obtain ⟨u, c2⟩ := c2
    have cf : ((w.setCell ⟨g, i, none⟩ (.int .i64 y)).drewN kw).frozen? ⟨g, j, none⟩ = false := (World.frozen?_setCell _ _ _ _).trans (hf j)
    clear hG hall hR
    unfold wpOp
    simp only [acts, dstAt, List.range, List.range.loop, List.foldl_cons, List.foldl_nil, r11, r14]
    go_simp
    refine Or.inl ?_
    go_wp2_with fail
    go_end0
    exact ⟨rfl, kw, rfl⟩
end Go.Proofs.YtfjlglefodndjaaDoor

namespace Go.Proofs.YtfjlglefodndjaaDoor
open Go.RowKit

/-- A pile that is not nil: block b has the slice, block g the row. -/
structure PileG (B b g cap : Nat) (xs : List Int) (w : World) : Prop where
  hB : B ≤ b
  hg : B ≤ g
  hgb : g ≠ b
  hb : w.heap[b]? = some (.cells #[.slice (some ⟨g, 0, none⟩) xs.length cap] 72 (0, 0))
  row : ∃ cur : Array Value, w.heap[g]? = some (.cells cur 3 (0, 0)) ∧ xs.length ≤ cap ∧ cap ≤ maxLen ∧ cur.size = cap ∧ cur.toList.take xs.length = xs.map fun z => Value.int .i64 z
theorem PileG.cell {B b g cap : Nat} {xs : List Int} {w : World} (h : PileG B b g cap xs w) {i : Nat} (hi : i < xs.length) : w.cell? ⟨g, i, none⟩ = some (.int .i64 xs[i]) := by
  obtain ⟨cur, h1, _, _, _, h5⟩ := h.row
  exact (pile_cell h1 h5 hi).1
theorem PileG.free {B b g cap : Nat} {xs : List Int} {w : World} (h : PileG B b g cap xs w) (i : Nat) : w.frozen? ⟨g, i, none⟩ = false := by
  obtain ⟨cur, h1, _⟩ := h.row
  exact Lib.frozen_of_heap h1 i
theorem PileG.head {B b g cap : Nat} {xs : List Int} {w : World} (h : PileG B b g cap xs w) : w.cell? ⟨b, 0, none⟩ = some (.slice (some ⟨g, 0, none⟩) xs.length cap) := blk_cell h.hb 0
theorem PileG.chg {B b g cap : Nat} {xs : List Int} {w w' : World} {N : List Nat} (h : PileG B b g cap xs w) (hc : Chg N w w') (h1 : b ∉ N) (h2 : g ∉ N) : PileG B b g cap xs w' := by
  obtain ⟨a1, a2, a3, a4, cur, a5, r⟩ := h
  exact ⟨a1, a2, a3, hc.blk a4 h1, cur, hc.blk a5 h2, r⟩
theorem PileG.ext {B b g cap : Nat} {xs : List Int} {w w' : World} (h : PileG B b g cap xs w) (hx : Ext w w') : PileG B b g cap xs w' := h.chg (hx.chg []) (by simp) (by simp)
theorem PileG.set {B b g cap : Nat} {xs : List Int} {w : World} (h : PileG B b g cap xs w) (i : Nat) (z : Int) : PileG B b g cap (xs.set i z) (w.setCell ⟨g, i, none⟩ (.int .i64 z)) := by
  obtain ⟨a1, a2, a3, a4, cur, a5, a6, a7, a8, a9⟩ := h
  refine ⟨a1, a2, a3, ?_, cur.setIfInBounds i (.int .i64 z), ?_, by simpa using a6, a7, by simpa using a8, ?_⟩
  · rw [Below.heap_setCell _ _ _ _ (by simpa using fun h => a3 h.symm)]; simpa using a4
  · simp [World.setCell, Array.getElem?_modify, a5]
  · simp only [Array.toList_setIfInBounds, List.length_set]
    rw [List.take_set, a9, List.map_set]
theorem PileG.swap {B b g cap : Nat} {xs : List Int} {w : World} (h : PileG B b g cap xs w) {i j : Nat} (hi : i < xs.length) (hj : j < xs.length) (k : Nat) :
    PileG B b g cap ((xs.set i xs[j]).set j xs[i]) (((w.setCell ⟨g, i, none⟩ (.int .i64 xs[j])).setCell ⟨g, j, none⟩ (.int .i64 xs[i])).drewN k) ∧ Chg [g] w (((w.setCell ⟨g, i, none⟩ (.int .i64 xs[j])).setCell ⟨g, j, none⟩ (.int .i64 xs[i])).drewN k) :=
  ⟨((h.set i xs[j]).set j xs[i]).ext ((Ext.refl _).drewN k), (((Chg.refl [g] w).setCell (Or.inl (by simp)) _).setCell (Or.inl (by simp)) _).drewN k⟩
/-- The pile is the same but for its order. -/
def PermQ (v : Value) (B b g cap : Nat) (xs : List Int) (w : World) (e : Ending) (w' : World) : Prop := e = .returned v ∧ ∃ ys : List Int, ys.Perm xs ∧ PileG B b g cap ys w' ∧ Chg [g] w w'

set_option maxRecDepth 100000 in
theorem up_calls (B b g cap : Nat) (xs : List Int) (w : World) (h : PileG B b g cap xs w) (j : Nat) (hj : j < xs.length) :
    Calls Tryd.prog 40 #[.iface 69 (.pointer (some ⟨b, 0, none⟩)), .int .i64 j] w (PermQ (.tuple #[]) B b g cap xs w) := by
  obtain ⟨cur, hr1, hr2, hr3, hr4, hr5⟩ := h.row
  have hlen : xs.length ≤ 9223372036854775807 := by unfold maxLen at hr3; omega
  have HP := Lib.hid h
  clear hr1 hr2 hr3 hr4 hr5 cur h
  go_enter Tryd.func40, Tryd.ntmps40
  go_wp2_with fail
  go_loopw [1, 4] (fun t _ wr => ∃ (k : Nat) (ys : List Int), t = .int .i64 k ∧ k < ys.length ∧ ys.length = xs.length ∧ ys.Perm xs ∧ PileG B b g cap ys wr ∧ Chg [g] w wr) (fun t _ _ => (intOf t).toNat)
  case atStart => exact ⟨j, xs, rfl, hj, rfl, List.Perm.refl _, HP.out, Chg.refl _ _⟩
  case round =>
    obtain ⟨k, ys, rfl, hk, hyl, hyp, hpl, hch⟩ := hrel
    have HPL := Lib.hid hpl
    have HC := Lib.hid hch
    have HY := Lib.hid hyp
    have HYL := Lib.hid hyl
    have hhead := hpl.head
    have hkl : k ≤ 9223372036854775807 := by omega
    clear hpl hch hyp hyl HP
    have ha := fun n => ahead_less n b
    have hm := fun n => meth_less n b _ wr hhead
    by_cases hk0 : k = 0
    · subst hk0
      go_wp2_with fail
      go_end0
      exact ⟨rfl, ys, HY.out, HPL.out, HC.out⟩
    · obtain ⟨p, hp⟩ : ∃ p : Nat, p = (k - 1) / 2 := ⟨_, rfl⟩
      have q1 : ((k : Int) - 1).tdiv 2 = (p : Int) := by
        rw [Int.tdiv_eq_ediv_of_nonneg (by omega)]
        omega
      have hpk : p < k := by omega
      have hpy : p < ys.length := by omega
      have t0 : ((p : Int) == (k : Int)) = false := by simp; omega
      have HHP := Lib.hid hp
      clear hp hk0
      have L := iless_calls g ys.length cap k p ys[k] ys[p] wr hk hpy (HPL.out.cell hk) (HPL.out.cell hpy)
      have HL := Lib.hid L
      clear L
      cases hd : decide (ys[k] < ys[p])
      all_goals
        have HD := Lib.hid hd
        clear hd
        go_wp2_with fail
        refine HL.out.mono ?_
        rintro r w1 ⟨rfl, hx1⟩
        rw [HD.out]
        have HX1 := Lib.hid hx1
        have hh1 := (HPL.out.ext hx1).head
        clear hx1 hm ha hhead
        have ha := fun n => ahead_swap n b
        have hm := fun n => meth_swap n b _ w1 hh1
        go_wp2_with fail
      · go_end0
        exact ⟨rfl, ys, HY.out, HPL.out.ext HX1.out, HC.out.then (HX1.out.chg _)⟩
      · refine (iswap_calls g ys.length cap p k ys[p] ys[k] _ hpy hk ((HPL.out.ext HX1.out).cell hpy) ((HPL.out.ext HX1.out).cell hk) (HPL.out.ext HX1.out).free).mono ?_
        rintro r w2 ⟨rfl, q, rfl⟩
        obtain ⟨hp2, hc2⟩ := (HPL.out.ext HX1.out).swap hpy hk q
        have HP2 := Lib.hid hp2
        have HC2 := Lib.hid hc2
        clear hp2 hc2
        generalize ((w1.setCell ⟨g, p, none⟩ (.int .i64 ys[k])).setCell ⟨g, k, none⟩ (.int .i64 ys[p])).drewN q = w2 at *
        clear hm ha hh1
        go_wp2_with fail
        go_roundw
        case rel => exact ⟨p, (ys.set p ys[k]).set k ys[p], rfl, by simp; omega, by simp; exact HYL.out, (List.set_set_perm hpy hk).trans HY.out, HP2.out, (HC.out.then (HX1.out.chg _)).then HC2.out⟩
        case measure => simp [intOf]; omega
end Go.Proofs.YtfjlglefodndjaaDoor

namespace Go.Proofs.YtfjlglefodndjaaDoor
open Go.RowKit

def PermQ2 (B b g cap : Nat) (xs : List Int) (w : World) (e : Ending) (w' : World) : Prop := (∃ u : Bool, e = .returned (.bool u)) ∧ ∃ ys : List Int, ys.Perm xs ∧ (∀ z, xs.getLast? = some z → ys.getLast? = some z) ∧ PileG B b g cap ys w' ∧ Chg [g] w w'
theorem last_set {xs : List Int} {i : Nat} (h : i + 1 < xs.length) (z : Int) : (xs.set i z).getLast? = xs.getLast? := by
  rw [List.getLast?_eq_getElem?, List.getLast?_eq_getElem?]
  simp only [List.length_set]
  rw [List.getElem?_set_ne (by omega)]
set_option maxRecDepth 100000 in
set_option maxHeartbeats 1000000 in
theorem down_calls (B b g cap : Nat) (xs : List Int) (w : World) (h : PileG B b g cap xs w) (n : Nat) (hn : n + 1 = xs.length) (hn2 : n ≤ 1000000000000000) :
    Calls Tryd.prog 41 #[.iface 69 (.pointer (some ⟨b, 0, none⟩)), .int .i64 0, .int .i64 n] w (PermQ2 B b g cap xs w) := by
  have HP := Lib.hid h
  have HN := Lib.hid hn
  clear h hn
  go_enter Tryd.func41, Tryd.ntmps41
  go_wp2_with fail
  go_loopw [7, 8, 9, 10] (fun t _ _ _ wr => ∃ (k : Nat) (ys : List Int), t = .int .i64 k ∧ k ≤ n ∧ n + 1 = ys.length ∧ ys.Perm xs ∧ (∀ z, xs.getLast? = some z → ys.getLast? = some z) ∧ PileG B b g cap ys wr ∧ Chg [g] w wr) (fun t _ _ _ _ => n - (intOf t).toNat)
  case atStart => exact ⟨0, xs, rfl, by omega, HN.out, List.Perm.refl _, fun _ h => h, HP.out, Chg.refl _ _⟩
  case round =>
    obtain ⟨k, ys, rfl, hk, hyl, hyp, hla, hpl, hch⟩ := hrel
    have HPL := Lib.hid hpl
    have HC := Lib.hid hch
    have HY := Lib.hid hyp
    have HYL := Lib.hid hyl
    have HLA := Lib.hid hla
    have hhead := hpl.head
    clear hpl hch hyp hyl HP HN hla
    obtain ⟨j1, hj1⟩ : ∃ j1 : Nat, j1 = 2 * k + 1 := ⟨_, rfl⟩
    have q1 : (2 * (k : Int) + 1) = (j1 : Int) := by omega
    have hkj : k < j1 := by omega
    have HJ1 := Lib.hid hj1
    have t1 : decide ((j1 : Int) < 0) = false := by simp
    have hj1b : j1 ≤ 2000000000000001 := by omega
    clear hj1
    by_cases hlt : j1 < n
    · have t0 : decide (n ≤ j1) = false := by simp; omega
      have hy1 : j1 < ys.length := by have := HYL.out; omega
      have hyk : k < ys.length := by have := HYL.out; omega
      obtain ⟨j2, hj2⟩ : ∃ j2 : Nat, j2 = j1 + 1 := ⟨_, rfl⟩
      have q2 : ((j1 : Int) + 1) = (j2 : Int) := by omega
      have hj12 : j1 < j2 := by omega
      have hj2n : j2 ≤ n := by omega
      clear hj2
      by_cases h2 : j2 < n
      case' neg =>
        have t2 : decide (j2 < n) = false := by simp; omega
        go_upto_region 8 with fail
        obtain ⟨j, hj⟩ : ∃ j : Nat, j = j1 := ⟨_, rfl⟩
        obtain ⟨w1, hw1⟩ : ∃ w1 : World, w1 = wr := ⟨_, rfl⟩
        have HX1 := Lib.hid (show Ext wr w1 by rw [hw1]; exact Ext.refl _)
        rw [← hj, ← hw1]
        have hjk : k < j ∧ j < n := by omega
        clear hj hw1
      case' pos =>
        have t2 : decide (j2 < n) = true := by simp; omega
        have hy2 : j2 < ys.length := by have := HYL.out; omega
        have HL := Lib.hid (iless_calls g ys.length cap j2 j1 ys[j2] ys[j1] wr hy2 hy1 (HPL.out.cell hy2) (HPL.out.cell hy1))
        have ha := fun n => ahead_less n b
        have hm := fun n => meth_less n b _ wr hhead
        cases hd : decide (ys[j2] < ys[j1])
        case' false =>
          have HD := Lib.hid hd
          clear hd
          go_wp2_with fail
          refine HL.out.mono ?_
          rintro r w1 ⟨rfl, hx1⟩
          rw [HD.out]
          have HX1 := Lib.hid hx1
          clear hx1 hm ha hhead HD
          go_upto_region 8 with fail
          obtain ⟨j, hj⟩ : ∃ j : Nat, j = j1 := ⟨_, rfl⟩
          rw [← hj]
          have hjk : k < j ∧ j < n := by omega
          clear hj
        case' true =>
          have HD := Lib.hid hd
          clear hd
          go_wp2_with fail
          refine HL.out.mono ?_
          rintro r w1 ⟨rfl, hx1⟩
          rw [HD.out]
          have HX1 := Lib.hid hx1
          clear hx1 hm ha hhead HD
          go_upto_region 8 with fail
          obtain ⟨j, hj⟩ : ∃ j : Nat, j = j2 := ⟨_, rfl⟩
          rw [← hj]
          have hjk : k < j ∧ j < n := by omega
          clear hj
      all_goals
        obtain ⟨hjk, hjn⟩ := hjk
        have hyj : j < ys.length := by have := HYL.out; omega
        have hh1 := (HPL.out.ext HX1.out).head
        have ha := fun n => ahead_less n b
        have hm := fun n => meth_less n b _ w1 hh1
        have HL2 := Lib.hid (iless_calls g ys.length cap j k ys[j] ys[k] w1 hyj hyk ((HPL.out.ext HX1.out).cell hyj) ((HPL.out.ext HX1.out).cell hyk))
        cases hd : decide (ys[j] < ys[k])
        · have HD := Lib.hid hd
          clear hd
          go_wp2_with fail
          refine HL2.out.mono ?_
          rintro r w2 ⟨rfl, hx2⟩
          rw [HD.out]
          have HX2 := Lib.hid hx2
          clear hx2 hm ha hh1 HD
          go_wp2_with fail
          go_ret
          exact ⟨⟨_, rfl⟩, ys, HY.out, HLA.out, (HPL.out.ext HX1.out).ext HX2.out, (HC.out.then (HX1.out.chg _)).then (HX2.out.chg _)⟩
        · have HD := Lib.hid hd
          clear hd
          go_wp2_with fail
          refine HL2.out.mono ?_
          rintro r w2 ⟨rfl, hx2⟩
          rw [HD.out]
          have HPX := Lib.hid ((HPL.out.ext HX1.out).ext hx2)
          have HCX := Lib.hid ((HC.out.then (HX1.out.chg _)).then (hx2.chg _))
          have hh2 := HPX.out.head
          clear hx2 hm ha hh1 HD
          have ha := fun n => ahead_swap n b
          have hm := fun n => meth_swap n b _ w2 hh2
          go_wp2_with fail
          refine (iswap_calls g ys.length cap k j ys[k] ys[j] _ hyk hyj (HPX.out.cell hyk) (HPX.out.cell hyj) HPX.out.free).mono ?_
          rintro r w3 ⟨rfl, q, rfl⟩
          obtain ⟨hp2, hc2⟩ := HPX.out.swap hyk hyj q
          have HP2 := Lib.hid hp2
          have HC2 := Lib.hid hc2
          clear hp2 hc2
          generalize ((w2.setCell ⟨g, k, none⟩ (.int .i64 ys[j])).setCell ⟨g, j, none⟩ (.int .i64 ys[k])).drewN q = w3 at *
          clear hm ha hh2
          go_wp2_with fail
          go_roundw
          case rel =>
            refine ⟨j, (ys.set k ys[j]).set j ys[k], rfl, by omega, by simp; exact HYL.out, (List.set_set_perm hyk hyj).trans HY.out, fun z hz => ?_, HP2.out, HCX.out.then HC2.out⟩
            rw [last_set (by have := HYL.out; simp; omega), last_set (by have := HYL.out; omega)]
            exact HLA.out z hz
          case measure => simp [intOf]; omega
    · have t0 : decide (n ≤ j1) = true := by simp; omega
      go_wp2_with fail
      go_ret
      exact ⟨⟨_, rfl⟩, ys, HY.out, HLA.out, HPL.out, HC.out⟩
end Go.Proofs.YtfjlglefodndjaaDoor

