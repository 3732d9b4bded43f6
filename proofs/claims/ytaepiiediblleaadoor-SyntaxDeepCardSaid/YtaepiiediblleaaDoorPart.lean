import Derived.Test.YtaepiiediblleaaDoorRowsOf
import Derived.Test.YtaepiiediblleaaDoorValid
namespace Go.Proofs.YtaepiiediblleaaDoor
open Go.RowKit

/-- w without the blocks of M. -/
def mask (w : World) (M : List Nat) : World := { w with heap := w.heap.mapIdx fun i o => if i ∈ M then .map #[] 0 else o }
theorem mask_cell (w : World) (M : List Nat) (p : Addr) : (mask w M).cell? p = if p.block ∈ M then none else w.cell? p := by
  unfold World.cell? mask
  simp only [Array.getElem?_mapIdx]
  by_cases h : p.block ∈ M
  · simp only [h, if_true]
    cases w.heap[p.block]? <;> simp
  · simp only [h, if_false]
    cases w.heap[p.block]? <;> simp
theorem mask_sub (w : World) (M : List Nat) : Sub (mask w M) w := by
  intro p v h
  rw [mask_cell] at h
  split at h
  · cases h
  · exact h
theorem mask_size (w : World) (M : List Nat) : (mask w M).heap.size = w.heap.size := by simp [mask]
/-- What is masked in w and outside of M' in w' is unchanged. -/
theorem mask_sub_mask {w w' : World} {M M' : List Nat} (h : ∀ k, k < w.heap.size → k ∉ M → k ∉ M' ∧ w'.heap[k]? = w.heap[k]?) : Sub (mask w M) (mask w' M') := by
  intro p v hp
  have hb := block_lt hp
  rw [mask_size] at hb
  rw [mask_cell] at hp ⊢
  split at hp
  · cases hp
  · rename_i hn
    obtain ⟨h1, h2⟩ := h _ hb hn
    rw [if_neg h1]
    rw [World.cell?_of_block (w := w) (w' := w') h2]
    exact hp
theorem mask_ext {w w' : World} (M : List Nat) (h : Ext w w') : Sub (mask w M) (mask w' M) := mask_sub_mask fun k hk hn => ⟨hn, h.block k hk⟩

structure ExV where
  op : Int
  name : ByteArray
  aw : Option Addr
  nw : Nat
  cw : Nat
  lo : Int
  hi : Int
  aa : Option Addr
  na : Nat
  ca : Nat
def ExV.cells (x : ExV) : List Value := [.int .i64 x.op, .string x.name, .slice x.aw x.nw x.cw, .int .i64 x.lo, .int .i64 x.hi, .slice x.aa x.na x.ca]
def ExV.val (x : ExV) : Value := exV x.op x.name x.aw x.nw x.cw x.lo x.hi x.aa x.na x.ca

structure Part where
  ex : Ex
  size : Nat
  depth : Nat
structure PartV where
  x : ExV
  size : Nat
  depth : Nat
def PartV.cells (p : PartV) : List Value := [.int .i64 p.x.op, .string p.x.name, .slice p.x.aw p.x.nw p.x.cw, .int .i64 p.x.lo, .int .i64 p.x.hi, .slice p.x.aa p.x.na p.x.ca, .int .i64 p.size, .int .i64 p.depth]
def PartV.val (p : PartV) : Value := .agg #[.int .i64 p.x.op, .string p.x.name, .slice p.x.aw p.x.nw p.x.cw, .int .i64 p.x.lo, .int .i64 p.x.hi, .slice p.x.aa p.x.na p.x.ca, .int .i64 p.size, .int .i64 p.depth]
def PartR (w : World) (p : Part) (v : PartV) : Prop := v.size = p.size ∧ v.depth = p.depth ∧ IsEx w p.ex v.x.val
def PartsR (w : World) (ps : List Part) (vs : List PartV) : Prop := ps.length = vs.length ∧ ∀ i (h1 : i < ps.length) (h2 : i < vs.length), PartR w ps[i] vs[i]
theorem PartR.mono {w w' : World} {p : Part} {v : PartV} (h : PartR w p v) (hs : Sub w w') : PartR w' p v := ⟨h.1, h.2.1, h.2.2.mono hs⟩
theorem PartsR.mono {w w' : World} {ps : List Part} {vs : List PartV} (h : PartsR w ps vs) (hs : Sub w w') : PartsR w' ps vs := ⟨h.1, fun i h1 h2 => (h.2 i h1 h2).mono hs⟩

def ex0 : Ex := .mk 0 ⟨#[]⟩ [] 0 0 []
def sumSize : List Part → Nat
  | [] => 0
  | p :: r => p.size + sumSize r
def maxDepth (l : List Part) : Nat := l.foldl (fun d p => max d p.depth) 0
def composedF (op : Int) (l : List Part) : Part :=
  if 300 < 1 + sumSize l ∨ 16 < maxDepth l + 1 then ⟨ex0, 1 + sumSize l, maxDepth l + 1⟩ else ⟨.mk op ⟨#[]⟩ [] 0 0 (l.map (·.ex)), 1 + sumSize l, maxDepth l + 1⟩
def joinedF (op : Int) (l : List Part) : Part := match l with | [p] => p | l => composedF op l

theorem sumSize_take_succ : (l : List Part) → (k : Nat) → (hk : k < l.length) → sumSize (l.take (k + 1)) = sumSize (l.take k) + l[k].size
  | [], k, hk => by simp at hk
  | e :: r, 0, _ => by simp [sumSize]
  | e :: r, k + 1, hk => by
    have := sumSize_take_succ r k (by simpa using hk)
    simp [sumSize] at this ⊢
    omega
theorem sumSize_take_le : (l : List Part) → (k : Nat) → sumSize (l.take k) ≤ sumSize l
  | [], k => by simp [sumSize]
  | e :: r, 0 => by simp [sumSize]
  | e :: r, k + 1 => by
    have := sumSize_take_le r k
    simp [sumSize]; omega
theorem sumSize_append : (l m : List Part) → sumSize (l ++ m) = sumSize l + sumSize m
  | [], m => by simp [sumSize]
  | e :: r, m => by have := sumSize_append r m; simp [sumSize]; omega
theorem maxDepth_take_succ (l : List Part) (k : Nat) (hk : k < l.length) : maxDepth (l.take (k + 1)) = max (maxDepth (l.take k)) l[k].depth := by
  rw [List.take_succ_eq_append_getElem hk]
  unfold maxDepth
  rw [List.foldl_append]
  rfl

theorem blk_cell {w : World} {b : Nat} {cs : Array Value} {t : TypeId} (h : w.heap[b]? = some (.cells cs t (0, 0))) (j : Nat) : w.cell? ⟨b, j, none⟩ = cs[j]? := cell_of_row w b j cs t (0, 0) h
theorem blk_free {w : World} {b : Nat} {cs : Array Value} {t : TypeId} (h : w.heap[b]? = some (.cells cs t (0, 0))) (j : Nat) : w.frozen? ⟨b, j, none⟩ = false := frozen_of_row w b j cs t h
theorem blk_lt {w : World} {b : Nat} {o : Obj} (h : w.heap[b]? = some o) : b < w.heap.size := (Array.getElem?_eq_some_iff.1 h).1
theorem Ext.blk {w w' : World} (h : Ext w w') {b : Nat} {o : Obj} (hb : w.heap[b]? = some o) : w'.heap[b]? = some o := (h.block b (blk_lt hb)).trans hb
theorem alloc_new (w : World) (o : Obj) : (w.alloc o).heap[w.heap.size]? = some o := by show (w.heap.push o)[w.heap.size]? = _; simp
theorem blk_alloc {w : World} {b : Nat} {o o' : Obj} (hb : w.heap[b]? = some o) : (w.alloc o').heap[b]? = some o := (Below.heap_alloc w o' b (blk_lt hb)).trans hb

theorem blk8 {w : World} {b : Nat} {v0 v1 v2 v3 v4 v5 v6 v7 : Value} {t : TypeId} (h : w.heap[b]? = some (.cells #[v0, v1, v2, v3, v4, v5, v6, v7] t (0, 0))) :
    w.cell? ⟨b, 0, none⟩ = some v0 ∧ w.cell? ⟨b, 1, none⟩ = some v1 ∧ w.cell? ⟨b, 2, none⟩ = some v2 ∧ w.cell? ⟨b, 3, none⟩ = some v3 ∧ w.cell? ⟨b, 4, none⟩ = some v4 ∧ w.cell? ⟨b, 5, none⟩ = some v5 ∧ w.cell? ⟨b, 6, none⟩ = some v6 ∧ w.cell? ⟨b, 7, none⟩ = some v7 ∧
    (∀ j, w.frozen? ⟨b, j, none⟩ = false) :=
  ⟨blk_cell h 0, blk_cell h 1, blk_cell h 2, blk_cell h 3, blk_cell h 4, blk_cell h 5, blk_cell h 6, blk_cell h 7, fun j => blk_free h j⟩
theorem blk3 {w : World} {b : Nat} {v0 v1 v2 : Value} {t : TypeId} (h : w.heap[b]? = some (.cells #[v0, v1, v2] t (0, 0))) :
    w.cell? ⟨b, 0, none⟩ = some v0 ∧ w.cell? ⟨b, 1, none⟩ = some v1 ∧ w.cell? ⟨b, 2, none⟩ = some v2 ∧ (∀ j, w.frozen? ⟨b, j, none⟩ = false) :=
  ⟨blk_cell h 0, blk_cell h 1, blk_cell h 2, fun j => blk_free h j⟩

theorem run_make1 {t e : TypeId} {z : Value} {size bytes : Nat} (E : ElemT t e z size bytes) (W : World) (n : Nat) (hb : bytes * n ≤ 281474976710656) (hn : n ≤ 1000000000000000) :
    Sem.run Tryd.prog (Instr.makeSlice t (.int .i64 (n : Int)) (.int .i64 (n : Int))) W = .ok (.slice (some ⟨W.heap.size, 0, none⟩) n n) (W.alloc (.cells (madeCells z.cells (n * size)) e)) := by
  obtain ⟨i, hi, hz, hs, hby⟩ := info_parts E.info
  have := run_make (P := Tryd.prog) W t e i z E.ht hi hz .i64 .i64 n n (by omega) (by omega) (by rw [hby, ← Int.natCast_mul]; omega) (by omega)
  rw [hs] at this
  simpa using this

/-- Expressions that lie one after the other. -/
theorem ExsD.of {w : World} {b : Nat} : (l : List Ex) → (off : Nat) → (xs : List ExV) → l.length = xs.length →
    (∀ i (h1 : i < l.length) (h2 : i < xs.length), (∀ j (hj : j < 6), w.cell? ⟨b, off + i * 6 + j, none⟩ = xs[i].cells[j]?) ∧ IsEx w l[i] xs[i].val) → ExsD w l (some ⟨b, off, none⟩)
  | [], _, _, _, _ => by unfold ExsD; trivial
  | .mk op name words lo hi args :: r, off, [], hl, _ => by simp at hl
  | .mk op name words lo hi args :: r, off, x :: xs, hl, h => by
    unfold ExsD
    obtain ⟨h1, h2⟩ := h 0 (by simp) (by simp)
    simp only [List.getElem_cons_zero, Nat.zero_mul, Nat.add_zero] at h1 h2
    obtain ⟨aw, nw, cw, aa, na, ca, e1, g1, g2, g3, g4, g5⟩ := h2.parts
    simp only [ExV.val, exV, Value.agg.injEq, Ex.op, Ex.name, Ex.lo, Ex.hi, Ex.words, Ex.args] at e1 g1 g2 g5
    simp at e1
    obtain ⟨e2, e3, ⟨e4, e5, e6⟩, e7, e8, e9, e10, e11⟩ := e1
    refine ⟨b, off, rfl, ⟨aw, nw, cw, aa, na, ca, ?_, ?_, ?_, ?_, ?_, ?_, g1, g2, g3, g4, g5⟩, ?_⟩
    · have := h1 0 (by omega); simpa [ExV.cells, e2] using this
    · have := h1 1 (by omega); simpa [ExV.cells, e3] using this
    · have := h1 2 (by omega); simpa [ExV.cells, e4, e5, e6] using this
    · have := h1 3 (by omega); simpa [ExV.cells, e7] using this
    · have := h1 4 (by omega); simpa [ExV.cells, e8] using this
    · have := h1 5 (by omega); simpa [ExV.cells, e9, e10, e11] using this
    · refine ExsD.of r (off + 6) xs (by simpa using hl) fun i h3 h4 => ?_
      have := h (i + 1) (by simpa using h3) (by simpa using h4)
      simp only [List.getElem_cons_succ] at this
      rw [show off + (i + 1) * 6 = off + 6 + i * 6 by omega] at this
      exact this

theorem beyond_calls (v0 v1 v2 v3 v4 v5 : Value) (s d : Int) (w : World) : Calls Tryd.prog 57 #[.agg #[v0, v1, v2, v3, v4, v5, .int .i64 s, .int .i64 d]] w (GivesE (.bool (decide (300 < s) || decide (16 < d))) w) := by
  by_cases h1 : 300 < s
  · have t1 : decide ((300 : Int) < s) = true := by simp; omega
    go_enter Tryd.func57, Tryd.ntmps57
    go_wp2_with fail
    go_ret
    exact givesE_bool (by simp [h1]) ((Ext.refl w).alloc _)
  · have t1 : decide ((300 : Int) < s) = false := by simp; omega
    by_cases h2 : 16 < d
    · have t2 : decide ((16 : Int) < d) = true := by simp; omega
      go_enter Tryd.func57, Tryd.ntmps57
      go_wp2_with fail
      go_ret
      exact givesE_bool (by simp) ((Ext.refl w).alloc _)
    · have t2 : decide ((16 : Int) < d) = false := by simp; omega
      go_enter Tryd.func57, Tryd.ntmps57
      go_wp2_with fail
      go_ret
      exact givesE_bool (by simp) ((Ext.refl w).alloc _)
end Go.Proofs.YtaepiiediblleaaDoor
