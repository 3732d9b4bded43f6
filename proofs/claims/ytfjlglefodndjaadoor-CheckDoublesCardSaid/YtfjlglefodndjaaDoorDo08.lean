/-
  Texts of the claim, joined: Made.
-/
import Derived.Test.YtfjlglefodndjaaDoorDo04
import Derived.Test.YtfjlglefodndjaaDoorDo06
import Derived.Test.YtfjlglefodndjaaDoorDo07
namespace Go.Proofs.YtfjlglefodndjaaDoor
open Go.RowKit

/-- What the generators ask of an attribute. -/
def OkAttr (a : Attr) : Prop := (a.kind = 1 ∧ a.words ≠ [] ∧ a.words.Nodup ∧ a.words.length ≤ 1000) ∨ (a.kind = 2 ∧ a.lo ≤ a.hi ∧ -1000000000 ≤ a.lo ∧ a.hi ≤ 1000000000) ∨ a.kind = 3
/-- An expression without arguments over a schema and names. -/
def AtomOf (attrs : List Attr) (names : List ByteArray) (e : Ex) : Prop := e.args = [] ∧
  ((e.op = 1 ∧ e.name = ⟨#[]⟩ ∧ e.words = [] ∧ e.lo = 0 ∧ e.hi = 0) ∨ (e.op = 2 ∧ e.name = ⟨#[]⟩ ∧ e.words = [] ∧ e.lo = 0 ∧ e.hi = 0) ∨
   (e.op = 3 ∧ (e.name ∈ names ∨ ∃ a ∈ attrs, a.kind = 3 ∧ e.name = a.name) ∧ e.words = [] ∧ e.lo = 0 ∧ e.hi = 0) ∨
   (e.op = 4 ∧ (∃ a ∈ attrs, a.kind = 1 ∧ e.name = a.name ∧ e.words ≠ [] ∧ e.words.Nodup ∧ (∀ x ∈ e.words, x ∈ a.words)) ∧ e.lo = 0 ∧ e.hi = 0) ∨
   (e.op = 5 ∧ (∃ a ∈ attrs, a.kind = 2 ∧ e.name = a.name ∧ a.lo ≤ e.lo ∧ e.lo ≤ e.hi ∧ e.hi ≤ a.hi) ∧ e.words = []))
theorem Chg.cell {N : List Nat} {w w' : World} (h : Chg N w w') {p : Addr} {v : Value} (hp : w.cell? p = some v) (hn : p.block ∉ N) : w'.cell? p = some v := by
  rw [World.cell?_of_block (h.block _ (block_lt hp) hn)]; exact hp
theorem mask_at {w : World} {M : List Nat} {p : Addr} {v : Value} (h : (mask w M).cell? p = some v) : w.cell? p = some v ∧ p.block ∉ M := by
  rw [mask_cell] at h
  by_cases hm : p.block ∈ M
  · rw [if_pos hm] at h; cases h
  · rw [if_neg hm] at h; exact ⟨h, hm⟩
theorem blk5 {w : World} {b : Nat} {v0 v1 v2 v3 v4 : Value} {t : TypeId} (h : w.heap[b]? = some (.cells #[v0, v1, v2, v3, v4] t (0, 0))) :
    w.cell? ⟨b, 0, none⟩ = some v0 ∧ w.cell? ⟨b, 1, none⟩ = some v1 ∧ w.cell? ⟨b, 2, none⟩ = some v2 ∧ w.cell? ⟨b, 3, none⟩ = some v3 ∧ w.cell? ⟨b, 4, none⟩ = some v4 ∧ (∀ j, w.frozen? ⟨b, j, none⟩ = false) :=
  ⟨blk_cell h 0, blk_cell h 1, blk_cell h 2, blk_cell h 3, blk_cell h 4, fun j => blk_free h j⟩

theorem IsSchema.at {w : World} {attrs : List Attr} {a : Option Addr} {n c : Nat} (h : IsSchema w attrs (.agg #[.slice a n c])) {r : Nat} (hr : r < n) : ∃ (b off : Nat) (x : AttrV), a = some ⟨b, off, none⟩ ∧ x.x ∈ attrs ∧ w.cell? ⟨b, off + r * 5, none⟩ = some (.string x.x.name) ∧ w.cell? ⟨b, off + r * 5 + 1, none⟩ = some (.int .i64 x.x.kind) ∧
    w.cell? ⟨b, off + r * 5 + 2, none⟩ = some (.slice x.a x.n x.c) ∧ w.cell? ⟨b, off + r * 5 + 3, none⟩ = some (.int .i64 x.x.lo) ∧ w.cell? ⟨b, off + r * 5 + 4, none⟩ = some (.int .i64 x.x.hi) ∧ IsStrs w x.x.words x.a x.n x.c := by
  obtain ⟨_, _, _, e, e1, _, _, hat⟩ := h
  cases e
  obtain ⟨b, off, e2, aw, nw, cw, g0, g1, g2, g3, g4, g5⟩ := hat r (by omega)
  exact ⟨b, off, ⟨attrs[r]'(by omega), aw, nw, cw⟩, e2, List.getElem_mem _, g0, g1, g2, g3, g4, g5⟩

/-- An attribute is stored into a box. -/
def put5 (w : World) (B : Nat) (x : AttrV) : World := ((((w.setCell ⟨B, 0, none⟩ (.string x.x.name)).setCell ⟨B, 1, none⟩ (.int .i64 x.x.kind)).setCell ⟨B, 2, none⟩ (.slice x.a x.n x.c)).setCell ⟨B, 3, none⟩ (.int .i64 x.x.lo)).setCell ⟨B, 4, none⟩ (.int .i64 x.x.hi)
theorem put5_blk {w : World} {B : Nat} {v0 v1 v2 v3 v4 : Value} {t : TypeId} (h : w.heap[B]? = some (.cells #[v0, v1, v2, v3, v4] t (0, 0))) (x : AttrV) : (put5 w B x).heap[B]? = some (.cells x.cells.toArray t (0, 0)) := by
  unfold put5
  rw [heap_setCell_same _ _ _ _ _ _ (heap_setCell_same _ _ _ _ _ _ (heap_setCell_same _ _ _ _ _ _ (heap_setCell_same _ _ _ _ _ _ (heap_setCell_same _ _ _ _ _ _ h))))]
  rfl
theorem put5_chg (w : World) (B : Nat) (x : AttrV) {N : List Nat} (h : B ∈ N) : Chg N w (put5 w B x) := by
  unfold put5
  repeat (with_reducible (refine Chg.setCell ?_ ?_ _))
  exact Chg.refl _ _
  all_goals exact Or.inl h

/-- What the operations of 'a := s.Attributes[d.Next(len(s.Attributes))]' leave. -/
def Ra3 (attrs : List Attr) (bd bs n : Nat) (a : Option Addr) (c : Nat) (base : Nat) (wb : World) : Nat → Value → World → Prop
  | 0, v, _ => v = .pointer (some ⟨bs, 0, none⟩)
  | 1, v, _ => v = .slice a n c
  | 2, v, _ => v = .pointer (some ⟨bd, 0, none⟩)
  | 3, v, _ => v = .pointer (some ⟨bs, 0, none⟩)
  | 4, v, _ => v = .slice a n c
  | 5, v, _ => v = .int .i64 n
  | 6, v, _ => ∃ r : Nat, r < n ∧ v = .int .i64 r
  | 7, v, _ => ∃ (r b off : Nat), r < n ∧ a = some ⟨b, off, none⟩ ∧ v = .pointer (some ⟨b, off + r * 5, none⟩)
  | 8, v, _ => ∃ (x : AttrV), x.x ∈ attrs ∧ v = .agg x.cells.toArray ∧ IsStrs (mask wb [bd]) x.x.words x.a x.n x.c
  | 9, v, W => ∃ y, v = .pointer (some ⟨y, 0, none⟩) ∧ base ≤ y ∧ W.heap[y]? = some (.cells #[.string ⟨#[]⟩, .int .i64 0, .slice none 0 0, .int .i64 0, .int .i64 0] 54 (0, 0))
  | _, _, _ => True

/-- What the operations of 'low := a.Low + d.Next(a.High-a.Low+1)' leave. -/
def Rb16 (bd y : Nat) (lo hi : Int) : Nat → Value → World → Prop
  | 0, v, _ => v = .pointer (some ⟨y, 3, none⟩)
  | 1, v, _ => v = .int .i64 lo
  | 2, v, _ => v = .pointer (some ⟨bd, 0, none⟩)
  | 3, v, _ => v = .pointer (some ⟨y, 4, none⟩)
  | 4, v, _ => v = .int .i64 hi
  | 5, v, _ => v = .pointer (some ⟨y, 3, none⟩)
  | 6, v, _ => v = .int .i64 lo
  | 7, v, _ => v = .int .i64 (hi - lo)
  | 8, v, _ => v = .int .i64 (hi - lo + 1)
  | 9, v, _ => ∃ r : Int, v = .int .i64 r ∧ 0 ≤ r ∧ r ≤ hi - lo
  | 10, v, _ => ∃ z : Int, v = .int .i64 z ∧ lo ≤ z ∧ z ≤ hi
  | 11, v, _ => ∃ z : Int, v = .int .i64 z ∧ lo ≤ z ∧ z ≤ hi
  | _, _, _ => True
theorem rb16_keeps {bd y : Nat} {lo hi : Int} (i : Nat) (v : Value) (W W' : World) (hi' : i < 12) (h : Rb16 bd y lo hi i v W) : Rb16 bd y lo hi i v W' := by
  have : i = 0 ∨ i = 1 ∨ i = 2 ∨ i = 3 ∨ i = 4 ∨ i = 5 ∨ i = 6 ∨ i = 7 ∨ i = 8 ∨ i = 9 ∨ i = 10 ∨ i = 11 := by omega
  rcases this with rfl | rfl | rfl | rfl | rfl | rfl | rfl | rfl | rfl | rfl | rfl | rfl <;> exact h

/-- What the operations of 'low = min(max(d.Next(12)-4, a.Low), a.High)' leave. -/
def Rb18 (bd y : Nat) (lo hi : Int) : Nat → Value → World → Prop
  | 0, v, _ => v = .pointer (some ⟨bd, 0, none⟩)
  | 1, v, _ => ∃ r : Int, v = .int .i64 r ∧ 0 ≤ r ∧ r < 12
  | 2, v, _ => ∃ r : Int, v = .int .i64 r ∧ -4 ≤ r ∧ r < 8
  | 3, v, _ => v = .pointer (some ⟨y, 3, none⟩)
  | 4, v, _ => v = .int .i64 lo
  | 5, v, _ => ∃ r : Int, v = .int .i64 r ∧ lo ≤ r
  | 6, v, _ => v = .pointer (some ⟨y, 4, none⟩)
  | 7, v, _ => v = .int .i64 hi
  | 8, v, _ => ∃ z : Int, v = .int .i64 z ∧ lo ≤ z ∧ z ≤ hi
  | 9, v, _ => ∃ z : Int, v = .int .i64 z ∧ lo ≤ z ∧ z ≤ hi
  | _, _, _ => True
theorem rb18_keeps {bd y : Nat} {lo hi : Int} (i : Nat) (v : Value) (W W' : World) (hi' : i < 10) (h : Rb18 bd y lo hi i v W) : Rb18 bd y lo hi i v W' := by
  have : i = 0 ∨ i = 1 ∨ i = 2 ∨ i = 3 ∨ i = 4 ∨ i = 5 ∨ i = 6 ∨ i = 7 ∨ i = 8 ∨ i = 9 := by omega
  rcases this with rfl | rfl | rfl | rfl | rfl | rfl | rfl | rfl | rfl | rfl <;> exact h
/-- What the operations of 'high = min(low+d.Next(4), a.High)' leave. -/
def Rb21 (bd y : Nat) (z hi : Int) : Nat → Value → World → Prop
  | 0, v, _ => v = .int .i64 z
  | 1, v, _ => v = .pointer (some ⟨bd, 0, none⟩)
  | 2, v, _ => ∃ r : Int, v = .int .i64 r ∧ 0 ≤ r ∧ r < 4
  | 3, v, _ => ∃ r : Int, v = .int .i64 r ∧ z ≤ r
  | 4, v, _ => v = .pointer (some ⟨y, 4, none⟩)
  | 5, v, _ => v = .int .i64 hi
  | 6, v, _ => ∃ u : Int, v = .int .i64 u ∧ z ≤ u ∧ u ≤ hi
  | 7, v, _ => ∃ u : Int, v = .int .i64 u ∧ z ≤ u ∧ u ≤ hi
  | _, _, _ => True
theorem rb21_keeps {bd y : Nat} {z hi : Int} (i : Nat) (v : Value) (W W' : World) (hi' : i < 8) (h : Rb21 bd y z hi i v W) : Rb21 bd y z hi i v W' := by
  have : i = 0 ∨ i = 1 ∨ i = 2 ∨ i = 3 ∨ i = 4 ∨ i = 5 ∨ i = 6 ∨ i = 7 := by omega
  rcases this with rfl | rfl | rfl | rfl | rfl | rfl | rfl | rfl <;> exact h

/-- j words of a list from f on, around. -/
def pickW (l : List ByteArray) (f j : Nat) : List ByteArray := (List.range j).map fun i => l.getD ((f + i) % l.length) ⟨#[]⟩
theorem pickW_succ (l : List ByteArray) (f j : Nat) : pickW l f (j + 1) = pickW l f j ++ [l.getD ((f + j) % l.length) ⟨#[]⟩] := by simp [pickW, List.range_succ]
theorem pickW_length (l : List ByteArray) (f j : Nat) : (pickW l f j).length = j := by simp [pickW]
theorem pickW_mem {l : List ByteArray} {f j : Nat} (h0 : 0 < l.length) : ∀ x ∈ pickW l f j, x ∈ l := by
  intro x hx
  obtain ⟨i, _, rfl⟩ := List.mem_map.1 hx
  have hm := Nat.mod_lt (f + i) h0
  rw [List.getD_eq_getElem?_getD, List.getElem?_eq_getElem hm]
  exact List.getElem_mem hm
theorem pickW_nodup {l : List ByteArray} {f j : Nat} (h0 : 0 < l.length) (hj : j ≤ l.length) (hn : l.Nodup) : (pickW l f j).Nodup := by
  unfold pickW
  rw [List.Nodup, List.pairwise_map]
  refine List.Pairwise.imp_of_mem ?_ List.pairwise_lt_range
  intro a b ha hb hab e
  simp only [List.mem_range] at ha hb
  have hma := Nat.mod_lt (f + a) h0
  have hmb := Nat.mod_lt (f + b) h0
  rw [List.getD_eq_getElem?_getD, List.getD_eq_getElem?_getD, List.getElem?_eq_getElem hma, List.getElem?_eq_getElem hmb] at e
  simp only [Option.getD_some] at e
  have hij : (f + a) % l.length = (f + b) % l.length := by
    rw [List.Nodup, List.pairwise_iff_getElem] at hn
    rcases Nat.lt_trichotomy ((f + a) % l.length) ((f + b) % l.length) with h | h | h
    · exact absurd e (hn _ _ hma hmb h)
    · exact h
    · exact absurd e.symm (hn _ _ hmb hma h)
  have h1 := Nat.sub_mod_eq_zero_of_mod_eq hij.symm
  rw [show f + b - (f + a) = b - a by omega, Nat.mod_eq_of_lt (by omega)] at h1
  omega

theorem words_at {w : World} {l : List ByteArray} {a : Option Addr} {n c : Nat} (h : IsStrs w l a n c) (h0 : 0 < n) (f j : Nat) : ∃ (b off idx : Nat), a = some ⟨b, off, none⟩ ∧ idx < n ∧ w.cell? ⟨b, off + idx, none⟩ = some (.string (l.getD ((f + j) % l.length) ⟨#[]⟩)) ∧ ((f : Int) + j).tmod (n : Int) = (idx : Int) := by
  have hn := h.1
  subst hn
  have hm := Nat.mod_lt (f + j) h0
  obtain ⟨b, off, e, hc⟩ := h.2.2.2 _ hm
  refine ⟨b, off, (f + j) % l.length, e, hm, ?_, by rw [← Int.natCast_add, ← Int.ofNat_tmod]⟩
  rw [hc, List.getD_eq_getElem?_getD, List.getElem?_eq_getElem hm]
  rfl
/-- What the operations of 'e.Words = append(e.Words, a.Words[from%len(a.Words)])' leave. -/
def Rc13 (be y : Nat) (v : Value) (a : Option Addr) (n c j : Nat) (fj : Int) (idx b off : Nat) (t : ByteArray) (xs : List Value) : Nat → Value → World → Prop
  | 0, u, _ => u = .pointer (some ⟨be, 2, none⟩)
  | 1, u, _ => u = v
  | 2, u, _ => u = .pointer (some ⟨y, 2, none⟩)
  | 3, u, _ => u = .slice a n c
  | 4, u, _ => u = .int .i64 fj
  | 5, u, _ => u = .pointer (some ⟨y, 2, none⟩)
  | 6, u, _ => u = .slice a n c
  | 7, u, _ => u = .int .i64 n
  | 8, u, _ => u = .int .i64 idx
  | 9, u, _ => u = .pointer (some ⟨b, off + idx, none⟩)
  | 10, u, _ => u = .string t
  | 11, u, W => ∃ x0, u = .slice (some ⟨x0, 0, none⟩) 1 1 ∧ W.heap[x0]? = some (.cells #[.string t] 9 (0, 0)) ∧ W.ownsRow (be + 1) 9 1 v j xs
  | 12, u, W => ∃ g cap, u = .slice (some ⟨g, 0, none⟩) (j + 1) cap ∧ W.ownsRow (be + 1) 9 1 (.slice (some ⟨g, 0, none⟩) (j + 1) cap) (j + 1) (xs ++ [.string t])
  | 13, u, _ => u = .pointer (some ⟨be, 2, none⟩)
  | _, _, _ => True
def E13 (k : Nat) (W W' : World) : Prop := k = 11 ∨ k = 12 ∨ W = W'
def G13 (v : Value) (wr : World) (L : List Nat) (W : World) : Prop := Chg (rowOf v) wr W ∧ (12 ∉ L → Ext wr W)
theorem rc13_keeps {ops : Array Oper} {be y : Nat} {v : Value} {a : Option Addr} {n c j : Nat} {fj : Int} {idx b off : Nat} {t : ByteArray} {xs : List Value} (hops : (!outlasts ops 14 [12, 13] 11 12 && !outlasts ops 14 [12, 13] 12 11) = true) :
    ∀ i k u W W', i < 14 → k < 14 → i ≠ k → outlasts ops 14 [12, 13] i k = true → Rc13 be y v a n c j fj idx b off t xs i u W → E13 k W W' → Rc13 be y v a n c j fj idx b off t xs i u W' := by
  intro i k u W W' hi hk hne ho hR hE
  simp only [Bool.and_eq_true, Bool.not_eq_true'] at hops
  have hi' : i = 0 ∨ i = 1 ∨ i = 2 ∨ i = 3 ∨ i = 4 ∨ i = 5 ∨ i = 6 ∨ i = 7 ∨ i = 8 ∨ i = 9 ∨ i = 10 ∨ i = 11 ∨ i = 12 ∨ i = 13 := by omega
  rcases hi' with rfl | rfl | rfl | rfl | rfl | rfl | rfl | rfl | rfl | rfl | rfl | rfl | rfl | rfl
  case inr.inr.inr.inr.inr.inr.inr.inr.inr.inr.inr.inl =>
    rcases hE with rfl | rfl | rfl
    · exact absurd rfl hne
    · rw [hops.1] at ho; cases ho
    · exact hR
  case inr.inr.inr.inr.inr.inr.inr.inr.inr.inr.inr.inr.inl =>
    rcases hE with rfl | rfl | rfl
    · rw [hops.2] at ho; cases ho
    · exact absurd rfl hne
    · exact hR
  all_goals exact hR

end Go.Proofs.YtfjlglefodndjaaDoor
