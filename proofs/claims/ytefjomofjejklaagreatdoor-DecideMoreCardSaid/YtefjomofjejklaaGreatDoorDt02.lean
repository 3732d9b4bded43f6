/-
  Texts of the claim, joined: Part, Composed, Lex4, Parse1, Parse2, Parse3, Parse4, Deck.
-/
import Derived.Test.YtefjomofjejklaaGreatDoorDt01
import Derived.WalkMore
import Derived.Deep.LoopGhost
import Derived.IntWalk
namespace Go.Proofs.YtefjomofjejklaaGreatDoor
set_option maxRecDepth 100000
set_option maxHeartbeats 32000000
open Go.RowKit
def mask (w : World) (M : ZN) : World := { w with heap := w.heap.mapIdx fun i o => if i ∈ M then .map #[] 0 else o }
theorem mask_cell (w : World) (M : ZN) (p : Addr) : (mask w M).cell? p = if p.block ∈ M then none else w.cell? p := by
 unfold World.cell? mask
 simp only [Array.getElem?_mapIdx]
 by_cases h : p.block ∈ M
 ·simp only [h, if_true]
  cases w.heap[p.block]? <;> simp
 simp only [h, if_false]
 cases w.heap[p.block]? <;> simp
theorem mask_sub (w : World) (M : ZN) : Sub (mask w M) w := by
 intro p v h
 rw [mask_cell] at h
 split at h
 ·cases h
 exact h
theorem mask_size (w : World) (M : ZN) : (mask w M).heap.size = w.heap.size := by simp [mask]
theorem mask_sub_mask {w w' : World} {M M' : ZN} (h : ∀ k, k < w.heap.size -> k ∉ M -> k ∉ M' /\ w'.heap[k]? = w.heap[k]?) : Sub (mask w M) (mask w' M') := by
 intro p v hp
 have hb := block_lt hp
 rw [mask_size] at hb
 rw [mask_cell] at hp ⊢
 split at hp
 ·cases hp
 rename_i hn
 obtain ⟨h1, h2⟩ := h _ hb hn
 rw [if_neg h1]
 rw [World.cell?_of_block (w := w) (w' := w') h2]
 exact hp
theorem mask_ext {w w' : World} (M : ZN) (h : Ext w w') : Sub (mask w M) (mask w' M) := mask_sub_mask fun k hk hn => ⟨hn, h.block k hk⟩
structure ExV where
 op : Int
 name : BA
 aw : OA
 nw : Nat
 cw : Nat
 lo : Int
 hi : Int
 aa : OA
 na : Nat
 ca : Nat
def ExV.cells (x : ExV) : List Value := [.int .i64 x.op, .string x.name, .slice x.aw x.nw x.cw, .int .i64 x.lo, .int .i64 x.hi, .slice x.aa x.na x.ca]
def ExV.val (x : ExV) : Value := exV x.op x.name x.aw x.nw x.cw x.lo x.hi x.aa x.na x.ca
theorem blk_cell {w : World} {b : Nat} {cs : Array Value} {t : TypeId} (h : w.heap[b]? = some (.cells cs t (0, 0))) (j : Nat) : w.cell? ⟨b, j, none⟩ = cs[j]? := cell_of_row w b j cs t (0, 0) h
theorem blk_free {w : World} {b : Nat} {cs : Array Value} {t : TypeId} (h : w.heap[b]? = some (.cells cs t (0, 0))) (j : Nat) : w.frozen? ⟨b, j, none⟩ = false := frozen_of_row w b j cs t h
theorem blk_lt {w : World} {b : Nat} {o : Obj} (h : w.heap[b]? = some o) : b < w.heap.size := (Array.getElem?_eq_some_iff.1 h).1
theorem Ext.blk {w w' : World} (h : Ext w w') {b : Nat} {o : Obj} (hb : w.heap[b]? = some o) : w'.heap[b]? = some o := (h.block b (blk_lt hb)).trans hb
theorem alloc_new (w : World) (o : Obj) : (w.alloc o).heap[w.heap.size]? = some o := by show (w.heap.push o)[w.heap.size]? = _; simp
theorem blk_alloc {w : World} {b : Nat} {o o' : Obj} (hb : w.heap[b]? = some o) : (w.alloc o').heap[b]? = some o := (Below.heap_alloc w o' b (blk_lt hb)).trans hb
theorem blk8 {w : World} {b : Nat} {v0 v1 v2 v3 v4 v5 v6 v7 : Value} {t : TypeId} (h : w.heap[b]? = some (.cells #[v0, v1, v2, v3, v4, v5, v6, v7] t (0, 0))) :
  w.cell? ⟨b, 0, none⟩ = some v0 /\ w.cell? ⟨b, 1, none⟩ = some v1 /\ w.cell? ⟨b, 2, none⟩ = some v2 /\ w.cell? ⟨b, 3, none⟩ = some v3 /\ w.cell? ⟨b, 4, none⟩ = some v4 /\ w.cell? ⟨b, 5, none⟩ = some v5 /\ w.cell? ⟨b, 6, none⟩ = some v6 /\ w.cell? ⟨b, 7, none⟩ = some v7 /\
  (∀ j, w.frozen? ⟨b, j, none⟩ = false) :=
 ⟨blk_cell h 0, blk_cell h 1, blk_cell h 2, blk_cell h 3, blk_cell h 4, blk_cell h 5, blk_cell h 6, blk_cell h 7, fun j => blk_free h j⟩
theorem blk3 {w : World} {b : Nat} {v0 v1 v2 : Value} {t : TypeId} (h : w.heap[b]? = some (.cells #[v0, v1, v2] t (0, 0))) :
  w.cell? ⟨b, 0, none⟩ = some v0 /\ w.cell? ⟨b, 1, none⟩ = some v1 /\ w.cell? ⟨b, 2, none⟩ = some v2 /\ (∀ j, w.frozen? ⟨b, j, none⟩ = false) :=
 ⟨blk_cell h 0, blk_cell h 1, blk_cell h 2, fun j => blk_free h j⟩
theorem ExsD.of {w : World} {b : Nat} : (l : List Ex) -> (off : Nat) -> (xs : List ExV) -> l.length = xs.length ->
  (∀ i (h1 : i < l.length) (h2 : i < xs.length), (∀ j, j < 6 -> w.cell? ⟨b, off + i * 6 + j, none⟩ = xs[i].cells[j]?) /\ IsEx w l[i] xs[i].val) -> ExsD w l (some ⟨b, off, none⟩)
 | [], _, _, _, _ => by unfold ExsD; trivial
 | .mk op name words lo hi args :: r, off, [], hl, _ => by simp at hl
 | .mk op name words lo hi args :: r, off, x :: xs, hl, h => by
  unfold ExsD
  obtain ⟨h1, h2⟩ := h 0 (by simp) (by simp)
  simp only [List.getElem_cons_zero, Nat.zero_mul, Nat.add_zero] at h1 h2
  obtain ⟨aw, nw, cw, aa, na, ca, e1, g1, g2, g3, g4, g5⟩ := h2.parts
  simp only [ExV.val, exV, Value.agg.injEq, Ex.op, Ex.name, Ex.lo, Ex.hi, Ex.words, Ex.args] at e1 g1 g2 g5
  simp at e1
  obtain ⟨e2, e3, ⟨e4, e5, e6⟩, e7, e8, e9, e10, e11⟩ := e1
  refine ⟨b, off, rfl, ⟨aw, nw, cw, aa, na, ca, ?_, ?_, ?_, ?_, ?_, ?_, g1, g2, g3, g4, g5⟩, ?_⟩
  ·have := h1 0 (by omega); simpa [ExV.cells, e2] using this
  ·have := h1 1 (by omega); simpa [ExV.cells, e3] using this
  ·have := h1 2 (by omega); simpa [ExV.cells, e4, e5, e6] using this
  ·have := h1 3 (by omega); simpa [ExV.cells, e7] using this
  ·have := h1 4 (by omega); simpa [ExV.cells, e8] using this
  ·have := h1 5 (by omega); simpa [ExV.cells, e9, e10, e11] using this
  refine ExsD.of r (off + 6) xs (by simpa using hl) fun i h3 h4 => ?_
  have := h (i + 1) (by simpa using h3) (by simpa using h4)
  simp only [List.getElem_cons_succ] at this
  rw [show off + (i + 1) * 6 = off + 6 + i * 6 by omega] at this
  exact this
theorem elemEx : ElemT 43 45 (.agg #[.int .i64 0, .string ⟨#[]⟩, .slice none 0 0, .int .i64 0, .int .i64 0, .slice none 0 0]) 6 88 := ⟨by kernel_rfl, by kernel_rfl, rfl, by decide⟩
structure Tok where
 kind : Int
 text : BA
 num : Int
 pos : Int
structure Chg (N : ZN) (w w' : World) : Prop where
 os : w'.os = w.os
 tape : w'.tape = w.tape
 output : w'.output = w.output
 size : w.heap.size <= w'.heap.size
 block : ∀ k, k < w.heap.size -> k ∉ N -> w'.heap[k]? = w.heap[k]?
theorem Chg.refl (N : ZN) (w : World) : Chg N w w := ⟨rfl, rfl, rfl, Nat.le_refl _, fun _ _ _ => rfl⟩
theorem Chg.trans {N N' : ZN} {a b c : World} (h : Chg N a b) (k : Chg N' b c) (hN : ∀ x ∈ N', x ∈ N \/ a.heap.size <= x) : Chg N a c :=
 ⟨k.os.trans h.os, k.tape.trans h.tape, k.output.trans h.output, Nat.le_trans h.size k.size, fun i hi hn =>
  (k.block i (Nat.lt_of_lt_of_le hi h.size) (fun h' => by rcases hN i h' with h' | h'; exact hn h'; omega)).trans (h.block i hi hn)⟩
theorem Ext.chg {w w' : World} (h : Ext w w') (N : ZN) : Chg N w w' := ⟨h.os, h.tape, h.output, h.size, fun k hk _ => h.block k hk⟩
theorem Chg.ext {N : ZN} {w0 w w' : World} (h : Chg N w w') (h0 : Ext w0 w) (hN : ∀ x ∈ N, w0.heap.size <= x) : Ext w0 w' :=
 ⟨h.os.trans h0.os, h.tape.trans h0.tape, h.output.trans h0.output, Nat.le_trans h0.size h.size, fun k hk =>
  (h.block k (Nat.lt_of_lt_of_le hk h0.size) (fun h' => by have := hN k h'; omega)).trans (h0.block k hk)⟩
theorem Chg.setCell {N : ZN} {a w : World} (h : Chg N a w) {p : Addr} (hp : p.block ∈ N \/ a.heap.size <= p.block) (v : Value) : Chg N a (w.setCell p v) :=
 ⟨h.os, h.tape, h.output, by simpa using h.size, fun k hk hn => (heap_setCell_other w p k v (fun e => by subst e; rcases hp with hp | hp; exact hn hp; omega)).trans (h.block k hk hn)⟩
theorem Chg.alloc {N : ZN} {a w : World} (h : Chg N a w) (o : Obj) : Chg N a (w.alloc o) :=
 ⟨h.os, h.tape, h.output, by have := h.size; simp; omega, fun k hk hn => (Below.heap_alloc w o k (by have := h.size; omega)).trans (h.block k hk hn)⟩
theorem Chg.drew {N : ZN} {a w : World} (h : Chg N a w) : Chg N a w.drew := ⟨h.os, h.tape, h.output, h.size, h.block⟩
theorem Ext.drewN {a w : World} (h : Ext a w) (n : Nat) : Ext a (w.drewN n) := ⟨h.os, h.tape, h.output, h.size, h.block⟩
theorem Chg.drewN {N : ZN} {a w : World} (h : Chg N a w) (n : Nat) : Chg N a (w.drewN n) := ⟨h.os, h.tape, h.output, h.size, h.block⟩
theorem quiet_gives {f : FuncId} {args : Array Value} {w : World} {n : Nat} {v : Value} (h : Calls Tryz.prog f args (w.drewN n) (Gives v (w.drewN n))) : Calls Tryz.prog f args (w.drewN n) fun e w'' => e = .returned v /\ ∃ m, w'' = w.drewN m :=
 h.mono fun _ _ ⟨he, hm⟩ => ⟨he, n, hm.symm⟩
theorem Chg.then {N : ZN} {a b c : World} (h : Chg N a b) (k : Chg N b c) : Chg N a c := h.trans k fun _ hx => Or.inl hx
theorem elemStr : ElemT 42 9 (.string ⟨#[]⟩) 1 16 := ⟨by kernel_rfl, by kernel_rfl, rfl, by decide⟩
theorem owns_chg {N : ZN} {w w' : World} {base : Nat} {e : TypeId} {size : Nat} {v : Value} {n : Nat} {xs : List Value} (h : w.ownsRow base e size v n xs) (hc : Chg N w w') (hN : ∀ k, v.ownBlock = some k -> k ∉ N) : w'.ownsRow base e size v n xs := by
 refine ⟨h.1, ?_⟩
 rcases h.2 with hn | ⟨g, cap, cur, rfl, hb, hgg, rest⟩
 ·exact .inl hn
 refine .inr ⟨g, cap, cur, rfl, hb, ?_, rest⟩
 rw [hc.block g (Array.getElem?_eq_some_iff.1 hgg).1 (hN g rfl)]
 exact hgg
def rowOf (v : Value) : ZN := match v.ownBlock with | some k => [k] | none => []
theorem mem_rowOf {v : Value} {k : Nat} : k ∈ rowOf v ↔ v.ownBlock = some k := by
 unfold rowOf
 cases v.ownBlock with
 | none => simp
 | some x => simp [eq_comm]
theorem grown_chg {w w' : World} {v : Value} (h : w.grownBy w' v.ownBlock) : Chg (rowOf v) w w' :=
 ⟨h.os, h.tape, h.output, h.size, fun k hk hn => h.block k hk (fun e => hn (mem_rowOf.2 e.symm))⟩
def strCells (s : BA) : List Value := [.string s]
theorem strs_of_owns {w : World} {base : Nat} {l : ZB} {v : Value} (h : w.ownsRow base 9 1 v l.length (l.flatMap strCells)) (M : ZN) (hM : ∀ x ∈ M, x < base) : ∃ a c, v = .slice a l.length c /\ IsStrs (mask w M) l a l.length c /\ IsStrs w l a l.length c := by
 have hlt := h.lt
 obtain ⟨a, c, rfl, hr⟩ := IsRows.of_owns (f := strCells) (fun _ => rfl) h
 have hs : IsStrs w l a l.length c := ⟨hr.1, hr.2.1, hr.2.2.1, fun i hi => by
  obtain ⟨b, off, e1, e2⟩ := hr.2.2.2 i hi
  have := e2 0 (by simp [strCells])
  simp only [strCells, List.getElem_cons_zero, Nat.mul_one, Nat.add_zero] at this
  exact ⟨b, off, e1, this⟩⟩
 refine ⟨a, c, rfl, ⟨hs.1, hs.2.1, hs.2.2.1, fun i hi => ?_⟩, hs⟩
 obtain ⟨b, off, e1, e2⟩ := hs.2.2.2 i hi
 refine ⟨b, off, e1, ?_⟩
 rw [mask_cell, if_neg, e2]
 intro hm
 have h1 := hM _ hm
 have h2 := (hlt b (by rw [e1]; rfl)).1
 simp only at h1
 omega
def wTrue : BA := ⟨#[116, 114, 117, 101]⟩
def wFalse : BA := ⟨#[102, 97, 108, 115, 101]⟩
def wIn : BA := ⟨#[105, 110]⟩
def wFrom : BA := ⟨#[102, 114, 111, 109]⟩
def wNot : BA := ⟨#[110, 111, 116]⟩
def wAnd : BA := ⟨#[97, 110, 100]⟩
def wOr : BA := ⟨#[111, 114]⟩
theorem isEx_plain (w : World) (op lo hi : Int) (name : BA) : IsEx w (.mk op name [] lo hi []) (exV op name none 0 0 lo hi none 0 0) := by
 refine IsEx.mk ⟨rfl, by omega, Or.inl ⟨rfl, rfl⟩, fun i hi => by simp at hi⟩ rfl (by omega) (Or.inl ⟨rfl, rfl⟩) ?_
 unfold ExsD
 trivial
theorem isEx_words {w : World} {words : ZB} {a : OA} {n c : Nat} (h : IsStrs w words a n c) (op lo hi : Int) (name : BA) : IsEx w (.mk op name words lo hi []) (exV op name a n c lo hi none 0 0) := by
 refine IsEx.mk h rfl (by omega) (Or.inl ⟨rfl, rfl⟩) ?_
 unfold ExsD
 trivial
theorem blk6 {w : World} {b : Nat} {v0 v1 v2 v3 v4 v5 : Value} {t : TypeId} (h : w.heap[b]? = some (.cells #[v0, v1, v2, v3, v4, v5] t (0, 0))) :
  w.cell? ⟨b, 0, none⟩ = some v0 /\ w.cell? ⟨b, 1, none⟩ = some v1 /\ w.cell? ⟨b, 2, none⟩ = some v2 /\ w.cell? ⟨b, 3, none⟩ = some v3 /\ w.cell? ⟨b, 4, none⟩ = some v4 /\ w.cell? ⟨b, 5, none⟩ = some v5 /\ (∀ j, w.frozen? ⟨b, j, none⟩ = false) :=
 ⟨blk_cell h 0, blk_cell h 1, blk_cell h 2, blk_cell h 3, blk_cell h 4, blk_cell h 5, fun j => blk_free h j⟩
theorem Chg.blk {N : ZN} {w w' : World} (h : Chg N w w') {b : Nat} {o : Obj} (hb : w.heap[b]? = some o) (hn : b ∉ N) : w'.heap[b]? = some o := (h.block b (blk_lt hb) hn).trans hb
theorem blk2 {w : World} {b : Nat} {v0 v1 : Value} {t : TypeId} (h : w.heap[b]? = some (.cells #[v0, v1] t (0, 0))) :
  w.cell? ⟨b, 0, none⟩ = some v0 /\ w.cell? ⟨b, 1, none⟩ = some v1 /\ (∀ j, w.frozen? ⟨b, j, none⟩ = false) :=
 ⟨blk_cell h 0, blk_cell h 1, fun j => blk_free h j⟩
def IntsAt (w : World) (a : OA) (n : Nat) : Prop := ∀ i, i < n -> ∃ b off z, a = some ⟨b, off, none⟩ /\ w.cell? ⟨b, off + i, none⟩ = some (.int .i64 z)
def DeckAt (w0 w : World) (bd : Nat) : Prop := ∃ (la : OA) (ln lc k : Nat), w.heap[bd]? = some (.cells #[.slice la ln lc, .int .i64 k] 89 (0, 0)) /\ k <= ln /\ ln <= 1000000000000000 /\ IntsAt w0 la ln /\ Ext w0 w /\ w0.heap.size <= bd
theorem DeckAt.chg {w0 w w' : World} {bd : Nat} {N : ZN} (h : DeckAt w0 w bd) (hc : Chg N w w') (hn : bd ∉ N) (h0 : ∀ x ∈ N, w0.heap.size <= x) : DeckAt w0 w' bd := by
 obtain ⟨la, ln, lc, k, hb, hk, hln, hL, hx, hbd⟩ := h
 exact ⟨la, ln, lc, k, hc.blk hb hn, hk, hln, hL, hc.ext hx h0, hbd⟩
theorem DeckAt.ext {w0 w w' : World} {bd : Nat} (h : DeckAt w0 w bd) (hx : Ext w w') : DeckAt w0 w' bd := h.chg (hx.chg []) (by simp) (by simp)
def NextQ (lo hi : Int) (w0 : World) (bd : Nat) (w : World) (e : Ending) (w' : World) : Prop := ∃ r : Int, e = .returned (.int .i64 r) /\ lo <= r /\ r < hi /\ DeckAt w0 w' bd /\ Chg [bd] w w'
theorem next_calls {w0 w : World} {bd : Nat} (h : DeckAt w0 w bd) (n : Int) (hn : 0 < n) (hn2 : n <= 1000000000000000000) :
  Calls Tryz.prog 37 #[.pointer (some ⟨bd, 0, none⟩), .int .i64 n] w (NextQ 0 n w0 bd w) := by
 have HD := hI h
 obtain ⟨la, ln, lc, k, hb, hk, hln, hL, hx, hbd⟩ := h
 have HB := hI hb
 have hbw := blk_lt hb
 obtain ⟨c0, c1, cf⟩ := blk2 hb
 clear hb
 by_cases hlt : k < ln
 ·obtain ⟨b, off, z, rfl, hz⟩ := hL k hlt
  have hz' := hx.cell hz
  have hzb : b ≠ bd := by have := block_lt hz; simp at this; omega
  have HL := hI hL
  have HX := hI hx
  have t1 : decide (ln <= k) = false := by simp; omega
  have t2 : ((k : Int) + 1 - 1) = k := by omega
  have t3 : (0 : Int) <= (k : Int) := by omega
  have t4 : (k : Int) < (ln : Int) := by omega
  clear hL hx hz HD
  go_enter Tryz.func37, Tryz.ntmps37
  go_wp2_with fail
  go_quiet (fail)
  go_wp2_with fail
  go_quiet (fail)
  go_wp2_with fail
  go_ret
  have hr : wrap64 (z.tmod n + n) = z.tmod n + n := by
   have a1 := Int.tmod_lt_of_pos z hn
   have a2 := Int.lt_tmod_of_pos z hn
   exact IntWalk.wrap64_in (z.tmod n + n) (by omega)
  rw [hr]
  have a1 := Int.tmod_lt_of_pos z hn
  have a2 := Int.tmod_lt_of_pos (z.tmod n + n) hn
  have a3 : 0 <= z.tmod n + n := by
   have := Int.lt_tmod_of_pos z hn
   omega
  have a4 := Int.tmod_nonneg n a3
  refine ⟨_, rfl, a4, a2, ⟨_, ln, lc, k + 1, ?_, by omega, hln, HL.out, ?_, hbd⟩, ?_⟩
  ·have := heap_setCell_same (w.drewN 0) bd 1 _ _ (.int .i64 ((k : Int) + 1)) HB.out
   exact this
  ·exact ((HX.out.drewN _).setAbove (by simpa using hbd) _).drewN _
  exact (((Chg.refl [bd] w).drewN _).setCell (Or.inl (by simp)) _).drewN _
 have t1 : decide (ln <= k) = true := by simp; omega
 go_enter Tryz.func37, Tryz.ntmps37
 go_wp2_with fail
 go_quiet (fail)
 go_wp2_with fail
 go_ret
 exact ⟨0, rfl, by omega, hn, HD.out.ext ((Ext.refl w).drewN _), (Chg.refl _ w).drewN _⟩
theorem range_calls {w0 w : World} {bd : Nat} (h : DeckAt w0 w bd) (lo hi : Int) (h1 : lo <= hi) (h2 : -100000000000000000 <= lo) (h3 : hi <= 100000000000000000) :
  Calls Tryz.prog 53 #[.pointer (some ⟨bd, 0, none⟩), .int .i64 lo, .int .i64 hi] w (NextQ lo (hi + 1) w0 bd w) := by
 go_enter Tryz.func53, Tryz.ntmps53
 go_wp2_with fail
 refine (next_calls h _ (by omega) (by omega)).mono ?_
 rintro e w1 ⟨r, rfl, hr0, hr1, hd, hc⟩
 go_wp2_with fail
 go_ret
 exact ⟨lo + r, rfl, by omega, by omega, hd, hc⟩
end Go.Proofs.YtefjomofjejklaaGreatDoor
