import Derived.Test.YtaepiiediblleaaDoorComposed
import Derived.Test.YtaepiiediblleaaDoorScan
namespace Go.Proofs.YtaepiiediblleaaDoor
open Go.RowKit

/-- From w to w' only blocks of N have changed, and blocks have been added. -/
structure Chg (N : List Nat) (w w' : World) : Prop where
  os : w'.os = w.os
  tape : w'.tape = w.tape
  output : w'.output = w.output
  size : w.heap.size ≤ w'.heap.size
  block : ∀ k, k < w.heap.size → k ∉ N → w'.heap[k]? = w.heap[k]?

theorem Chg.refl (N : List Nat) (w : World) : Chg N w w := ⟨rfl, rfl, rfl, Nat.le_refl _, fun _ _ _ => rfl⟩
theorem Chg.trans {N N' : List Nat} {a b c : World} (h : Chg N a b) (k : Chg N' b c) (hN : ∀ x ∈ N', x ∈ N ∨ a.heap.size ≤ x) : Chg N a c :=
  ⟨k.os.trans h.os, k.tape.trans h.tape, k.output.trans h.output, Nat.le_trans h.size k.size, fun i hi hn =>
    (k.block i (Nat.lt_of_lt_of_le hi h.size) (fun h' => by rcases hN i h' with h' | h'; exact hn h'; omega)).trans (h.block i hi hn)⟩
theorem Ext.chg {w w' : World} (h : Ext w w') (N : List Nat) : Chg N w w' := ⟨h.os, h.tape, h.output, h.size, fun k hk _ => h.block k hk⟩
theorem Chg.ext {N : List Nat} {w0 w w' : World} (h : Chg N w w') (h0 : Ext w0 w) (hN : ∀ x ∈ N, w0.heap.size ≤ x) : Ext w0 w' :=
  ⟨h.os.trans h0.os, h.tape.trans h0.tape, h.output.trans h0.output, Nat.le_trans h0.size h.size, fun k hk =>
    (h.block k (Nat.lt_of_lt_of_le hk h0.size) (fun h' => by have := hN k h'; omega)).trans (h0.block k hk)⟩
theorem Chg.setCell {N : List Nat} {a w : World} (h : Chg N a w) {p : Addr} (hp : p.block ∈ N ∨ a.heap.size ≤ p.block) (v : Value) : Chg N a (w.setCell p v) :=
  ⟨h.os, h.tape, h.output, by simpa using h.size, fun k hk hn => (heap_setCell_other w p k v (fun e => by subst e; rcases hp with hp | hp; exact hn hp; omega)).trans (h.block k hk hn)⟩
theorem Chg.alloc {N : List Nat} {a w : World} (h : Chg N a w) (o : Obj) : Chg N a (w.alloc o) :=
  ⟨h.os, h.tape, h.output, by have := h.size; simp; omega, fun k hk hn => (Below.heap_alloc w o k (by have := h.size; omega)).trans (h.block k hk hn)⟩
theorem Chg.drew {N : List Nat} {a w : World} (h : Chg N a w) : Chg N a w.drew := ⟨h.os, h.tape, h.output, h.size, h.block⟩
theorem Ext.drewN {a w : World} (h : Ext a w) (n : Nat) : Ext a (w.drewN n) := ⟨h.os, h.tape, h.output, h.size, h.block⟩
theorem drewN_heap (w : World) (n : Nat) : (w.drewN n).heap = w.heap := rfl
theorem Chg.drewN {N : List Nat} {a w : World} (h : Chg N a w) (n : Nat) : Chg N a (w.drewN n) := ⟨h.os, h.tape, h.output, h.size, h.block⟩

/-- The parser in memory: its tokens, its place and its levels. -/
def PB (w : World) (bp : Nat) (ta : Option Addr) (tn tc : Nat) (k : Nat) (vl : Value) : Prop := w.heap[bp]? = some (.cells #[.slice ta tn tc, .int .i64 k, vl] 94 (0, 0))

def acceptB (toks : List Tok) (k : Nat) (kind : Int) (text : ByteArray) : Bool := match toks[k]? with | some t => (t.kind == kind) && decide (t.text = text) | none => false

/-- What accept does. -/
def AcceptQ (b : Bool) (bp : Nat) (ta : Option Addr) (tn tc k : Nat) (vl : Value) (w : World) (e : Ending) (w' : World) : Prop :=
  e = .returned (.bool b) ∧ PB w' bp ta tn tc (if b then k + 1 else k) vl ∧ Chg [bp] w w'

set_option maxRecDepth 100000 in
set_option maxHeartbeats 1000000 in
theorem accept_calls (toks : List Tok) (ta : Option Addr) (tn tc : Nat) (w0 w : World) (bp k : Nat) (vl : Value) (kind : Int) (text : ByteArray) (ht : IsToks w0 toks ta tn tc) (hx : Ext w0 w) (hb : PB w bp ta tn tc k vl) (hk : k ≤ tn) (htn : tn ≤ 1000000000000000) :
    Calls Tryd.prog 81 #[.pointer (some ⟨bp, 0, none⟩), .int .i64 kind, .string text] w (AcceptQ (acceptB toks k kind text) bp ta tn tc k vl w) := by
  have HB := Lib.hid hb
  unfold PB at hb
  have hlt := blk_lt hb
  obtain ⟨c0, c1, c2, cf⟩ := blk3 hb
  have HN := Lib.hid ht.1
  by_cases h1 : k = tn
  · have H := Lib.hid (show acceptB toks k kind text = false by
      have : toks[k]? = none := by rw [List.getElem?_eq_none]; rw [h1, HN.out]; exact Nat.le_refl _
      simp [acceptB, this])
    have t1 : ((k : Int) == (tn : Int)) = true := by simp [h1]
    generalize acceptB toks k kind text = B at *
    clear h1 hb ht hx
    go_enter Tryd.func81, Tryd.ntmps81
    go_wp2_with fail
    go_quiet (fail)
    go_wp2_with fail
    go_ret
    rw [H.out]
    exact ⟨rfl, HB.out, (Chg.refl _ _).drewN _⟩
  · have hlt1 : k < toks.length := by have := HN.out; omega
    have t1 : ((k : Int) == (tn : Int)) = false := by simp; omega
    have ti : (k : Int) < (tn : Int) := by omega
    have ti0 : (0 : Int) ≤ (k : Int) := by omega
    obtain ⟨b, off, rfl, hcells⟩ := ht.2.2.2 k hlt1
    have g0 := hx.cell (hcells 0 (by simp [tokCells]))
    have g1 := hx.cell (hcells 1 (by simp [tokCells]))
    simp only [tokCells, List.getElem_cons_zero, List.getElem_cons_succ, Nat.add_zero] at g0 g1
    have HA := Lib.hid (show acceptB toks k kind text = ((toks[k].kind == kind) && decide (toks[k].text = text)) by simp [acceptB, List.getElem?_eq_getElem hlt1])
    generalize acceptB toks k kind text = B at *
    generalize toks[k] = T at *
    clear hcells ht hx hb h1
    by_cases h2 : T.kind = kind
    · by_cases h3 : T.text = text
      · have t2 : (T.kind != kind) = false := by simpa using h2
        have t3 : (T.text.toList == text.toList) = true := by rw [h3]; simp
        have HA2 := Lib.hid (show B = true by rw [HA.out]; simp [h2, h3])
        clear HA h2 h3
        go_enter Tryd.func81, Tryd.ntmps81
        go_wp2_with fail
        go_quiet (fail)
        go_wp2_with fail
        go_ret
        rw [HA2.out]
        refine ⟨rfl, ?_, ?_⟩
        · have := heap_setCell_same w bp 1 _ _ (.int .i64 ((k : Int) + 1)) HB.out
          exact this
        · first
          | exact ((Chg.refl [bp] w).setCell (Or.inl (by simp)) _).drewN _
          | exact ((Chg.refl [bp] w).drewN _).setCell (Or.inl (by simp)) _
      · have t2 : (T.kind != kind) = false := by simpa using h2
        have t3 : (T.text.toList == text.toList) = false := by rw [toList_beq]; simpa using h3
        have HA2 := Lib.hid (show B = false by rw [HA.out]; simp [h3])
        clear HA h2 h3
        go_enter Tryd.func81, Tryd.ntmps81
        go_wp2_with fail
        go_quiet (fail)
        go_wp2_with fail
        go_ret
        rw [HA2.out]
        exact ⟨rfl, HB.out, (Chg.refl _ _).drewN _⟩
    · have t2 : (T.kind != kind) = true := by simpa using h2
      have t3 : (T.kind == kind) = false := by simpa using h2
      go_enter Tryd.func81, Tryd.ntmps81
      go_wp2_with fail
      go_quiet (fail)
      go_wp2_with fail
      go_ret
      rw [HA.out, t3]
      exact ⟨rfl, HB.out, (Chg.refl _ _).drewN _⟩
end Go.Proofs.YtaepiiediblleaaDoor
