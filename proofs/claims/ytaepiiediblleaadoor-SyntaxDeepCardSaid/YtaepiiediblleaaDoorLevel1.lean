import Derived.Test.YtaepiiediblleaaDoorParse4
import Derived.Deep.AppendLies
import Derived.Deep.RegionLaw
namespace Go.Proofs.YtaepiiediblleaaDoor
open Go.RowKit

set_option maxRecDepth 100000 in
theorem top_calls (g n cap bp : Nat) (w : World) (c2 : w.cell? ⟨bp, 2, none⟩ = some (.slice (some ⟨g, 0, none⟩) n cap)) (hn : 0 < n) (hn2 : n ≤ 1000000000000000) :
    Calls Tryd.prog 99 #[.pointer (some ⟨bp, 0, none⟩)] w (GivesE (.pointer (some ⟨g, (n - 1) * 3, none⟩)) w) := by
  have t1 : (0 : Int) ≤ (n : Int) - 1 := by omega
  have t2 : (n : Int) - 1 < (n : Int) := by omega
  have t3 : ((n : Int) - 1).toNat = n - 1 := by omega
  have t4 : 1 ≤ n := hn
  go_enter Tryd.func99, Tryd.ntmps99
  go_wp2_with fail
  go_quiet (fail)
  go_wp2_with fail
  go_ret
  refine ⟨?_, Ext.drewN (Ext.refl w) _⟩
  simp

structure Lvl where
  nots : Nat
  ands : List Part
  ors : List Part
structure LvlV where
  nots : Nat
  va : Value
  vo : Value
def LvlV.cells (l : LvlV) : List Value := [.int .i64 l.nots, l.va, l.vo]
def LvlV.rows (l : LvlV) : List Nat := rowOf l.va ++ rowOf l.vo
/-- Parts in a row of their own. -/
def OwnParts (w : World) (base : Nat) (K : List Nat) (l : List Part) (v : Value) : Prop := ∃ vs : List PartV, w.ownsRow base 96 8 v l.length (vs.flatMap PartV.cells) ∧ PartsR (mask w K) l vs
def LvlR (w : World) (base : Nat) (K : List Nat) (l : Lvl) (v : LvlV) : Prop := v.nots = l.nots ∧ OwnParts w base K l.ands v.va ∧ OwnParts w base K l.ors v.vo

def sumPot : List Part → Nat
  | [] => 0
  | p :: r => p.size + 1 + sumPot r
def Lvl.pot (l : Lvl) : Nat := l.nots + sumPot l.ands + sumPot l.ors
def potAll : List Lvl → Nat
  | [] => 0
  | l :: r => l.pot + potAll r

/-- The parser in memory, with its levels. M: the blocks that it writes; K: those that the data of its parts avoid. -/
structure PI (toks : List Tok) (ta : Option Addr) (tn tc : Nat) (w0 w : World) (bp k : Nat) (vl : Value) (lv : List Lvl) (lvs : List LvlV) (M K : List Nat) : Prop where
  pc : PC toks ta tn tc w0 w bp k vl
  own : w.ownsRow w0.heap.size 91 3 vl lvs.length (lvs.flatMap LvlV.cells)
  len : lv.length = lvs.length
  lvl : ∀ i (h1 : i < lv.length) (h2 : i < lvs.length), LvlR w w0.heap.size K lv[i] lvs[i]
  hM : M = bp :: (rowOf vl ++ lvs.flatMap LvlV.rows)
  nd : M.Nodup
  hK : ∀ x ∈ M, x ∈ K
  hKlt : ∀ x ∈ K, x < w.heap.size
  pot : potAll lv ≤ 2 * k
  cnt : lv.length ≤ k + 1
  tidy : ∀ l ∈ lv, Tidy l.ands ∧ Tidy l.ors
  small : tn ≤ 1000000

theorem OwnParts.chg {w w' : World} {base : Nat} {K K' : List Nat} {l : List Part} {v : Value} {N : List Nat} (h : OwnParts w base K l v) (hc : Chg N w w') (hN : ∀ x, v.ownBlock = some x → x ∉ N) (hs : Sub (mask w K) (mask w' K')) : OwnParts w' base K' l v := by
  obtain ⟨vs, h1, h2⟩ := h
  exact ⟨vs, owns_chg h1 hc hN, h2.mono hs⟩
theorem LvlR.chg {w w' : World} {base : Nat} {K K' : List Nat} {l : Lvl} {v : LvlV} {N : List Nat} (h : LvlR w base K l v) (hc : Chg N w w') (hN : ∀ x ∈ v.rows, x ∉ N) (hs : Sub (mask w K) (mask w' K')) : LvlR w' base K' l v :=
  ⟨h.1, h.2.1.chg hc (fun x hx => hN x (List.mem_append_left _ (mem_rowOf.2 hx))) hs, h.2.2.chg hc (fun x hx => hN x (List.mem_append_right _ (mem_rowOf.2 hx))) hs⟩

/-- Everything that the parser's invariant says of memory stays if only blocks outside of M change. -/
theorem PI.chg {toks : List Tok} {ta : Option Addr} {tn tc : Nat} {w0 w : World} {bp k : Nat} {vl : Value} {lv : List Lvl} {lvs : List LvlV} {M K : List Nat} (h : PI toks ta tn tc w0 w bp k vl lv lvs M K) {w' : World} {N K' : List Nat} (hc : Chg N w w')
    (hN : ∀ x ∈ M, x ∉ N) (hN0 : ∀ x ∈ N, w0.heap.size ≤ x) (hs : Sub (mask w K) (mask w' K')) (hK : ∀ x ∈ M, x ∈ K') (hKlt : ∀ x ∈ K', x < w'.heap.size) : PI toks ta tn tc w0 w' bp k vl lv lvs M K' := by
  have hm : ∀ x, x ∈ bp :: (rowOf vl ++ lvs.flatMap LvlV.rows) → x ∉ N := fun x hx => hN x (h.hM ▸ hx)
  refine ⟨h.pc.chg hc (hm bp (by simp)) hN0, owns_chg h.own hc (fun x hx => hm x (by simp [mem_rowOf.2 hx])), h.len, fun i h1 h2 => (h.lvl i h1 h2).chg hc (fun x hx => hm x ?_) hs, h.hM, h.nd, hK, hKlt, h.pot, h.cnt, h.tidy, h.small⟩
  refine List.mem_cons_of_mem _ (List.mem_append_right _ (List.mem_flatMap.2 ⟨lvs[i], List.getElem_mem h2, hx⟩))
theorem PI.ext {toks : List Tok} {ta : Option Addr} {tn tc : Nat} {w0 w : World} {bp k : Nat} {vl : Value} {lv : List Lvl} {lvs : List LvlV} {M K : List Nat} (h : PI toks ta tn tc w0 w bp k vl lv lvs M K) {w' : World} (hx : Ext w w') : PI toks ta tn tc w0 w' bp k vl lv lvs M K :=
  h.chg (hx.chg []) (by simp) (by simp) (mask_ext K hx) h.hK (fun x hx' => Nat.lt_of_lt_of_le (h.hKlt x hx') hx.size)

/-- The last level, in memory. -/
theorem PI.last {toks : List Tok} {ta : Option Addr} {tn tc : Nat} {w0 w : World} {bp k : Nat} {vl : Value} {lv : List Lvl} {lvs : List LvlV} {M K : List Nat} (h : PI toks ta tn tc w0 w bp k vl lv lvs M K) (hl : 0 < lvs.length) :
    ∃ g cap, vl = .slice (some ⟨g, 0, none⟩) lvs.length cap ∧ g ∈ M ∧ g ≠ bp ∧ w0.heap.size ≤ g ∧ g < w.heap.size ∧ w.cell? ⟨g, (lvs.length - 1) * 3, none⟩ = some (.int .i64 (lvs[lvs.length - 1]).nots) ∧ w.cell? ⟨g, (lvs.length - 1) * 3 + 1, none⟩ = some (lvs[lvs.length - 1]).va ∧
      w.cell? ⟨g, (lvs.length - 1) * 3 + 2, none⟩ = some (lvs[lvs.length - 1]).vo ∧ (∀ j, w.frozen? ⟨g, j, none⟩ = false) := by
  have hown := h.own
  rcases hown.2 with ⟨_, h0⟩ | ⟨g, cap, cur, rfl, hb, hg, hle, _, _, _⟩
  · omega
  · obtain ⟨a, c, e1, hr⟩ := IsRows.of_owns (f := LvlV.cells) (fun _ => rfl) hown
    simp only [Value.slice.injEq, true_and] at e1
    obtain ⟨rfl, rfl⟩ := e1
    obtain ⟨b, off, e2, hc⟩ := hr.2.2.2 (lvs.length - 1) (by omega)
    simp only [Option.some.injEq, Addr.mk.injEq, and_true] at e2
    obtain ⟨rfl, rfl⟩ := e2
    have c0 := hc 0 (by simp [LvlV.cells])
    have c1 := hc 1 (by simp [LvlV.cells])
    have c2 := hc 2 (by simp [LvlV.cells])
    simp only [LvlV.cells, List.getElem_cons_zero, List.getElem_cons_succ, Nat.add_zero, Nat.zero_add] at c0 c1 c2
    have hgM : g ∈ M := by rw [h.hM]; simp [rowOf, Value.ownBlock]
    refine ⟨g, cap, rfl, hgM, ?_, hb, blk_lt hg, c0, c1, c2, fun j => blk_free hg j⟩
    intro e
    have := h.nd
    rw [h.hM] at this
    simp [rowOf, Value.ownBlock, e] at this
end Go.Proofs.YtaepiiediblleaaDoor
