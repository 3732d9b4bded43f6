/-
  Texts of the claim, joined: Level3, Level4, Level5, Level6, Level7, Level8.
-/
import Derived.Test.YtfjlglefodndjaaGreatDoorCc04
import Derived.RegionTactic
namespace Go.Proofs.YtfjlglefodndjaaGreatDoor
open Go.RowKit

/-- append, as one step of a region that draws its order. -/
theorem step_append1 {t e : TypeId} {z : Value} {size bytes : Nat} (E : ElemT t e z size bytes) {ops : Array Oper} {o : Oper} {a : Act} {K : Act → World → Prop} {Q : Exit → Act → World → Prop} {Z : Prop} {W : World}
    (hgd : o.guard = none) (s x : Operand) (ho : o.op = .call { callee := .builtin .append, args := #[s, x], argTypes := #[t, t] }) (base : Nat) (v : Value) (n : Nat) (xs : List Value) (hs : a.eval s = v)
    (B m c : Nat) (news : List Value) (hx : a.eval x = .slice (some ⟨B, 0, none⟩) m c) (hl : news.length = m * size) (h1 : ∀ u ∈ news, u.oneCell' = true) (hm : 0 < m) (hn : n + m ≤ 100000000) (hb : bytes ≤ 1000) (H : Nat)
    (hown : W.ownsRow base e size v n xs) (hnews : ∀ j (h : j < news.length), W.cell? ⟨B, j, none⟩ = some news[j]) (hbase : base ≤ W.heap.size) (hH : W.heap.size = H)
    (h : ∀ g cap w', w'.ownsRow base e size (.slice (some ⟨g, 0, none⟩) (n + m) cap) (n + m) (xs ++ news) → W.grownBy w' v.ownBlock → (v.ownBlock = some g ∨ g = H) → g < w'.heap.size → K (a.put o.dst (.slice (some ⟨g, 0, none⟩) (n + m) cap)) w') :
    if Region.wanted o (yielded ops a.tmps) = true then Oper.wp Tryz.prog o a W K Q else Z := by
  obtain ⟨i, hi, hz, hsz, hby⟩ := info_parts E.info
  refine step_append_lies W hgd s x t ho base e i z size bytes E.ht hi hz hsz hby E.hzs E.hsz v n xs hs hown ⟨B, 0, none⟩ m c news hx hl ?_ h1 hm (by simp only [maxLen]; omega) ?_ hbase H hH h
  · intro j u hu
    obtain ⟨hj, rfl⟩ := List.getElem?_eq_some_iff.1 hu
    have : (⟨B, 0, none⟩ : Addr).add j = ⟨B, j, none⟩ := by unfold Addr.add; split <;> simp_all
    rw [this]
    exact hnews j hj
  · calc (n + m) * bytes ≤ 100000000 * 1000 := Nat.mul_le_mul hn hb
      _ ≤ 140737488355328 := by omega

def itF : Nat → Part → Part
  | 0, p => p
  | n + 1, p => composedF 6 [itF n p]
theorem itF_size (n : Nat) (p : Part) : (itF n p).size = p.size + n := by
  induction n with
  | zero => rfl
  | succ n ih => rw [itF, composedF]; split <;> simp [sumSize, ih] <;> omega
theorem itF_tidy (n : Nat) (p : Part) (h : p.depth ≤ p.size) : (itF n p).depth ≤ (itF n p).size := by
  induction n with
  | zero => exact h
  | succ n ih => rw [itF, composedF]; split <;> simp [sumSize, maxDepth] <;> omega

theorem potAll_snoc (l : List Lvl) (t : Lvl) : potAll (l ++ [t]) = potAll l + t.pot := by
  induction l with
  | nil => simp [potAll]
  | cons a r ih => simp [potAll, ih]; omega
theorem sumPot_snoc (l : List Part) (p : Part) : sumPot (l ++ [p]) = sumPot l + (p.size + 1) := by
  induction l with
  | nil => simp [sumPot]
  | cons a r ih => simp [sumPot, ih]; omega
theorem sumPot_eq (l : List Part) : sumPot l = sumSize l + l.length := by
  induction l with
  | nil => simp [sumPot, sumSize]
  | cons a r ih => simp [sumPot, sumSize, ih]; omega

theorem Chg.mono {N N' : List Nat} {a b : World} (h : Chg N a b) (hN : ∀ y ∈ N, y ∈ N') : Chg N' a b := ⟨h.os, h.tape, h.output, h.size, fun k hk hn => h.block k hk (fun h' => hn (hN k h'))⟩
theorem set_tail (l : List LvlV) (C : List Value) (j : Nat) (u : Value) : (l.flatMap LvlV.cells ++ C).set (l.length * 3 + j) u = l.flatMap LvlV.cells ++ C.set j u := by
  have hl := length_flatMap_of LvlV.cells 3 (fun _ => rfl) l
  rw [List.set_append_right _ _ (by omega), hl]
  congr 1
  congr 1
  omega

theorem PartsR.snoc {w : World} {ps : List Part} {vs : List PartV} {p : Part} {v : PartV} (h : PartsR w ps vs) (hp : PartR w p v) : PartsR w (ps ++ [p]) (vs ++ [v]) := by
  refine ⟨by simp [h.1], fun i h1 h2 => ?_⟩
  by_cases hi : i < ps.length
  · rw [List.getElem_append_left hi, List.getElem_append_left (by rw [← h.1]; exact hi)]
    exact h.2 i hi _
  · have e : i = ps.length := by simp at h1; omega
    subst e
    rw [List.getElem_append_right (Nat.le_refl _), List.getElem_append_right (by rw [h.1]; exact Nat.le_refl _)]
    simpa using hp

theorem Chg.grown {N : List Nat} {a w w' : World} {row : Option Nat} (h : Chg N a w) (hg : w.grownBy w' row) (hr : ∀ y, row = some y → y ∈ N ∨ a.heap.size ≤ y) : Chg N a w' :=
  ⟨hg.os.trans h.os, hg.tape.trans h.tape, hg.output.trans h.output, Nat.le_trans h.size hg.size, fun y hy hn =>
    (hg.block y (Nat.lt_of_lt_of_le hy h.size) (fun e => by rcases hr y e.symm with h' | h'; exact hn h'; omega)).trans (h.block y hy hn)⟩

end Go.Proofs.YtfjlglefodndjaaGreatDoor

namespace Go.Proofs.YtfjlglefodndjaaGreatDoor
open Go.RowKit

end Go.Proofs.YtfjlglefodndjaaGreatDoor

namespace Go.Proofs.YtfjlglefodndjaaGreatDoor
open Go.RowKit

theorem joinedF_size (op : Int) (l : List Part) : (joinedF op l).size ≤ 1 + sumSize l := by
  match l with
  | [] => simp [joinedF, composedF, sumSize, maxDepth]
  | [p] => simp [joinedF, sumSize]
  | a :: b :: r => simp only [joinedF, composedF]; split <;> simp
theorem maxDepth_all {l : List Part} (h : Tidy l) : maxDepth l ≤ sumSize l := by
  have := maxDepth_le h l.length
  rwa [List.take_length] at this
theorem joinedF_tidy (op : Int) (l : List Part) (h : Tidy l) : (joinedF op l).depth ≤ (joinedF op l).size := by
  have hm := maxDepth_all h
  match l, h with
  | [], _ => simp [joinedF, composedF, sumSize, maxDepth]
  | [p], h => exact h p (by simp)
  | a :: b :: r, _ => simp only [joinedF, composedF]; split <;> simp <;> omega

end Go.Proofs.YtfjlglefodndjaaGreatDoor

namespace Go.Proofs.YtfjlglefodndjaaGreatDoor
open Go.RowKit

/-- append of elements that were just laid into a block of their own; where the new row lies. -/
theorem wpList_append2 {t e : TypeId} {z : Value} {size bytes : Nat} (E : ElemT t e z size bytes) {ops : Array Oper} {rest : List Oper} {o : Oper} {a : Act} {Q : Exit → Act → World → Prop} {X : World} {arr : Array Value} {tt : TypeId}
    (hgd : o.guard = none) (s x : Operand) (ho : o.op = .call { callee := .builtin .append, args := #[s, x], argTypes := #[t, t] }) (base : Nat) (v : Value) (n : Nat) (xs : List Value) (hs : a.eval s = v) (hown : X.ownsRow base e size v n xs)
    (B m c : Nat) (hx : a.eval x = .slice (some ⟨B, 0, none⟩) m c) (hB : B = X.heap.size) (hl : arr.size = m * size) (h1 : ∀ u ∈ arr.toList, u.oneCell' = true) (hm : 0 < m) (hn : n + m ≤ 100000000) (hb : bytes ≤ 1000) (hbase : base ≤ X.heap.size)
    (h : ∀ g cap w', w'.ownsRow base e size (.slice (some ⟨g, 0, none⟩) (n + m) cap) (n + m) (xs ++ arr.toList) → (X.alloc (.cells arr tt)).grownBy w' v.ownBlock → (v.ownBlock = some g ∨ g = X.heap.size + 1) → g < w'.heap.size → wpList Tryz.prog ops Q rest (a.put o.dst (.slice (some ⟨g, 0, none⟩) (n + m) cap)) w') : wpList Tryz.prog ops Q (o :: rest) a (X.alloc (.cells arr tt)) := by
  subst hB
  obtain ⟨i, hi, hz, hsz, hby⟩ := info_parts E.info
  refine wpList_append_lies (X.alloc (.cells arr tt)) hgd s x t ho base e i z size bytes E.ht hi hz hsz hby E.hzs E.hsz v n xs hs (hown.alloc _) ⟨X.heap.size, 0, none⟩ m c arr.toList hx (by simpa using hl) ?_ h1 hm (by simp only [maxLen]; omega) ?_ (by simp; omega) (X.heap.size + 1) (by simp) h
  · intro j u hu
    have : (⟨X.heap.size, 0, none⟩ : Addr).add j = ⟨X.heap.size, j, none⟩ := by unfold Addr.add; split <;> simp_all
    rw [this, World.cell?_alloc_at _ _ _ _ rfl]
    simpa using hu
  · calc (n + m) * bytes ≤ 100000000 * 1000 := Nat.mul_le_mul hn hb
      _ ≤ 140737488355328 := by omega

def lvl0 : Lvl := ⟨0, [], []⟩
def lvlV0 : LvlV := ⟨0, .slice none 0 0, .slice none 0 0⟩

end Go.Proofs.YtfjlglefodndjaaGreatDoor

namespace Go.Proofs.YtfjlglefodndjaaGreatDoor
open Go.RowKit

/-- Negations and parentheses before an operand: the place, and the levels. -/
def prefixF (toks : List Tok) : Nat → Nat → List Lvl → Lvl → Nat × List Lvl × Lvl
  | 0, k, li, t => (k, li, t)
  | f + 1, k, li, t =>
    if acceptB toks k 1 wNot = true then prefixF toks f (k + 1) li ⟨t.nots + 1, t.ands, t.ors⟩ else
    if acceptB toks k 4 ⟨#[40]⟩ = true then prefixF toks f (k + 1) (li ++ [t]) lvl0 else (k, li, t)

end Go.Proofs.YtfjlglefodndjaaGreatDoor

namespace Go.Proofs.YtfjlglefodndjaaGreatDoor
open Go.RowKit

theorem potAll_le {li : List Lvl} {t : Lvl} {n : Nat} (h : potAll (li ++ [t]) ≤ n) : potAll li ≤ n := by rw [potAll_snoc] at h; omega

theorem tidy_snoc {l : List Part} {q : Part} (h : Tidy l) (hq : q.depth ≤ q.size) : Tidy (l ++ [q]) := fun z hz => by
  rcases List.mem_append.1 hz with hz | hz
  · exact h z hz
  · simp at hz; subst hz; exact hq

end Go.Proofs.YtfjlglefodndjaaGreatDoor
