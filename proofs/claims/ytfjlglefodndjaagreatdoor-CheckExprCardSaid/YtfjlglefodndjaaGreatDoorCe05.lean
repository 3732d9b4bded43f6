/-
  Texts of the claim, joined: Level4, Level5, Level6, Level7, Level8, Level9.
-/
import Derived.Test.YtfjlglefodndjaaGreatDoorCe04
namespace Go.Proofs.YtfjlglefodndjaaGreatDoor
open Go.RowKit

end Go.Proofs.YtfjlglefodndjaaGreatDoor

namespace Go.Proofs.YtfjlglefodndjaaGreatDoor
open Go.RowKit

theorem joinedF_size (op : Int) (l : List Part) : (joinedF op l).size ≤ 1 + sumSize l := by
  match l with
  | [] => simp [joinedF, composedF, sumSize, maxDepth]
  | [p] => simp [joinedF, sumSize]
  | a :: b :: r => simp only [joinedF, composedF]; split <;> simp
theorem maxDepth_all {l : List Part} (h : Tidy l) : maxDepth l ≤ sumSize l := by
  have := maxDepth_le h l.length
  rwa [List.take_length] at this
theorem joinedF_tidy (op : Int) (l : List Part) (h : Tidy l) : (joinedF op l).depth ≤ (joinedF op l).size := by
  have hm := maxDepth_all h
  match l, h with
  | [], _ => simp [joinedF, composedF, sumSize, maxDepth]
  | [p], h => exact h p (by simp)
  | a :: b :: r, _ => simp only [joinedF, composedF]; split <;> simp <;> omega

end Go.Proofs.YtfjlglefodndjaaGreatDoor

namespace Go.Proofs.YtfjlglefodndjaaGreatDoor
open Go.RowKit

/-- append of elements that were just laid into a block of their own; where the new row lies. -/
theorem wpList_append2 {t e : TypeId} {z : Value} {size bytes : Nat} (E : ElemT t e z size bytes) {ops : Array Oper} {rest : List Oper} {o : Oper} {a : Act} {Q : Exit → Act → World → Prop} {X : World} {arr : Array Value} {tt : TypeId}
    (hgd : o.guard = none) (s x : Operand) (ho : o.op = .call { callee := .builtin .append, args := #[s, x], argTypes := #[t, t] }) (base : Nat) (v : Value) (n : Nat) (xs : List Value) (hs : a.eval s = v) (hown : X.ownsRow base e size v n xs)
    (B m c : Nat) (hx : a.eval x = .slice (some ⟨B, 0, none⟩) m c) (hB : B = X.heap.size) (hl : arr.size = m * size) (h1 : ∀ u ∈ arr.toList, u.oneCell' = true) (hm : 0 < m) (hn : n + m ≤ 100000000) (hb : bytes ≤ 1000) (hbase : base ≤ X.heap.size)
    (h : ∀ g cap w', w'.ownsRow base e size (.slice (some ⟨g, 0, none⟩) (n + m) cap) (n + m) (xs ++ arr.toList) → (X.alloc (.cells arr tt)).grownBy w' v.ownBlock → (v.ownBlock = some g ∨ g = X.heap.size + 1) → g < w'.heap.size → wpList Tryz.prog ops Q rest (a.put o.dst (.slice (some ⟨g, 0, none⟩) (n + m) cap)) w') : wpList Tryz.prog ops Q (o :: rest) a (X.alloc (.cells arr tt)) := by
  subst hB
  obtain ⟨i, hi, hz, hsz, hby⟩ := info_parts E.info
  refine wpList_append_lies (X.alloc (.cells arr tt)) hgd s x t ho base e i z size bytes E.ht hi hz hsz hby E.hzs E.hsz v n xs hs (hown.alloc _) ⟨X.heap.size, 0, none⟩ m c arr.toList hx (by simpa using hl) ?_ h1 hm (by simp only [maxLen]; omega) ?_ (by simp; omega) (X.heap.size + 1) (by simp) h
  · intro j u hu
    have : (⟨X.heap.size, 0, none⟩ : Addr).add j = ⟨X.heap.size, j, none⟩ := by unfold Addr.add; split <;> simp_all
    rw [this, World.cell?_alloc_at _ _ _ _ rfl]
    simpa using hu
  · calc (n + m) * bytes ≤ 100000000 * 1000 := Nat.mul_le_mul hn hb
      _ ≤ 140737488355328 := by omega

def lvl0 : Lvl := ⟨0, [], []⟩
def lvlV0 : LvlV := ⟨0, .slice none 0 0, .slice none 0 0⟩

end Go.Proofs.YtfjlglefodndjaaGreatDoor

namespace Go.Proofs.YtfjlglefodndjaaGreatDoor
open Go.RowKit

/-- Negations and parentheses before an operand: the place, and the levels. -/
def prefixF (toks : List Tok) : Nat → Nat → List Lvl → Lvl → Nat × List Lvl × Lvl
  | 0, k, li, t => (k, li, t)
  | f + 1, k, li, t =>
    if acceptB toks k 1 wNot = true then prefixF toks f (k + 1) li ⟨t.nots + 1, t.ands, t.ors⟩ else
    if acceptB toks k 4 ⟨#[40]⟩ = true then prefixF toks f (k + 1) (li ++ [t]) lvl0 else (k, li, t)

end Go.Proofs.YtfjlglefodndjaaGreatDoor

namespace Go.Proofs.YtfjlglefodndjaaGreatDoor
open Go.RowKit

theorem potAll_le {li : List Lvl} {t : Lvl} {n : Nat} (h : potAll (li ++ [t]) ≤ n) : potAll li ≤ n := by rw [potAll_snoc] at h; omega

theorem tidy_snoc {l : List Part} {q : Part} (h : Tidy l) (hq : q.depth ≤ q.size) : Tidy (l ++ [q]) := fun z hz => by
  rcases List.mem_append.1 hz with hz | hz
  · exact h z hz
  · simp at hz; subst hz; exact hq

end Go.Proofs.YtfjlglefodndjaaGreatDoor

namespace Go.Proofs.YtfjlglefodndjaaGreatDoor
open Go.RowKit

def withPart (t : Lvl) (p : Part) : Lvl := ⟨0, t.ands ++ [itF t.nots p], t.ors⟩
def wholeF (t : Lvl) : Part := joinedF 8 (t.ors ++ [joinedF 7 t.ands])

/-- The parser's run: outer (true): before an operand; inner (false): behind one. -/
def runF (toks : List Tok) (tn : Nat) : Nat → Bool → Nat → List Lvl → Lvl → Part × Int × Nat
  | 0, _, k, _, _ => (⟨ex0, 0, 0⟩, 5, k)
  | f + 1, true, k, li, t =>
    let a := prefixF toks (tn - k + 1) k li t
    let o := operandF toks a.1
    if o.2.1 ≠ 0 then (⟨ex0, 0, 0⟩, o.2.1, o.2.2) else runF toks tn f false o.2.2 a.2.1 (withPart a.2.2 o.1)
  | f + 1, false, k, li, t =>
    if acceptB toks k 1 wAnd = true then runF toks tn f true (k + 1) li t else
    if acceptB toks k 1 wOr = true then runF toks tn f true (k + 1) li ⟨t.nots, [], t.ors ++ [joinedF 7 t.ands]⟩ else
    match li.getLast? with
    | none => (wholeF t, 0, k)
    | some t' => if acceptB toks k 4 ⟨#[41]⟩ = true then runF toks tn f false (k + 1) li.dropLast (withPart t' (wholeF t)) else (⟨ex0, 0, 0⟩, 5, k)

theorem listLoop_ge (toks : List Tok) : ∀ (f k : Nat) (acc : List ByteArray), k ≤ (listLoop toks f k acc).2.2
  | 0, k, acc => by simp [listLoop]
  | f + 1, k, acc => by
    have := listLoop_ge toks f (k + 2) (acc ++ [textAt toks k])
    rw [listLoop]
    (repeat' split) <;> simp <;> omega
theorem listF_ge (toks : List Tok) (k : Nat) : k ≤ (listF toks k).2.2 := by
  have := listLoop_ge toks 14 (k + 1) []
  rw [listF]
  split <;> simp <;> omega
theorem boundF_ge (toks : List Tok) (k : Nat) (n : Int) : k ≤ (boundF toks k n).2.2 := by
  unfold boundF
  (repeat' split) <;> simp
theorem intervalF_ge (toks : List Tok) (k : Nat) : k ≤ (intervalF toks k).2.2.2 := by
  have h1 := boundF_ge toks k (-1000000000)
  have h2 := boundF_ge toks ((boundF toks k (-1000000000)).2.2 + 1) (boundF toks k (-1000000000)).1
  unfold intervalF
  simp only
  (repeat' split) <;> simp only <;> omega
theorem operandF_ok (toks : List Tok) (k : Nat) (h : (operandF toks k).2.1 = 0) : (operandF toks k).1.size = 1 ∧ (operandF toks k).1.depth = 1 ∧ k + 1 ≤ (operandF toks k).2.2 := by
  have h1 := listF_ge toks (k + 2)
  have h2 := intervalF_ge toks (k + 2)
  revert h
  unfold operandF
  (repeat' split) <;> simp <;> omega
theorem prefixF_ge (toks : List Tok) : ∀ (f k : Nat) (li : List Lvl) (t : Lvl), k ≤ (prefixF toks f k li t).1
  | 0, k, li, t => by simp [prefixF]
  | f + 1, k, li, t => by
    have h1 := prefixF_ge toks f (k + 1) li ⟨t.nots + 1, t.ands, t.ors⟩
    have h2 := prefixF_ge toks f (k + 1) (li ++ [t]) lvl0
    rw [prefixF]
    (repeat' split) <;> simp <;> omega
theorem wholeF_size (t : Lvl) : (wholeF t).size ≤ 2 + sumSize t.ors + sumSize t.ands := by
  have h1 := joinedF_size 8 (t.ors ++ [joinedF 7 t.ands])
  have h2 := joinedF_size 7 t.ands
  rw [sumSize_append] at h1
  simp only [sumSize] at h1
  unfold wholeF
  omega
theorem wholeF_tidy (t : Lvl) (h : Tidy t.ands ∧ Tidy t.ors) : (wholeF t).depth ≤ (wholeF t).size := joinedF_tidy 8 _ (tidy_snoc h.2 (joinedF_tidy 7 _ h.1))

theorem operandF_ge0 (toks : List Tok) (k : Nat) : k ≤ (operandF toks k).2.2 := by
  have h1 := listF_ge toks (k + 2)
  have h2 := intervalF_ge toks (k + 2)
  unfold operandF
  (repeat' split) <;> simp <;> omega
end Go.Proofs.YtfjlglefodndjaaGreatDoor
