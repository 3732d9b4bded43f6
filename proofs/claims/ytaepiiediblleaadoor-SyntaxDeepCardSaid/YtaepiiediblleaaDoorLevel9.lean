import Derived.Test.YtaepiiediblleaaDoorLevel8
namespace Go.Proofs.YtaepiiediblleaaDoor
open Go.RowKit

def withPart (t : Lvl) (p : Part) : Lvl := ⟨0, t.ands ++ [itF t.nots p], t.ors⟩
def wholeF (t : Lvl) : Part := joinedF 8 (t.ors ++ [joinedF 7 t.ands])

/-- The parser's run: outer (true): before an operand; inner (false): behind one. -/
def runF (toks : List Tok) (tn : Nat) : Nat → Bool → Nat → List Lvl → Lvl → Part × Int × Nat
  | 0, _, k, _, _ => (⟨ex0, 0, 0⟩, 5, k)
  | f + 1, true, k, li, t =>
    let a := prefixF toks (tn - k + 1) k li t
    let o := operandF toks a.1
    if o.2.1 ≠ 0 then (⟨ex0, 0, 0⟩, o.2.1, o.2.2) else runF toks tn f false o.2.2 a.2.1 (withPart a.2.2 o.1)
  | f + 1, false, k, li, t =>
    if acceptB toks k 1 wAnd = true then runF toks tn f true (k + 1) li t else
    if acceptB toks k 1 wOr = true then runF toks tn f true (k + 1) li ⟨t.nots, [], t.ors ++ [joinedF 7 t.ands]⟩ else
    match li.getLast? with
    | none => (wholeF t, 0, k)
    | some t' => if acceptB toks k 4 ⟨#[41]⟩ = true then runF toks tn f false (k + 1) li.dropLast (withPart t' (wholeF t)) else (⟨ex0, 0, 0⟩, 5, k)

theorem listLoop_ge (toks : List Tok) : ∀ (f k : Nat) (acc : List ByteArray), k ≤ (listLoop toks f k acc).2.2
  | 0, k, acc => by simp [listLoop]
  | f + 1, k, acc => by
    have := listLoop_ge toks f (k + 2) (acc ++ [textAt toks k])
    rw [listLoop]
    (repeat' split) <;> simp <;> omega
theorem listF_ge (toks : List Tok) (k : Nat) : k ≤ (listF toks k).2.2 := by
  have := listLoop_ge toks 14 (k + 1) []
  rw [listF]
  split <;> simp <;> omega
theorem boundF_ge (toks : List Tok) (k : Nat) (n : Int) : k ≤ (boundF toks k n).2.2 := by
  unfold boundF
  (repeat' split) <;> simp
theorem intervalF_ge (toks : List Tok) (k : Nat) : k ≤ (intervalF toks k).2.2.2 := by
  have h1 := boundF_ge toks k (-1000000000)
  have h2 := boundF_ge toks ((boundF toks k (-1000000000)).2.2 + 1) (boundF toks k (-1000000000)).1
  unfold intervalF
  simp only
  (repeat' split) <;> simp only <;> omega
theorem operandF_ok (toks : List Tok) (k : Nat) (h : (operandF toks k).2.1 = 0) : (operandF toks k).1.size = 1 ∧ (operandF toks k).1.depth = 1 ∧ k + 1 ≤ (operandF toks k).2.2 := by
  have h1 := listF_ge toks (k + 2)
  have h2 := intervalF_ge toks (k + 2)
  revert h
  unfold operandF
  (repeat' split) <;> simp <;> omega
theorem prefixF_ge (toks : List Tok) : ∀ (f k : Nat) (li : List Lvl) (t : Lvl), k ≤ (prefixF toks f k li t).1
  | 0, k, li, t => by simp [prefixF]
  | f + 1, k, li, t => by
    have h1 := prefixF_ge toks f (k + 1) li ⟨t.nots + 1, t.ands, t.ors⟩
    have h2 := prefixF_ge toks f (k + 1) (li ++ [t]) lvl0
    rw [prefixF]
    (repeat' split) <;> simp <;> omega
theorem wholeF_size (t : Lvl) : (wholeF t).size ≤ 2 + sumSize t.ors + sumSize t.ands := by
  have h1 := joinedF_size 8 (t.ors ++ [joinedF 7 t.ands])
  have h2 := joinedF_size 7 t.ands
  rw [sumSize_append] at h1
  simp only [sumSize] at h1
  unfold wholeF
  omega
theorem wholeF_tidy (t : Lvl) (h : Tidy t.ands ∧ Tidy t.ors) : (wholeF t).depth ≤ (wholeF t).size := joinedF_tidy 8 _ (tidy_snoc h.2 (joinedF_tidy 7 _ h.1))

/-- From state to state. -/
def Moves (toks : List Tok) (ta : Option Addr) (tn tc : Nat) (w0 w : World) (bp k : Nat) (li : List Lvl) (t : Lvl) (M X : List Nat) (w' : World) : Prop :=
  ∃ M', PS toks ta tn tc w0 w' bp k li t M' X ∧ Chg M w w' ∧ ∀ y ∈ M', y ∈ M ∨ w.heap.size ≤ y

theorem add_ps {toks : List Tok} {ta : Option Addr} {tn tc : Nat} {w0 w : World} {bp k : Nat} {li : List Lvl} {t : Lvl} {M X : List Nat} (h : PS toks ta tn tc w0 w bp k li t M X) (p : Part) (v : PartV) (hp : PartR (mask w (X ++ M)) p v) (hpt : p.depth ≤ p.size) (hpot : potAll (li ++ [t]) + p.size + 1 ≤ 2 * k) :
    Calls Tryd.prog 78 #[.pointer (some ⟨bp, 0, none⟩), v.val] w (fun e w' => e = .returned (.tuple #[]) ∧ Moves toks ta tn tc w0 w bp k li (withPart t p) M X w') := by
  obtain ⟨vl, l, x, hI, hll⟩ := h
  refine (add_calls hI hll p v hp hpt hpot).mono ?_
  rintro e w' ⟨he, x', M', h1, h2, h3⟩
  exact ⟨he, M', ⟨vl, l, x', h1, hll⟩, h2, h3⟩

/-- What another does, and where the run goes on. -/
theorem another_ps {toks : List Tok} {ta : Option Addr} {tn tc : Nat} {w0 w : World} {bp k : Nat} {li : List Lvl} {t : Lvl} {M X : List Nat} (h : PS toks ta tn tc w0 w bp k li t M X) (ho : HasOps w0) (hne : t.ands ≠ []) :
    Calls Tryd.prog 79 #[.pointer (some ⟨bp, 0, none⟩)] w (fun e w' => e = .returned (.bool (acceptB toks k 1 wAnd || acceptB toks k 1 wOr)) ∧
      Moves toks ta tn tc w0 w bp (if acceptB toks k 1 wAnd || acceptB toks k 1 wOr then k + 1 else k) li (if acceptB toks k 1 wAnd then t else if acceptB toks k 1 wOr then ⟨t.nots, [], t.ors ++ [joinedF 7 t.ands]⟩ else t) M X w') := by
  obtain ⟨vl, l, x, hI, hll⟩ := h
  cases h1 : acceptB toks k 1 wAnd
  · cases h2 : acceptB toks k 1 wOr
    · refine (another_none hI ho h1 h2).mono ?_
      rintro e w' ⟨he, x', M', g1, g2, g3⟩
      exact ⟨he, M', ⟨vl, l, x', g1, hll⟩, g2, g3⟩
    · refine (another_or hI hll ho h1 h2 hne).mono ?_
      rintro e w' ⟨he, x', M', g1, g2, g3⟩
      exact ⟨he, M', ⟨vl, l, x', g1, hll⟩, g2, g3⟩
  · refine (another_and hI ho h1).mono ?_
    rintro e w' ⟨he, x', M', g1, g2, g3⟩
    exact ⟨he, M', ⟨vl, l, x', g1, hll⟩, g2, g3⟩
theorem operandF_ge0 (toks : List Tok) (k : Nat) : k ≤ (operandF toks k).2.2 := by
  have h1 := listF_ge toks (k + 2)
  have h2 := intervalF_ge toks (k + 2)
  unfold operandF
  (repeat' split) <;> simp <;> omega
end Go.Proofs.YtaepiiediblleaaDoor
