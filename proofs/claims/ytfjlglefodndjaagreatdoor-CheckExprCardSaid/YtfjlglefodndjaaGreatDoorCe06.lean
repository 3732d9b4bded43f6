/-
  Texts of the claim, joined: Level10, Gram, Tokens, Exs, Clause, Cla.
-/
import Derived.Test.YtfjlglefodndjaaGreatDoorCe05
import Derived.Test.YtfjlglefodndjaaGreatDoorCe02
namespace Go.Proofs.YtfjlglefodndjaaGreatDoor
open Go.RowKit

end Go.Proofs.YtfjlglefodndjaaGreatDoor

namespace Go.Proofs.YtfjlglefodndjaaGreatDoor

mutual
def Ex.depth : Ex → Nat
  | .mk _ _ _ _ _ args => depths args + 1
def depths : List Ex → Nat
  | [] => 0
  | e :: r => max e.depth (depths r)
end
theorem Ex.depth_eq (e : Ex) : e.depth = depths e.args + 1 := by cases e; simp [Ex.depth, Ex.args]
theorem Ex.size_eq (e : Ex) : e.size = 1 + sizes e.args := by cases e; simp [Ex.size, Ex.args]
mutual
theorem Ex.depth_le : (e : Ex) → e.depth ≤ e.size
  | .mk _ _ _ _ _ args => by have := depths_le args; simp [Ex.depth, Ex.size]; omega
theorem depths_le : (l : List Ex) → depths l ≤ sizes l
  | [] => by simp [depths]
  | e :: r => by have := Ex.depth_le e; have := depths_le r; simp [depths, sizes]; omega
end
theorem depths_append (l m : List Ex) : depths (l ++ m) = max (depths l) (depths m) := by
  induction l with
  | nil => simp [depths]
  | cons e r ih => simp only [List.cons_append, depths, ih]; omega
theorem depths_take_succ (l : List Ex) (k : Nat) (hk : k < l.length) : depths (l.take (k + 1)) = max (depths (l.take k)) l[k].depth := by
  rw [List.take_succ_eq_append_getElem hk, depths_append]; simp [depths]
theorem depths_mem {l : List Ex} {e : Ex} (h : e ∈ l) : e.depth ≤ depths l := by
  induction l with
  | nil => simp at h
  | cons a r ih =>
    rcases List.mem_cons.1 h with rfl | h
    · simp only [depths]; omega
    · have := ih h; simp only [depths]; omega
theorem sizes_mem {l : List Ex} {e : Ex} (h : e ∈ l) : e.size ≤ sizes l := by
  induction l with
  | nil => simp at h
  | cons a r ih =>
    rcases List.mem_cons.1 h with rfl | h
    · simp [sizes]
    · have := ih h; simp [sizes]; omega

/-- An expression as a part: beyond the limits only its size and its depth. -/
def partOf (e : Ex) : Part := if 300 < e.size ∨ 16 < e.depth then ⟨ex0, e.size, e.depth⟩ else ⟨e, e.size, e.depth⟩
theorem partOf_size (e : Ex) : (partOf e).size = e.size := by unfold partOf; split <;> rfl
theorem partOf_depth (e : Ex) : (partOf e).depth = e.depth := by unfold partOf; split <;> rfl
theorem partOf_ex {e : Ex} (h1 : e.size ≤ 300) (h2 : e.depth ≤ 16) : (partOf e).ex = e := by unfold partOf; rw [if_neg (by omega)]
theorem sumSize_partOf (l : List Ex) : sumSize (l.map partOf) = sizes l := by
  induction l with
  | nil => simp [sumSize, sizes]
  | cons a r ih => simp [sumSize, sizes, ih, partOf_size]
theorem maxDepth_foldl (l : List Ex) : ∀ d, (l.map partOf).foldl (fun d p => max d p.depth) d = max d (depths l) := by
  induction l with
  | nil => intro d; simp [depths]
  | cons a r ih => intro d; simp only [List.map_cons, List.foldl_cons, depths, ih, partOf_depth]; omega
theorem maxDepth_partOf (l : List Ex) : maxDepth (l.map partOf) = depths l := by unfold maxDepth; rw [maxDepth_foldl]; omega
theorem map_partOf_ex {l : List Ex} (h1 : sizes l ≤ 300) (h2 : depths l ≤ 16) : (l.map partOf).map (·.ex) = l := by
  rw [List.map_map]
  have : ∀ e ∈ l, ((·.ex) ∘ partOf) e = id e := fun e he => by
    have h3 := sizes_mem he
    have h4 := depths_mem he
    exact partOf_ex (by omega) (by omega)
  rw [List.map_congr_left this]
  simp
theorem composedF_partOf (op : Int) (l : List Ex) : composedF op (l.map partOf) = partOf (.mk op ⟨#[]⟩ [] 0 0 l) := by
  have e1 : partOf (.mk op ⟨#[]⟩ [] 0 0 l) = if 300 < 1 + sizes l ∨ 16 < depths l + 1 then ⟨ex0, 1 + sizes l, depths l + 1⟩ else ⟨.mk op ⟨#[]⟩ [] 0 0 l, 1 + sizes l, depths l + 1⟩ := by
    by_cases h : 300 < 1 + sizes l ∨ 16 < depths l + 1
    · rw [partOf, if_pos (by simpa only [Ex.size, Ex.depth] using h), if_pos h]; simp only [Ex.size, Ex.depth]
    · rw [partOf, if_neg (by simpa only [Ex.size, Ex.depth] using h), if_neg h]; simp only [Ex.size, Ex.depth]
  rw [e1, composedF, sumSize_partOf, maxDepth_partOf]
  by_cases h : 300 < 1 + sizes l ∨ 16 < depths l + 1
  · rw [if_pos h, if_pos h]
  · rw [if_neg h, if_neg h, map_partOf_ex (by omega) (by omega)]
/-- The operator with all arguments, or the only one. -/
def joinE (op : Int) (l : List Ex) : Ex := match l with | [e] => e | l => .mk op ⟨#[]⟩ [] 0 0 l
theorem joinedF_partOf (op : Int) (l : List Ex) : joinedF op (l.map partOf) = partOf (joinE op l) := by
  match l with
  | [] => exact composedF_partOf op []
  | [e] => rfl
  | a :: b :: r => exact composedF_partOf op (a :: b :: r)
theorem itF_swap (n : Nat) (p : Part) : itF n (composedF 6 [p]) = itF (n + 1) p := by
  induction n with
  | zero => rfl
  | succ n ih => rw [itF, ih]; rfl

/-- What is read: atom, with negations, with and, with or. -/
inductive Lev where
  | atom | neg | ands | ors

def operandE (toks : List Tok) (k : Nat) : Ex × Int × Nat := ((operandF toks k).1.ex, (operandF toks k).2.1, (operandF toks k).2.2)

/-- The grammar: from the k-th token on, after the arguments acc, these are read: an expression, 0 and the index behind it, or an error and its index. -/
inductive Gr (toks : List Tok) : Lev → Nat → List Ex → Ex → Int → Nat → Prop
  | parenOk {k e k1} : acceptB toks k 4 ⟨#[40]⟩ = true → Gr toks .ors (k + 1) [] e 0 k1 → acceptB toks k1 4 ⟨#[41]⟩ = true → Gr toks .atom k [] e 0 (k1 + 1)
  | parenErr {k e er k1} : acceptB toks k 4 ⟨#[40]⟩ = true → Gr toks .ors (k + 1) [] e er k1 → er ≠ 0 → Gr toks .atom k [] ex0 er k1
  | parenNo {k e k1} : acceptB toks k 4 ⟨#[40]⟩ = true → Gr toks .ors (k + 1) [] e 0 k1 → acceptB toks k1 4 ⟨#[41]⟩ = false → Gr toks .atom k [] ex0 5 k1
  | operand {k} : acceptB toks k 4 ⟨#[40]⟩ = false → Gr toks .atom k [] (operandF toks k).1.ex (operandF toks k).2.1 (operandF toks k).2.2
  | notOk {k e k1} : acceptB toks k 1 wNot = true → Gr toks .neg (k + 1) [] e 0 k1 → Gr toks .neg k [] (.mk 6 ⟨#[]⟩ [] 0 0 [e]) 0 k1
  | notErr {k e er k1} : acceptB toks k 1 wNot = true → Gr toks .neg (k + 1) [] e er k1 → er ≠ 0 → Gr toks .neg k [] ex0 er k1
  | negAtom {k e er k1} : acceptB toks k 1 wNot = false → Gr toks .atom k [] e er k1 → Gr toks .neg k [] e er k1
  | andStep {k acc e k1 e2 er k2} : Gr toks .neg k [] e 0 k1 → acceptB toks k1 1 wAnd = true → Gr toks .ands (k1 + 1) (acc ++ [e]) e2 er k2 → Gr toks .ands k acc e2 er k2
  | andStop {k acc e k1} : Gr toks .neg k [] e 0 k1 → acceptB toks k1 1 wAnd = false → Gr toks .ands k acc (joinE 7 (acc ++ [e])) 0 k1
  | andErr {k acc e er k1} : Gr toks .neg k [] e er k1 → er ≠ 0 → Gr toks .ands k acc ex0 er k1
  | orStep {k acc e k1 e2 er k2} : Gr toks .ands k [] e 0 k1 → acceptB toks k1 1 wOr = true → Gr toks .ors (k1 + 1) (acc ++ [e]) e2 er k2 → Gr toks .ors k acc e2 er k2
  | orStop {k acc e k1} : Gr toks .ands k [] e 0 k1 → acceptB toks k1 1 wOr = false → Gr toks .ors k acc (joinE 8 (acc ++ [e])) 0 k1
  | orErr {k acc e er k1} : Gr toks .ands k [] e er k1 → er ≠ 0 → Gr toks .ors k acc ex0 er k1

def bd (tn : Nat) (m : Bool) (k : Nat) : Nat := if m then 2 * (tn - k) + 2 else 2 * (tn - k) + 1

theorem acceptB_lt {toks : List Tok} {k : Nat} {kind : Int} {text : ByteArray} (h : acceptB toks k kind text = true) : k < toks.length := by
  by_cases hlt : k < toks.length
  · exact hlt
  · rw [acceptB, List.getElem?_eq_none (by omega)] at h; cases h

theorem runF_fuel (toks : List Tok) : ∀ (f g : Nat) (m : Bool) (k : Nat) (li : List Lvl) (t : Lvl), bd toks.length m k ≤ f → bd toks.length m k ≤ g → runF toks toks.length f m k li t = runF toks toks.length g m k li t := by
  intro f
  induction f with
  | zero => intro g m k li t h; unfold bd at h; split at h <;> omega
  | succ f ih =>
    intro g m k li t hf hg
    obtain ⟨g, rfl⟩ : ∃ g', g = g' + 1 := ⟨g - 1, by unfold bd at hg; split at hg <;> omega⟩
    cases m with
    | true =>
      simp only [bd, if_true] at hf hg
      simp only [runF]
      split
      · rfl
      · have h1 := prefixF_ge toks (toks.length - k + 1) k li t
        have h2 := operandF_ge0 toks (prefixF toks (toks.length - k + 1) k li t).1
        refine ih g false _ _ _ ?_ ?_ <;> (simp only [bd, Bool.false_eq_true, if_false]; omega)
    | false =>
      simp only [bd, Bool.false_eq_true, if_false] at hf hg
      simp only [runF]
      split
      · rename_i h
        have := acceptB_lt h
        refine ih g true _ _ _ ?_ ?_ <;> (simp only [bd, if_true]; omega)
      · split
        · rename_i h
          have := acceptB_lt h
          refine ih g true _ _ _ ?_ ?_ <;> (simp only [bd, if_true]; omega)
        · split
          · rfl
          · split
            · rename_i h
              have := acceptB_lt h
              refine ih g false _ _ _ ?_ ?_ <;> (simp only [bd, Bool.false_eq_true, if_false]; omega)
            · rfl

/-- The run with enough steps. -/
def run (toks : List Tok) (m : Bool) (k : Nat) (li : List Lvl) (t : Lvl) : Part × Int × Nat := runF toks toks.length (bd toks.length m k) m k li t
theorem runF_run (toks : List Tok) {f : Nat} {m : Bool} {k : Nat} {li : List Lvl} {t : Lvl} (h : bd toks.length m k ≤ f) : runF toks toks.length f m k li t = run toks m k li t := runF_fuel toks _ _ _ _ _ _ h (Nat.le_refl _)

theorem runF_true (toks : List Tok) (tn f k : Nat) (li : List Lvl) (t : Lvl) : runF toks tn (f + 1) true k li t =
    if (operandF toks (prefixF toks (tn - k + 1) k li t).1).2.1 ≠ 0 then (⟨ex0, 0, 0⟩, (operandF toks (prefixF toks (tn - k + 1) k li t).1).2.1, (operandF toks (prefixF toks (tn - k + 1) k li t).1).2.2) else
    runF toks tn f false (operandF toks (prefixF toks (tn - k + 1) k li t).1).2.2 (prefixF toks (tn - k + 1) k li t).2.1 (withPart (prefixF toks (tn - k + 1) k li t).2.2 (operandF toks (prefixF toks (tn - k + 1) k li t).1).1) := by rw [runF]
/-- The run behind the prefix. -/
def runA (toks : List Tok) (a : Nat × List Lvl × Lvl) : Part × Int × Nat :=
  if (operandF toks a.1).2.1 ≠ 0 then (⟨ex0, 0, 0⟩, (operandF toks a.1).2.1, (operandF toks a.1).2.2) else run toks false (operandF toks a.1).2.2 a.2.1 (withPart a.2.2 (operandF toks a.1).1)
theorem run_true (toks : List Tok) (k : Nat) (li : List Lvl) (t : Lvl) : run toks true k li t = runA toks (prefixF toks (toks.length - k + 1) k li t) := by
  have h1 := prefixF_ge toks (toks.length - k + 1) k li t
  have h2 := operandF_ge0 toks (prefixF toks (toks.length - k + 1) k li t).1
  show runF toks toks.length (2 * (toks.length - k) + 1 + 1) true k li t = _
  rw [runF_true, runA]
  split
  · rfl
  · refine runF_run toks (m := false) ?_
    simp only [bd, Bool.false_eq_true, if_false]; omega
theorem run_not {toks : List Tok} {k : Nat} {li : List Lvl} {t : Lvl} (h : acceptB toks k 1 wNot = true) : run toks true k li t = run toks true (k + 1) li ⟨t.nots + 1, t.ands, t.ors⟩ := by
  have hk := acceptB_lt h
  rw [run_true, run_true, prefixF, if_pos h, show toks.length - (k + 1) + 1 = toks.length - k by omega]
theorem run_paren {toks : List Tok} {k : Nat} {li : List Lvl} {t : Lvl} (h0 : acceptB toks k 1 wNot = false) (h : acceptB toks k 4 ⟨#[40]⟩ = true) : run toks true k li t = run toks true (k + 1) (li ++ [t]) lvl0 := by
  have hk := acceptB_lt h
  rw [run_true, run_true, prefixF, if_neg (by simp [h0]), if_pos h, show toks.length - (k + 1) + 1 = toks.length - k by omega]
theorem run_operand {toks : List Tok} {k : Nat} {li : List Lvl} {t : Lvl} (h0 : acceptB toks k 1 wNot = false) (h : acceptB toks k 4 ⟨#[40]⟩ = false) : run toks true k li t = runA toks (k, li, t) := by
  rw [run_true, prefixF, if_neg (by simp [h0]), if_neg (by simp [h])]
theorem run_and {toks : List Tok} {k : Nat} {li : List Lvl} {t : Lvl} (h : acceptB toks k 1 wAnd = true) : run toks false k li t = run toks true (k + 1) li t := by
  have hk := acceptB_lt h
  show runF toks toks.length (2 * (toks.length - k) + 1) false k li t = _
  rw [runF, if_pos h]
  exact runF_run toks (by simp only [bd, if_true]; omega)

def contClose (toks : List Tok) (k : Nat) (li : List Lvl) (p : Part) : Part × Int × Nat := match li.getLast? with
  | none => (p, 0, k)
  | some t' => if acceptB toks k 4 ⟨#[41]⟩ = true then run toks false (k + 1) li.dropLast (withPart t' p) else (⟨ex0, 0, 0⟩, 5, k)
def contOr (toks : List Tok) (k : Nat) (li : List Lvl) (p : Part) (ors : List Part) : Part × Int × Nat :=
  if acceptB toks k 1 wOr = true then run toks true (k + 1) li ⟨0, [], ors ++ [p]⟩ else contClose toks k li (joinedF 8 (ors ++ [p]))
theorem run_or {toks : List Tok} {k : Nat} {li : List Lvl} {ands ors : List Part} (h : acceptB toks k 1 wAnd = false) : run toks false k li ⟨0, ands, ors⟩ = contOr toks k li (joinedF 7 ands) ors := by
  show runF toks toks.length (2 * (toks.length - k) + 1) false k li _ = _
  rw [runF, if_neg (by simp [h]), contOr]
  split
  · rename_i h2
    have hk := acceptB_lt h2
    exact runF_run toks (by simp only [bd, if_true]; omega)
  · rw [contClose]
    cases li.getLast? with
    | none => rfl
    | some t' =>
      simp only [wholeF]
      split
      · rename_i h2
        have hk := acceptB_lt h2
        exact runF_run toks (by simp only [bd, Bool.false_eq_true, if_false]; omega)
      · rfl

/-- What the grammar reads is what the parser's run comes to. -/
def Says (toks : List Tok) : Lev → Nat → List Ex → Ex → Int → Nat → Prop
  | .atom, k, _, e, er, k1 => acceptB toks k 1 wNot = false → ∀ li t, run toks true k li t = if er ≠ 0 then (⟨ex0, 0, 0⟩, er, k1) else run toks false k1 li (withPart t (partOf e))
  | .neg, k, _, e, er, k1 => ∀ li t, run toks true k li t = if er ≠ 0 then (⟨ex0, 0, 0⟩, er, k1) else run toks false k1 li (withPart t (partOf e))
  | .ands, k, acc, e, er, k1 => ∀ li ors, run toks true k li ⟨0, acc.map partOf, ors⟩ = if er ≠ 0 then (⟨ex0, 0, 0⟩, er, k1) else contOr toks k1 li (partOf e) ors
  | .ors, k, acc, e, er, k1 => ∀ li, run toks true k li ⟨0, [], acc.map partOf⟩ = if er ≠ 0 then (⟨ex0, 0, 0⟩, er, k1) else contClose toks k1 li (partOf e)

theorem acceptB_two {toks : List Tok} {k : Nat} {a b : Int} {s t : ByteArray} (h : acceptB toks k a s = true) (hab : a ≠ b) : acceptB toks k b t = false := by
  unfold acceptB at *
  cases hk : toks[k]? with
  | none => rfl
  | some x =>
    rw [hk] at h
    simp only [Bool.and_eq_true, beq_iff_eq] at h
    simp only [Bool.and_eq_false_iff]
    left
    simp [h.1, hab]

theorem partOf_operand {toks : List Tok} {k : Nat} (h : (operandF toks k).2.1 = 0) : partOf (operandF toks k).1.ex = (operandF toks k).1 := by
  have h2 := operandF_ok toks k h
  have h3 : (operandF toks k).1.ex.args = [] := by
    unfold operandF
    (repeat' split) <;> rfl
  have h4 := Ex.size_eq (operandF toks k).1.ex
  have h5 := Ex.depth_eq (operandF toks k).1.ex
  rw [h3] at h4 h5
  simp only [sizes, depths] at h4 h5
  unfold partOf
  rw [if_neg (by omega), h4, h5]
  generalize operandF toks k = R at *
  obtain ⟨⟨ex, s, d⟩, er, k1⟩ := R
  simp only at h2 ⊢
  rw [h2.1, h2.2.1]

theorem Gr.says {toks : List Tok} {s : Lev} {k : Nat} {acc : List Ex} {e : Ex} {er : Int} {k1 : Nat} (h : Gr toks s k acc e er k1) : Says toks s k acc e er k1 := by
  induction h with
  | parenOk h1 _ h2 ih =>
    intro h0 li t
    rw [run_paren h0 h1, show lvl0 = ⟨0, [], ([] : List Ex).map partOf⟩ from rfl, ih (li ++ [t])]
    simp [contClose, h2]
  | parenErr h1 _ h2 ih =>
    intro h0 li t
    rw [run_paren h0 h1, show lvl0 = ⟨0, [], ([] : List Ex).map partOf⟩ from rfl, ih (li ++ [t])]
    simp [h2]
  | parenNo h1 _ h2 ih =>
    intro h0 li t
    rw [run_paren h0 h1, show lvl0 = ⟨0, [], ([] : List Ex).map partOf⟩ from rfl, ih (li ++ [t])]
    simp [contClose, h2]
  | operand h1 =>
    intro h0 li t
    rw [run_operand h0 h1, runA]
    split
    · rfl
    · rename_i h
      rw [partOf_operand (by simpa using h)]
  | notOk h1 _ ih =>
    intro li t
    rw [run_not h1, ih]
    simp only [ne_eq, not_true_eq_false, if_false]
    rename_i e2 _ _
    have := composedF_partOf 6 [e2]
    simp only [withPart, ← this, List.map_cons, List.map_nil, itF_swap]
  | notErr h1 _ h2 ih =>
    intro li t
    rw [run_not h1, ih]
    simp [h2]
  | negAtom h1 _ ih => exact ih h1
  | andStep _ h2 _ ih1 ih2 =>
    intro li ors
    rw [ih1]
    simp only [ne_eq, not_true_eq_false, if_false, withPart, itF]
    rw [run_and h2]
    have := ih2 li ors
    simpa using this
  | andStop _ h2 ih =>
    intro li ors
    rw [ih]
    simp only [ne_eq, not_true_eq_false, if_false, withPart, itF]
    rw [run_or h2, ← joinedF_partOf]
    simp
  | andErr _ h2 ih =>
    intro li ors
    rw [ih]
    simp [h2]
  | orStep _ h2 _ ih1 ih2 =>
    intro li
    have := ih1 li
    rw [show ([] : List Part) = ([] : List Ex).map partOf from rfl, this]
    simp only [ne_eq, not_true_eq_false, if_false]
    rw [contOr, if_pos h2]
    have := ih2 li
    simpa using this
  | orStop _ h2 ih =>
    intro li
    have := ih li
    rw [show ([] : List Part) = ([] : List Ex).map partOf from rfl, this]
    simp only [ne_eq, not_true_eq_false, if_false]
    rw [contOr, if_neg (by simp [h2]), ← joinedF_partOf]
    simp
  | orErr _ h2 ih =>
    intro li
    have := ih li
    rw [show ([] : List Part) = ([] : List Ex).map partOf from rfl, this]
    simp [h2]

theorem Gr.run {toks : List Tok} {k : Nat} {e : Ex} {er : Int} {k1 : Nat} (h : Gr toks .ors k [] e er k1) : run toks true k [] lvl0 = if er ≠ 0 then (⟨ex0, 0, 0⟩, er, k1) else (partOf e, 0, k1) := by
  have := h.says []
  rw [show lvl0 = ⟨0, [], ([] : List Ex).map partOf⟩ from rfl, this]
  simp [contClose]
end Go.Proofs.YtfjlglefodndjaaGreatDoor

namespace Go.Proofs.YtfjlglefodndjaaGreatDoor
open Go.RowKit

/-- What Tokens hands back: the expression, the next index, the index of an error, the error. -/
def tokensF (toks : List Tok) (i : Int) : Ex × Int × Int × Int :=
  if i < 0 ∨ (toks.length : Int) < i then (ex0, 0, 0, 1) else
  if (run toks true i.toNat [] lvl0).2.1 ≠ 0 then (ex0, 0, (run toks true i.toNat [] lvl0).2.2, (run toks true i.toNat [] lvl0).2.1) else
  if 300 < (run toks true i.toNat [] lvl0).1.size ∨ 16 < (run toks true i.toNat [] lvl0).1.depth then (ex0, 0, i, 4) else
  ((run toks true i.toNat [] lvl0).1.ex, (run toks true i.toNat [] lvl0).2.2, 0, 0)
def TokensQ (R : Ex × Int × Int × Int) (M : List Nat) (w : World) (e : Ending) (w' : World) : Prop :=
  ∃ x : ExV, e = .returned (.tuple #[x.val, .int .i64 R.2.1, .int .i64 R.2.2.1, .int .i64 R.2.2.2]) ∧ IsEx (mask w' M) R.1 x.val ∧ Ext w w'

def exV0 : ExV := ⟨0, ⟨#[]⟩, none, 0, 0, 0, 0, none, 0, 0⟩
theorem tokensQ_err {R : Ex × Int × Int × Int} {M : List Nat} {a b c : Int} {w w' : World} (h : R = (ex0, a, b, c)) (hx : Ext w w') : TokensQ R M w (.returned (.tuple #[exV0.val, .int .i64 a, .int .i64 b, .int .i64 c])) w' := by
  subst h; exact ⟨exV0, rfl, isEx0 _, hx⟩

theorem Chg.sub {N : List Nat} {w w' : World} (h : Chg N w w') : Sub (mask w N) (mask w' N) := mask_sub_mask fun k hk hn => ⟨hn, h.block k hk hn⟩
theorem mask_less {M N : List Nat} (w : World) (h : ∀ y ∈ M, y ∈ N) : Sub (mask w N) (mask w M) := mask_sub_mask fun k _ hn => ⟨fun h' => hn (h k h'), rfl⟩
end Go.Proofs.YtfjlglefodndjaaGreatDoor

namespace Go.Proofs.YtfjlglefodndjaaGreatDoor
open Go.RowKit

def ExsR (w : World) (l : List Ex) (xs : List ExV) : Prop := l.length = xs.length ∧ ∀ i (h1 : i < l.length) (h2 : i < xs.length), IsEx w l[i] xs[i].val
theorem ExsR.mono {w w' : World} {l : List Ex} {xs : List ExV} (h : ExsR w l xs) (hs : Sub w w') : ExsR w' l xs := ⟨h.1, fun i h1 h2 => (h.2 i h1 h2).mono hs⟩
theorem ExsR.nil (w : World) : ExsR w [] [] := ⟨rfl, fun i h => by simp at h⟩
theorem ExsR.snoc {w : World} {l : List Ex} {xs : List ExV} {e : Ex} {x : ExV} (h : ExsR w l xs) (hx : IsEx w e x.val) : ExsR w (l ++ [e]) (xs ++ [x]) := by
  refine ⟨by simp [h.1], fun i h1 h2 => ?_⟩
  by_cases hi : i < l.length
  · have hi2 : i < xs.length := by rw [← h.1]; exact hi
    simp only [List.getElem_append_left hi, List.getElem_append_left hi2]
    exact h.2 i hi hi2
  · have e1 : i = l.length := by simp at h1; omega
    subst e1
    simp only [List.getElem_append_right (Nat.le_refl _), List.getElem_append_right (show xs.length ≤ l.length by rw [h.1]; exact Nat.le_refl _), Nat.sub_self, List.getElem_cons_zero]
    simpa [h.1] using hx
theorem exV_len (x : ExV) : x.cells.length = 6 := rfl

/-- Expressions in a row that the call owns. -/
theorem exs_owns {w : World} {M : List Nat} {base : Nat} {v : Value} {l : List Ex} {xs : List ExV} (h : w.ownsRow base 29 6 v l.length (xs.flatMap ExV.cells)) (hM : ∀ k, v.ownBlock = some k → k ∉ M) (hR : ExsR (mask w M) l xs) :
    ∃ a c, v = .slice a l.length c ∧ l.length ≤ c ∧ OkAddr a c ∧ ExsD (mask w M) l a := by
  rw [hR.1] at h
  obtain ⟨a, c, rfl, hr⟩ := IsRows.of_owns exV_len h
  refine ⟨a, c, by rw [hR.1], by rw [hR.1]; exact hr.2.1, hr.2.2.1, ?_⟩
  match l, hR with
  | [], _ => unfold ExsD; trivial
  | e :: r, hR =>
    obtain ⟨b, off, rfl, h1⟩ := hr.2.2.2 0 (by rw [← hR.1]; simp)
    refine ExsD.of (e :: r) off xs hR.1 fun i h3 h4 => ⟨fun j hj => ?_, hR.2 i h3 h4⟩
    obtain ⟨b', off', e1, h5⟩ := hr.2.2.2 i h4
    simp only [Option.some.injEq, Addr.mk.injEq, and_true] at e1
    obtain ⟨rfl, rfl⟩ := e1
    rw [mask_cell, if_neg (hM _ rfl), h5 j (by rw [exV_len]; exact hj), List.getElem?_eq_getElem (by rw [exV_len]; exact hj)]

/-- One expression in a block of its own. -/
theorem exs_one {w : World} {M : List Nat} {g : Nat} {e : Ex} {x : ExV} {t : TypeId} (h : w.heap[g]? = some (.cells x.cells.toArray t (0, 0))) (hM : g ∉ M) (hx : IsEx (mask w M) e x.val) : ExsD (mask w M) [e] (some ⟨g, 0, none⟩) := by
  refine ExsD.of [e] 0 [x] rfl fun i h1 h2 => ?_
  obtain rfl : i = 0 := by simp at h1; exact h1
  refine ⟨fun j hj => ?_, hx⟩
  rw [mask_cell, if_neg hM, blk_cell h]
  simp
theorem isEx_not {w : World} {M : List Nat} {g : Nat} {e : Ex} {x : ExV} {t : TypeId} (h : w.heap[g]? = some (.cells x.cells.toArray t (0, 0))) (hM : g ∉ M) (hx : IsEx (mask w M) e x.val) :
    IsEx (mask w M) (.mk 6 ⟨#[]⟩ [] 0 0 [e]) (exV 6 ⟨#[]⟩ none 0 0 0 0 (some ⟨g, 0, none⟩) 1 1) :=
  IsEx.mk ⟨rfl, by omega, Or.inl ⟨rfl, rfl⟩, fun i hi => by simp at hi⟩ rfl (by simp) (Or.inr ⟨g, 0, rfl⟩) (exs_one h hM hx)
/-- An expression is stored into a box. -/
def put6 (w : World) (B : Nat) (x : ExV) : World := (((((w.setCell ⟨B, 0, none⟩ (.int .i64 x.op)).setCell ⟨B, 1, none⟩ (.string x.name)).setCell ⟨B, 2, none⟩ (.slice x.aw x.nw x.cw)).setCell ⟨B, 3, none⟩ (.int .i64 x.lo)).setCell ⟨B, 4, none⟩ (.int .i64 x.hi)).setCell ⟨B, 5, none⟩ (.slice x.aa x.na x.ca)
theorem put6_blk {w : World} {B : Nat} {y : ExV} {t : TypeId} (h : w.heap[B]? = some (.cells y.cells.toArray t (0, 0))) (x : ExV) : (put6 w B x).heap[B]? = some (.cells x.cells.toArray t (0, 0)) := by
  unfold put6
  rw [heap_setCell_same _ _ _ _ _ _ (heap_setCell_same _ _ _ _ _ _ (heap_setCell_same _ _ _ _ _ _ (heap_setCell_same _ _ _ _ _ _ (heap_setCell_same _ _ _ _ _ _ (heap_setCell_same _ _ _ _ _ _ h)))))]
  rfl
theorem put6_chg (w : World) (B : Nat) (x : ExV) {N : List Nat} (h : B ∈ N) : Chg N w (put6 w B x) := by
  unfold put6
  repeat (with_reducible (refine Chg.setCell ?_ ?_ _))
  exact Chg.refl _ _
  all_goals exact Or.inl h
theorem put6_size (w : World) (B : Nat) (x : ExV) : (put6 w B x).heap.size = w.heap.size := by simp [put6]
end Go.Proofs.YtfjlglefodndjaaGreatDoor

namespace Go.Proofs.YtfjlglefodndjaaGreatDoor
open Go.RowKit

/-- A clause's cells: its kind, its name, its condition's value, its write-backs, its amount. -/
structure ClV where
  kind : Int
  name : ByteArray
  x : ExV
  au : Option Addr
  nu : Nat
  cu : Nat
  amount : Int
def ClV.cells (c : ClV) : List Value := [.int .i64 c.kind, .string c.name, .int .i64 c.x.op, .string c.x.name, .slice c.x.aw c.x.nw c.x.cw, .int .i64 c.x.lo, .int .i64 c.x.hi, .slice c.x.aa c.x.na c.x.ca, .slice c.au c.nu c.cu, .int .i64 c.amount]
theorem ClV.len (c : ClV) : c.cells.length = 10 := rfl
/-- What Order looks at in a clause. -/
structure Cl where
  kind : Int
  name : ByteArray
  cond : Ex
/-- Clauses in a slice: kinds, names, conditions; what the write-backs lead to is left open. -/
def IsCls (w : World) (l : List Cl) (a : Option Addr) (n c : Nat) : Prop :=
  ∃ vs : List ClV, IsRows w 10 ClV.cells vs a n c ∧ l.length = vs.length ∧ ∀ i (h1 : i < l.length) (h2 : i < vs.length), vs[i].kind = l[i].kind ∧ vs[i].name = l[i].name ∧ IsEx w l[i].cond vs[i].x.val
theorem IsCls.mono {w w' : World} {l : List Cl} {a : Option Addr} {n c : Nat} (h : IsCls w l a n c) (hs : Sub w w') : IsCls w' l a n c := by
  obtain ⟨vs, h1, h2, h3⟩ := h
  exact ⟨vs, h1.mono hs, h2, fun i hi hv => ⟨(h3 i hi hv).1, (h3 i hi hv).2.1, (h3 i hi hv).2.2.mono hs⟩⟩
theorem IsCls.ext {w w' : World} {l : List Cl} {a : Option Addr} {n c : Nat} (h : IsCls w l a n c) (he : Ext w w') : IsCls w' l a n c := h.mono he.sub
theorem IsCls.len {w : World} {l : List Cl} {a : Option Addr} {n c : Nat} (h : IsCls w l a n c) : n = l.length := by
  obtain ⟨vs, h1, h2, _⟩ := h
  rw [h2]; exact h1.1
/-- The k-th clause: its ten cells. -/
theorem IsCls.at {w : World} {l : List Cl} {a : Option Addr} {n c : Nat} (h : IsCls w l a n c) {k : Nat} (hk : k < l.length) : ∃ (b off : Nat) (v : ClV), a = some ⟨b, off, none⟩ ∧ v.kind = l[k].kind ∧ v.name = l[k].name ∧ IsEx w l[k].cond v.x.val ∧ ∀ j (hj : j < v.cells.length), w.cell? ⟨b, off + k * 10 + j, none⟩ = some v.cells[j] := by
  obtain ⟨vs, h1, h2, h3⟩ := h
  have hk' : k < vs.length := by omega
  obtain ⟨b, off, e, hc⟩ := h1.2.2.2 k hk'
  obtain ⟨q1, q2, q3⟩ := h3 k hk hk'
  exact ⟨b, off, vs[k], e, q1, q2, q3, hc⟩
theorem IsCls.at10 {w : World} {l : List Cl} {a : Option Addr} {n c : Nat} (h : IsCls w l a n c) {k : Nat} (hk : k < l.length) : ∃ (b off : Nat) (v : ClV), a = some ⟨b, off, none⟩ ∧ v.kind = l[k].kind ∧ v.name = l[k].name ∧ IsEx w l[k].cond v.x.val ∧
    w.cell? ⟨b, off + k * 10, none⟩ = some (.int .i64 v.kind) ∧ w.cell? ⟨b, off + k * 10 + 1, none⟩ = some (.string v.name) ∧ w.cell? ⟨b, off + k * 10 + 2, none⟩ = some (.int .i64 v.x.op) ∧ w.cell? ⟨b, off + k * 10 + 3, none⟩ = some (.string v.x.name) ∧
    w.cell? ⟨b, off + k * 10 + 4, none⟩ = some (.slice v.x.aw v.x.nw v.x.cw) ∧ w.cell? ⟨b, off + k * 10 + 5, none⟩ = some (.int .i64 v.x.lo) ∧ w.cell? ⟨b, off + k * 10 + 6, none⟩ = some (.int .i64 v.x.hi) ∧ w.cell? ⟨b, off + k * 10 + 7, none⟩ = some (.slice v.x.aa v.x.na v.x.ca) ∧
    w.cell? ⟨b, off + k * 10 + 8, none⟩ = some (.slice v.au v.nu v.cu) ∧ w.cell? ⟨b, off + k * 10 + 9, none⟩ = some (.int .i64 v.amount) := by
  obtain ⟨b, off, v, e, q1, q2, q3, hc⟩ := h.at hk
  exact ⟨b, off, v, e, q1, q2, q3, hc 0 (by simp [ClV.len]), hc 1 (by simp [ClV.len]), hc 2 (by simp [ClV.len]), hc 3 (by simp [ClV.len]), hc 4 (by simp [ClV.len]), hc 5 (by simp [ClV.len]), hc 6 (by simp [ClV.len]), hc 7 (by simp [ClV.len]), hc 8 (by simp [ClV.len]), hc 9 (by simp [ClV.len])⟩
end Go.Proofs.YtfjlglefodndjaaGreatDoor

namespace Go.Proofs.YtfjlglefodndjaaGreatDoor
open Go.RowKit

/-! Clauses with their write-backs, in memory. -/
inductive Wb where
  | mk (name : ByteArray) (cond : Ex) (unl : List Wb)
def Wb.name : Wb → ByteArray | .mk n _ _ => n
def Wb.cond : Wb → Ex | .mk _ c _ => c
def Wb.unl : Wb → List Wb | .mk _ _ u => u
structure Cla where
  kind : Int
  name : ByteArray
  cond : Ex
  unl : List Wb
  amount : Int
def Cla.cl (c : Cla) : Cl := ⟨c.kind, c.name, c.cond⟩

/-- A write-back's cells. -/
structure WbV where
  name : ByteArray
  x : ExV
  au : Option Addr
  nu : Nat
  cu : Nat
def WbV.cells (v : WbV) : List Value := [.string v.name, .int .i64 v.x.op, .string v.x.name, .slice v.x.aw v.x.nw v.x.cw, .int .i64 v.x.lo, .int .i64 v.x.hi, .slice v.x.aa v.x.na v.x.ca, .slice v.au v.nu v.cu]
theorem WbV.len (c : WbV) : c.cells.length = 8 := rfl

/-- A row of v.cells.length cells from off on. -/
def RowAt (w : World) (b off : Nat) (cs : List Value) : Prop := ∀ j (h : j < cs.length), w.cell? ⟨b, off + j, none⟩ = some cs[j]
theorem RowAt.mono {w w' : World} {b off : Nat} {cs : List Value} (h : RowAt w b off cs) (hs : Sub w w') : RowAt w' b off cs := fun j hj => hs _ _ (h j hj)

mutual
def WbD (w : World) : Wb → Option Addr → Nat → Nat → Prop
  | .mk _ _ unl, au, nu, cu => nu = unl.length ∧ nu ≤ cu ∧ OkAddr au cu ∧ WbsD w unl au
def WbsD (w : World) : List Wb → Option Addr → Prop
  | [], _ => True
  | .mk name cond unl :: r, a => ∃ b off, a = some ⟨b, off, none⟩ ∧ (∃ v : WbV, v.name = name ∧ RowAt w b off v.cells ∧ IsEx w cond v.x.val ∧ v.nu = unl.length ∧ v.nu ≤ v.cu ∧ OkAddr v.au v.cu ∧ WbsD w unl v.au) ∧ WbsD w r (some ⟨b, off + 8, none⟩)
end
mutual
theorem WbD.mono {w w' : World} (he : Sub w w') : (e : Wb) → (au : Option Addr) → (nu cu : Nat) → WbD w e au nu cu → WbD w' e au nu cu
  | .mk name cond unl, au, nu, cu, h => by
    unfold WbD at h ⊢
    exact ⟨h.1, h.2.1, h.2.2.1, WbsD.mono he unl au h.2.2.2⟩
theorem WbsD.mono {w w' : World} (he : Sub w w') : (l : List Wb) → (a : Option Addr) → WbsD w l a → WbsD w' l a
  | [], _, _ => by unfold WbsD; trivial
  | .mk name cond unl :: r, a, h => by
    unfold WbsD at h ⊢
    obtain ⟨b, off, rfl, ⟨v, h0, h1, h2, h3, h4, h5, h6⟩, hr⟩ := h
    exact ⟨b, off, rfl, ⟨v, h0, h1.mono he, h2.mono he, h3, h4, h5, WbsD.mono he unl v.au h6⟩, WbsD.mono he r _ hr⟩
end
/-- The k-th write-back. -/
theorem WbsD.at {w : World} : (l : List Wb) → (a : Option Addr) → WbsD w l a → (k : Nat) → (hk : k < l.length) →
    ∃ b off, a = some ⟨b, off, none⟩ ∧ ∃ v : WbV, v.name = l[k].name ∧ RowAt w b (off + k * 8) v.cells ∧ IsEx w l[k].cond v.x.val ∧ v.nu = l[k].unl.length ∧ v.nu ≤ v.cu ∧ OkAddr v.au v.cu ∧ WbsD w l[k].unl v.au
  | [], _, _, k, hk => by simp at hk
  | .mk name cond unl :: r, a, h, 0, _ => by
    unfold WbsD at h
    obtain ⟨b, off, rfl, ⟨v, h0, h1, h2, h3, h4, h5, h6⟩, hr⟩ := h
    refine ⟨b, off, rfl, v, ?_⟩
    simp only [Nat.zero_mul, Nat.add_zero]
    exact ⟨h0, h1, h2, h3, h4, h5, h6⟩
  | .mk name cond unl :: r, a, h, k + 1, hk => by
    unfold WbsD at h
    obtain ⟨b, off, rfl, _, hr⟩ := h
    obtain ⟨b', off', e1, rest⟩ := WbsD.at r _ hr k (by simpa using hk)
    simp at e1
    obtain ⟨rfl, rfl⟩ := e1
    have e1 : off + 8 + k * 8 = off + (k + 1) * 8 := by omega
    rw [e1] at rest
    exact ⟨b, off, rfl, by simpa using rest⟩
/-- Write-backs laid one by one. -/
theorem WbsD.of {w : World} {b : Nat} : (l : List Wb) → (off : Nat) → (vs : List WbV) → l.length = vs.length → (∀ i (h1 : i < l.length) (h2 : i < vs.length), vs[i].name = l[i].name ∧ RowAt w b (off + i * 8) vs[i].cells ∧ IsEx w l[i].cond vs[i].x.val ∧ vs[i].nu = l[i].unl.length ∧ vs[i].nu ≤ vs[i].cu ∧ OkAddr vs[i].au vs[i].cu ∧ WbsD w l[i].unl vs[i].au) → WbsD w l (some ⟨b, off, none⟩)
  | [], _, _, _, _ => by unfold WbsD; trivial
  | .mk name cond unl :: r, off, [], hl, _ => by simp at hl
  | .mk name cond unl :: r, off, v :: vs, hl, h => by
    unfold WbsD
    obtain ⟨h0, h1, h2, h3, h4, h5, h6⟩ := h 0 (by simp) (by simp)
    simp only [List.getElem_cons_zero, Nat.zero_mul, Nat.add_zero] at h0 h1 h2 h3 h4 h5 h6
    refine ⟨b, off, rfl, ⟨v, h0, h1, h2, h3, h4, h5, h6⟩, WbsD.of r (off + 8) vs (by simpa using hl) fun i g1 g2 => ?_⟩
    have := h (i + 1) (by simpa using g1) (by simpa using g2)
    have e1 : off + (i + 1) * 8 = off + 8 + i * 8 := by omega
    rw [e1] at this
    simpa using this

/-- A clause and its cells. -/
def IsCla (w : World) (c : Cla) (v : ClV) : Prop := v.kind = c.kind ∧ v.name = c.name ∧ IsEx w c.cond v.x.val ∧ v.nu = c.unl.length ∧ v.nu ≤ v.cu ∧ OkAddr v.au v.cu ∧ WbsD w c.unl v.au ∧ v.amount = c.amount
theorem IsCla.mono {w w' : World} {c : Cla} {v : ClV} (h : IsCla w c v) (hs : Sub w w') : IsCla w' c v :=
  ⟨h.1, h.2.1, h.2.2.1.mono hs, h.2.2.2.1, h.2.2.2.2.1, h.2.2.2.2.2.1, WbsD.mono hs _ _ h.2.2.2.2.2.2.1, h.2.2.2.2.2.2.2⟩
/-- Clauses in a slice. -/
def IsClas (w : World) (l : List Cla) (a : Option Addr) (n c : Nat) : Prop :=
  ∃ vs : List ClV, IsRows w 10 ClV.cells vs a n c ∧ l.length = vs.length ∧ ∀ i (h1 : i < l.length) (h2 : i < vs.length), IsCla w l[i] vs[i]
theorem IsClas.mono {w w' : World} {l : List Cla} {a : Option Addr} {n c : Nat} (h : IsClas w l a n c) (hs : Sub w w') : IsClas w' l a n c := by
  obtain ⟨vs, h1, h2, h3⟩ := h
  exact ⟨vs, h1.mono hs, h2, fun i hi hv => (h3 i hi hv).mono hs⟩
theorem IsClas.ext {w w' : World} {l : List Cla} {a : Option Addr} {n c : Nat} (h : IsClas w l a n c) (he : Ext w w') : IsClas w' l a n c := h.mono he.sub
theorem IsClas.len {w : World} {l : List Cla} {a : Option Addr} {n c : Nat} (h : IsClas w l a n c) : n = l.length := by
  obtain ⟨vs, h1, h2, _⟩ := h
  rw [h2]; exact h1.1
theorem IsClas.nil (w : World) : IsClas w [] none 0 0 := ⟨[], ⟨rfl, Nat.le_refl _, Or.inl ⟨rfl, rfl⟩, fun i h => by simp at h⟩, rfl, fun i h => by simp at h⟩
theorem IsClas.cls {w : World} {l : List Cla} {a : Option Addr} {n c : Nat} (h : IsClas w l a n c) : IsCls w (l.map Cla.cl) a n c := by
  obtain ⟨vs, h1, h2, h3⟩ := h
  refine ⟨vs, h1, by simpa using h2, fun i hi hv => ?_⟩
  have hi' : i < l.length := by simpa using hi
  have := h3 i hi' hv
  simp only [List.getElem_map, Cla.cl]
  exact ⟨this.1, this.2.1, this.2.2.1⟩
/-- The first k clauses. -/
theorem IsClas.take {w : World} {l : List Cla} {a : Option Addr} {n c : Nat} (h : IsClas w l a n c) {k : Nat} (hk : k ≤ n) : IsClas w (l.take k) a k c := by
  have hn := h.len
  obtain ⟨vs, ⟨g1, g2, g3, g4⟩, h2, h3⟩ := h
  refine ⟨vs.take k, ⟨by simp; omega, by omega, g3, fun i hi => ?_⟩, by simp [h2], fun i hi hv => ?_⟩
  · have hi' : i < vs.length := by simp at hi; omega
    obtain ⟨b, off, e, hc⟩ := g4 i hi'
    refine ⟨b, off, e, fun j hj => ?_⟩
    simp only [List.getElem_take] at hj ⊢
    exact hc j hj
  · simp only [List.getElem_take]
    exact h3 i (by simp at hi; omega) (by simp at hv; omega)
/-- The k-th clause: its ten cells. -/
theorem IsClas.at {w : World} {l : List Cla} {a : Option Addr} {n c : Nat} (h : IsClas w l a n c) {k : Nat} (hk : k < l.length) : ∃ (b off : Nat) (v : ClV), a = some ⟨b, off, none⟩ ∧ IsCla w l[k] v ∧ RowAt w b (off + k * 10) v.cells := by
  obtain ⟨vs, h1, h2, h3⟩ := h
  have hk' : k < vs.length := by omega
  obtain ⟨b, off, e, hc⟩ := h1.2.2.2 k hk'
  exact ⟨b, off, vs[k], e, h3 k hk hk', hc⟩
theorem RowAt.ten {w : World} {b off : Nat} {v : ClV} (h : RowAt w b off v.cells) : w.cell? ⟨b, off, none⟩ = some (.int .i64 v.kind) ∧ w.cell? ⟨b, off + 1, none⟩ = some (.string v.name) ∧ w.cell? ⟨b, off + 2, none⟩ = some (.int .i64 v.x.op) ∧ w.cell? ⟨b, off + 3, none⟩ = some (.string v.x.name) ∧
    w.cell? ⟨b, off + 4, none⟩ = some (.slice v.x.aw v.x.nw v.x.cw) ∧ w.cell? ⟨b, off + 5, none⟩ = some (.int .i64 v.x.lo) ∧ w.cell? ⟨b, off + 6, none⟩ = some (.int .i64 v.x.hi) ∧ w.cell? ⟨b, off + 7, none⟩ = some (.slice v.x.aa v.x.na v.x.ca) ∧
    w.cell? ⟨b, off + 8, none⟩ = some (.slice v.au v.nu v.cu) ∧ w.cell? ⟨b, off + 9, none⟩ = some (.int .i64 v.amount) :=
  ⟨h 0 (by simp [ClV.len]), h 1 (by simp [ClV.len]), h 2 (by simp [ClV.len]), h 3 (by simp [ClV.len]), h 4 (by simp [ClV.len]), h 5 (by simp [ClV.len]), h 6 (by simp [ClV.len]), h 7 (by simp [ClV.len]), h 8 (by simp [ClV.len]), h 9 (by simp [ClV.len])⟩
theorem RowAt.eight {w : World} {b off : Nat} {v : WbV} (h : RowAt w b off v.cells) : w.cell? ⟨b, off, none⟩ = some (.string v.name) ∧ w.cell? ⟨b, off + 1, none⟩ = some (.int .i64 v.x.op) ∧ w.cell? ⟨b, off + 2, none⟩ = some (.string v.x.name) ∧
    w.cell? ⟨b, off + 3, none⟩ = some (.slice v.x.aw v.x.nw v.x.cw) ∧ w.cell? ⟨b, off + 4, none⟩ = some (.int .i64 v.x.lo) ∧ w.cell? ⟨b, off + 5, none⟩ = some (.int .i64 v.x.hi) ∧ w.cell? ⟨b, off + 6, none⟩ = some (.slice v.x.aa v.x.na v.x.ca) ∧ w.cell? ⟨b, off + 7, none⟩ = some (.slice v.au v.nu v.cu) :=
  ⟨h 0 (by simp [WbV.len]), h 1 (by simp [WbV.len]), h 2 (by simp [WbV.len]), h 3 (by simp [WbV.len]), h 4 (by simp [WbV.len]), h 5 (by simp [WbV.len]), h 6 (by simp [WbV.len]), h 7 (by simp [WbV.len])⟩
end Go.Proofs.YtfjlglefodndjaaGreatDoor
