/-
  Texts of the claim, joined: Level10, Gram, Tokens, Exs, Ref1, Ref2.
-/
import Derived.Test.YtfjlglefodndjaaBe07
import Derived.Test.YtfjlglefodndjaaBe03
namespace Go.Proofs.Ytfjlglefodndjaa
open Go.RowKit

end Go.Proofs.Ytfjlglefodndjaa

namespace Go.Proofs.Ytfjlglefodndjaa

mutual
def Ex.depth : Ex → Nat
  | .mk _ _ _ _ _ args => depths args + 1
def depths : List Ex → Nat
  | [] => 0
  | e :: r => max e.depth (depths r)
end
theorem Ex.depth_eq (e : Ex) : e.depth = depths e.args + 1 := by cases e; simp [Ex.depth, Ex.args]
theorem Ex.size_eq (e : Ex) : e.size = 1 + sizes e.args := by cases e; simp [Ex.size, Ex.args]
mutual
theorem Ex.depth_le : (e : Ex) → e.depth ≤ e.size
  | .mk _ _ _ _ _ args => by have := depths_le args; simp [Ex.depth, Ex.size]; omega
theorem depths_le : (l : List Ex) → depths l ≤ sizes l
  | [] => by simp [depths]
  | e :: r => by have := Ex.depth_le e; have := depths_le r; simp [depths, sizes]; omega
end
theorem depths_append (l m : List Ex) : depths (l ++ m) = max (depths l) (depths m) := by
  induction l with
  | nil => simp [depths]
  | cons e r ih => simp only [List.cons_append, depths, ih]; omega
theorem depths_take_succ (l : List Ex) (k : Nat) (hk : k < l.length) : depths (l.take (k + 1)) = max (depths (l.take k)) l[k].depth := by
  rw [List.take_succ_eq_append_getElem hk, depths_append]; simp [depths]
theorem depths_mem {l : List Ex} {e : Ex} (h : e ∈ l) : e.depth ≤ depths l := by
  induction l with
  | nil => simp at h
  | cons a r ih =>
    rcases List.mem_cons.1 h with rfl | h
    · simp only [depths]; omega
    · have := ih h; simp only [depths]; omega
theorem sizes_mem {l : List Ex} {e : Ex} (h : e ∈ l) : e.size ≤ sizes l := by
  induction l with
  | nil => simp at h
  | cons a r ih =>
    rcases List.mem_cons.1 h with rfl | h
    · simp [sizes]
    · have := ih h; simp [sizes]; omega

/-- An expression as a part: beyond the limits only its size and its depth. -/
def partOf (e : Ex) : Part := if 300 < e.size ∨ 16 < e.depth then ⟨ex0, e.size, e.depth⟩ else ⟨e, e.size, e.depth⟩
theorem partOf_size (e : Ex) : (partOf e).size = e.size := by unfold partOf; split <;> rfl
theorem partOf_depth (e : Ex) : (partOf e).depth = e.depth := by unfold partOf; split <;> rfl
theorem partOf_ex {e : Ex} (h1 : e.size ≤ 300) (h2 : e.depth ≤ 16) : (partOf e).ex = e := by unfold partOf; rw [if_neg (by omega)]
theorem sumSize_partOf (l : List Ex) : sumSize (l.map partOf) = sizes l := by
  induction l with
  | nil => simp [sumSize, sizes]
  | cons a r ih => simp [sumSize, sizes, ih, partOf_size]
theorem maxDepth_foldl (l : List Ex) : ∀ d, (l.map partOf).foldl (fun d p => max d p.depth) d = max d (depths l) := by
  induction l with
  | nil => intro d; simp [depths]
  | cons a r ih => intro d; simp only [List.map_cons, List.foldl_cons, depths, ih, partOf_depth]; omega
theorem maxDepth_partOf (l : List Ex) : maxDepth (l.map partOf) = depths l := by unfold maxDepth; rw [maxDepth_foldl]; omega
theorem map_partOf_ex {l : List Ex} (h1 : sizes l ≤ 300) (h2 : depths l ≤ 16) : (l.map partOf).map (·.ex) = l := by
  rw [List.map_map]
  have : ∀ e ∈ l, ((·.ex) ∘ partOf) e = id e := fun e he => by
    have h3 := sizes_mem he
    have h4 := depths_mem he
    exact partOf_ex (by omega) (by omega)
  rw [List.map_congr_left this]
  simp
theorem composedF_partOf (op : Int) (l : List Ex) : composedF op (l.map partOf) = partOf (.mk op ⟨#[]⟩ [] 0 0 l) := by
  have e1 : partOf (.mk op ⟨#[]⟩ [] 0 0 l) = if 300 < 1 + sizes l ∨ 16 < depths l + 1 then ⟨ex0, 1 + sizes l, depths l + 1⟩ else ⟨.mk op ⟨#[]⟩ [] 0 0 l, 1 + sizes l, depths l + 1⟩ := by
    by_cases h : 300 < 1 + sizes l ∨ 16 < depths l + 1
    · rw [partOf, if_pos (by simpa only [Ex.size, Ex.depth] using h), if_pos h]; simp only [Ex.size, Ex.depth]
    · rw [partOf, if_neg (by simpa only [Ex.size, Ex.depth] using h), if_neg h]; simp only [Ex.size, Ex.depth]
  rw [e1, composedF, sumSize_partOf, maxDepth_partOf]
  by_cases h : 300 < 1 + sizes l ∨ 16 < depths l + 1
  · rw [if_pos h, if_pos h]
  · rw [if_neg h, if_neg h, map_partOf_ex (by omega) (by omega)]
/-- The operator with all arguments, or the only one. -/
def joinE (op : Int) (l : List Ex) : Ex := match l with | [e] => e | l => .mk op ⟨#[]⟩ [] 0 0 l
theorem joinedF_partOf (op : Int) (l : List Ex) : joinedF op (l.map partOf) = partOf (joinE op l) := by
  match l with
  | [] => exact composedF_partOf op []
  | [e] => rfl
  | a :: b :: r => exact composedF_partOf op (a :: b :: r)
theorem itF_swap (n : Nat) (p : Part) : itF n (composedF 6 [p]) = itF (n + 1) p := by
  induction n with
  | zero => rfl
  | succ n ih => rw [itF, ih]; rfl

/-- What is read: atom, with negations, with and, with or. -/
inductive Lev where
  | atom | neg | ands | ors

def operandE (toks : List Tok) (k : Nat) : Ex × Int × Nat := ((operandF toks k).1.ex, (operandF toks k).2.1, (operandF toks k).2.2)

/-- The grammar: from the k-th token on, after the arguments acc, these are read: an expression, 0 and the index behind it, or an error and its index. -/
inductive Gr (toks : List Tok) : Lev → Nat → List Ex → Ex → Int → Nat → Prop
  | parenOk {k e k1} : acceptB toks k 4 ⟨#[40]⟩ = true → Gr toks .ors (k + 1) [] e 0 k1 → acceptB toks k1 4 ⟨#[41]⟩ = true → Gr toks .atom k [] e 0 (k1 + 1)
  | parenErr {k e er k1} : acceptB toks k 4 ⟨#[40]⟩ = true → Gr toks .ors (k + 1) [] e er k1 → er ≠ 0 → Gr toks .atom k [] ex0 er k1
  | parenNo {k e k1} : acceptB toks k 4 ⟨#[40]⟩ = true → Gr toks .ors (k + 1) [] e 0 k1 → acceptB toks k1 4 ⟨#[41]⟩ = false → Gr toks .atom k [] ex0 5 k1
  | operand {k} : acceptB toks k 4 ⟨#[40]⟩ = false → Gr toks .atom k [] (operandF toks k).1.ex (operandF toks k).2.1 (operandF toks k).2.2
  | notOk {k e k1} : acceptB toks k 1 wNot = true → Gr toks .neg (k + 1) [] e 0 k1 → Gr toks .neg k [] (.mk 6 ⟨#[]⟩ [] 0 0 [e]) 0 k1
  | notErr {k e er k1} : acceptB toks k 1 wNot = true → Gr toks .neg (k + 1) [] e er k1 → er ≠ 0 → Gr toks .neg k [] ex0 er k1
  | negAtom {k e er k1} : acceptB toks k 1 wNot = false → Gr toks .atom k [] e er k1 → Gr toks .neg k [] e er k1
  | andStep {k acc e k1 e2 er k2} : Gr toks .neg k [] e 0 k1 → acceptB toks k1 1 wAnd = true → Gr toks .ands (k1 + 1) (acc ++ [e]) e2 er k2 → Gr toks .ands k acc e2 er k2
  | andStop {k acc e k1} : Gr toks .neg k [] e 0 k1 → acceptB toks k1 1 wAnd = false → Gr toks .ands k acc (joinE 7 (acc ++ [e])) 0 k1
  | andErr {k acc e er k1} : Gr toks .neg k [] e er k1 → er ≠ 0 → Gr toks .ands k acc ex0 er k1
  | orStep {k acc e k1 e2 er k2} : Gr toks .ands k [] e 0 k1 → acceptB toks k1 1 wOr = true → Gr toks .ors (k1 + 1) (acc ++ [e]) e2 er k2 → Gr toks .ors k acc e2 er k2
  | orStop {k acc e k1} : Gr toks .ands k [] e 0 k1 → acceptB toks k1 1 wOr = false → Gr toks .ors k acc (joinE 8 (acc ++ [e])) 0 k1
  | orErr {k acc e er k1} : Gr toks .ands k [] e er k1 → er ≠ 0 → Gr toks .ors k acc ex0 er k1

def bd (tn : Nat) (m : Bool) (k : Nat) : Nat := if m then 2 * (tn - k) + 2 else 2 * (tn - k) + 1

theorem acceptB_lt {toks : List Tok} {k : Nat} {kind : Int} {text : ByteArray} (h : acceptB toks k kind text = true) : k < toks.length := by
  by_cases hlt : k < toks.length
  · exact hlt
  · rw [acceptB, List.getElem?_eq_none (by omega)] at h; cases h

theorem runF_fuel (toks : List Tok) : ∀ (f g : Nat) (m : Bool) (k : Nat) (li : List Lvl) (t : Lvl), bd toks.length m k ≤ f → bd toks.length m k ≤ g → runF toks toks.length f m k li t = runF toks toks.length g m k li t := by
  intro f
  induction f with
  | zero => intro g m k li t h; unfold bd at h; split at h <;> omega
  | succ f ih =>
    intro g m k li t hf hg
    obtain ⟨g, rfl⟩ : ∃ g', g = g' + 1 := ⟨g - 1, by unfold bd at hg; split at hg <;> omega⟩
    cases m with
    | true =>
      simp only [bd, if_true] at hf hg
      simp only [runF]
      split
      · rfl
      · have h1 := prefixF_ge toks (toks.length - k + 1) k li t
        have h2 := operandF_ge0 toks (prefixF toks (toks.length - k + 1) k li t).1
        refine ih g false _ _ _ ?_ ?_ <;> (simp only [bd, Bool.false_eq_true, if_false]; omega)
    | false =>
      simp only [bd, Bool.false_eq_true, if_false] at hf hg
      simp only [runF]
      split
      · rename_i h
        have := acceptB_lt h
        refine ih g true _ _ _ ?_ ?_ <;> (simp only [bd, if_true]; omega)
      · split
        · rename_i h
          have := acceptB_lt h
          refine ih g true _ _ _ ?_ ?_ <;> (simp only [bd, if_true]; omega)
        · split
          · rfl
          · split
            · rename_i h
              have := acceptB_lt h
              refine ih g false _ _ _ ?_ ?_ <;> (simp only [bd, Bool.false_eq_true, if_false]; omega)
            · rfl

/-- The run with enough steps. -/
def run (toks : List Tok) (m : Bool) (k : Nat) (li : List Lvl) (t : Lvl) : Part × Int × Nat := runF toks toks.length (bd toks.length m k) m k li t
theorem runF_run (toks : List Tok) {f : Nat} {m : Bool} {k : Nat} {li : List Lvl} {t : Lvl} (h : bd toks.length m k ≤ f) : runF toks toks.length f m k li t = run toks m k li t := runF_fuel toks _ _ _ _ _ _ h (Nat.le_refl _)

theorem runF_true (toks : List Tok) (tn f k : Nat) (li : List Lvl) (t : Lvl) : runF toks tn (f + 1) true k li t =
    if (operandF toks (prefixF toks (tn - k + 1) k li t).1).2.1 ≠ 0 then (⟨ex0, 0, 0⟩, (operandF toks (prefixF toks (tn - k + 1) k li t).1).2.1, (operandF toks (prefixF toks (tn - k + 1) k li t).1).2.2) else
    runF toks tn f false (operandF toks (prefixF toks (tn - k + 1) k li t).1).2.2 (prefixF toks (tn - k + 1) k li t).2.1 (withPart (prefixF toks (tn - k + 1) k li t).2.2 (operandF toks (prefixF toks (tn - k + 1) k li t).1).1) := by rw [runF]
/-- The run behind the prefix. -/
def runA (toks : List Tok) (a : Nat × List Lvl × Lvl) : Part × Int × Nat :=
  if (operandF toks a.1).2.1 ≠ 0 then (⟨ex0, 0, 0⟩, (operandF toks a.1).2.1, (operandF toks a.1).2.2) else run toks false (operandF toks a.1).2.2 a.2.1 (withPart a.2.2 (operandF toks a.1).1)
theorem run_true (toks : List Tok) (k : Nat) (li : List Lvl) (t : Lvl) : run toks true k li t = runA toks (prefixF toks (toks.length - k + 1) k li t) := by
  have h1 := prefixF_ge toks (toks.length - k + 1) k li t
  have h2 := operandF_ge0 toks (prefixF toks (toks.length - k + 1) k li t).1
  show runF toks toks.length (2 * (toks.length - k) + 1 + 1) true k li t = _
  rw [runF_true, runA]
  split
  · rfl
  · refine runF_run toks (m := false) ?_
    simp only [bd, Bool.false_eq_true, if_false]; omega
theorem run_not {toks : List Tok} {k : Nat} {li : List Lvl} {t : Lvl} (h : acceptB toks k 1 wNot = true) : run toks true k li t = run toks true (k + 1) li ⟨t.nots + 1, t.ands, t.ors⟩ := by
  have hk := acceptB_lt h
  rw [run_true, run_true, prefixF, if_pos h, show toks.length - (k + 1) + 1 = toks.length - k by omega]
theorem run_paren {toks : List Tok} {k : Nat} {li : List Lvl} {t : Lvl} (h0 : acceptB toks k 1 wNot = false) (h : acceptB toks k 4 ⟨#[40]⟩ = true) : run toks true k li t = run toks true (k + 1) (li ++ [t]) lvl0 := by
  have hk := acceptB_lt h
  rw [run_true, run_true, prefixF, if_neg (by simp [h0]), if_pos h, show toks.length - (k + 1) + 1 = toks.length - k by omega]
theorem run_operand {toks : List Tok} {k : Nat} {li : List Lvl} {t : Lvl} (h0 : acceptB toks k 1 wNot = false) (h : acceptB toks k 4 ⟨#[40]⟩ = false) : run toks true k li t = runA toks (k, li, t) := by
  rw [run_true, prefixF, if_neg (by simp [h0]), if_neg (by simp [h])]
theorem run_and {toks : List Tok} {k : Nat} {li : List Lvl} {t : Lvl} (h : acceptB toks k 1 wAnd = true) : run toks false k li t = run toks true (k + 1) li t := by
  have hk := acceptB_lt h
  show runF toks toks.length (2 * (toks.length - k) + 1) false k li t = _
  rw [runF, if_pos h]
  exact runF_run toks (by simp only [bd, if_true]; omega)

def contClose (toks : List Tok) (k : Nat) (li : List Lvl) (p : Part) : Part × Int × Nat := match li.getLast? with
  | none => (p, 0, k)
  | some t' => if acceptB toks k 4 ⟨#[41]⟩ = true then run toks false (k + 1) li.dropLast (withPart t' p) else (⟨ex0, 0, 0⟩, 5, k)
def contOr (toks : List Tok) (k : Nat) (li : List Lvl) (p : Part) (ors : List Part) : Part × Int × Nat :=
  if acceptB toks k 1 wOr = true then run toks true (k + 1) li ⟨0, [], ors ++ [p]⟩ else contClose toks k li (joinedF 8 (ors ++ [p]))
theorem run_or {toks : List Tok} {k : Nat} {li : List Lvl} {ands ors : List Part} (h : acceptB toks k 1 wAnd = false) : run toks false k li ⟨0, ands, ors⟩ = contOr toks k li (joinedF 7 ands) ors := by
  show runF toks toks.length (2 * (toks.length - k) + 1) false k li _ = _
  rw [runF, if_neg (by simp [h]), contOr]
  split
  · rename_i h2
    have hk := acceptB_lt h2
    exact runF_run toks (by simp only [bd, if_true]; omega)
  · rw [contClose]
    cases li.getLast? with
    | none => rfl
    | some t' =>
      simp only [wholeF]
      split
      · rename_i h2
        have hk := acceptB_lt h2
        exact runF_run toks (by simp only [bd, Bool.false_eq_true, if_false]; omega)
      · rfl

/-- What the grammar reads is what the parser's run comes to. -/
def Says (toks : List Tok) : Lev → Nat → List Ex → Ex → Int → Nat → Prop
  | .atom, k, _, e, er, k1 => acceptB toks k 1 wNot = false → ∀ li t, run toks true k li t = if er ≠ 0 then (⟨ex0, 0, 0⟩, er, k1) else run toks false k1 li (withPart t (partOf e))
  | .neg, k, _, e, er, k1 => ∀ li t, run toks true k li t = if er ≠ 0 then (⟨ex0, 0, 0⟩, er, k1) else run toks false k1 li (withPart t (partOf e))
  | .ands, k, acc, e, er, k1 => ∀ li ors, run toks true k li ⟨0, acc.map partOf, ors⟩ = if er ≠ 0 then (⟨ex0, 0, 0⟩, er, k1) else contOr toks k1 li (partOf e) ors
  | .ors, k, acc, e, er, k1 => ∀ li, run toks true k li ⟨0, [], acc.map partOf⟩ = if er ≠ 0 then (⟨ex0, 0, 0⟩, er, k1) else contClose toks k1 li (partOf e)

theorem acceptB_two {toks : List Tok} {k : Nat} {a b : Int} {s t : ByteArray} (h : acceptB toks k a s = true) (hab : a ≠ b) : acceptB toks k b t = false := by
  unfold acceptB at *
  cases hk : toks[k]? with
  | none => rfl
  | some x =>
    rw [hk] at h
    simp only [Bool.and_eq_true, beq_iff_eq] at h
    simp only [Bool.and_eq_false_iff]
    left
    simp [h.1, hab]

theorem partOf_operand {toks : List Tok} {k : Nat} (h : (operandF toks k).2.1 = 0) : partOf (operandF toks k).1.ex = (operandF toks k).1 := by
  have h2 := operandF_ok toks k h
  have h3 : (operandF toks k).1.ex.args = [] := by
    unfold operandF
    (repeat' split) <;> rfl
  have h4 := Ex.size_eq (operandF toks k).1.ex
  have h5 := Ex.depth_eq (operandF toks k).1.ex
  rw [h3] at h4 h5
  simp only [sizes, depths] at h4 h5
  unfold partOf
  rw [if_neg (by omega), h4, h5]
  generalize operandF toks k = R at *
  obtain ⟨⟨ex, s, d⟩, er, k1⟩ := R
  simp only at h2 ⊢
  rw [h2.1, h2.2.1]

theorem Gr.says {toks : List Tok} {s : Lev} {k : Nat} {acc : List Ex} {e : Ex} {er : Int} {k1 : Nat} (h : Gr toks s k acc e er k1) : Says toks s k acc e er k1 := by
  induction h with
  | parenOk h1 _ h2 ih =>
    intro h0 li t
    rw [run_paren h0 h1, show lvl0 = ⟨0, [], ([] : List Ex).map partOf⟩ from rfl, ih (li ++ [t])]
    simp [contClose, h2]
  | parenErr h1 _ h2 ih =>
    intro h0 li t
    rw [run_paren h0 h1, show lvl0 = ⟨0, [], ([] : List Ex).map partOf⟩ from rfl, ih (li ++ [t])]
    simp [h2]
  | parenNo h1 _ h2 ih =>
    intro h0 li t
    rw [run_paren h0 h1, show lvl0 = ⟨0, [], ([] : List Ex).map partOf⟩ from rfl, ih (li ++ [t])]
    simp [contClose, h2]
  | operand h1 =>
    intro h0 li t
    rw [run_operand h0 h1, runA]
    split
    · rfl
    · rename_i h
      rw [partOf_operand (by simpa using h)]
  | notOk h1 _ ih =>
    intro li t
    rw [run_not h1, ih]
    simp only [ne_eq, not_true_eq_false, if_false]
    rename_i e2 _ _
    have := composedF_partOf 6 [e2]
    simp only [withPart, ← this, List.map_cons, List.map_nil, itF_swap]
  | notErr h1 _ h2 ih =>
    intro li t
    rw [run_not h1, ih]
    simp [h2]
  | negAtom h1 _ ih => exact ih h1
  | andStep _ h2 _ ih1 ih2 =>
    intro li ors
    rw [ih1]
    simp only [ne_eq, not_true_eq_false, if_false, withPart, itF]
    rw [run_and h2]
    have := ih2 li ors
    simpa using this
  | andStop _ h2 ih =>
    intro li ors
    rw [ih]
    simp only [ne_eq, not_true_eq_false, if_false, withPart, itF]
    rw [run_or h2, ← joinedF_partOf]
    simp
  | andErr _ h2 ih =>
    intro li ors
    rw [ih]
    simp [h2]
  | orStep _ h2 _ ih1 ih2 =>
    intro li
    have := ih1 li
    rw [show ([] : List Part) = ([] : List Ex).map partOf from rfl, this]
    simp only [ne_eq, not_true_eq_false, if_false]
    rw [contOr, if_pos h2]
    have := ih2 li
    simpa using this
  | orStop _ h2 ih =>
    intro li
    have := ih li
    rw [show ([] : List Part) = ([] : List Ex).map partOf from rfl, this]
    simp only [ne_eq, not_true_eq_false, if_false]
    rw [contOr, if_neg (by simp [h2]), ← joinedF_partOf]
    simp
  | orErr _ h2 ih =>
    intro li
    have := ih li
    rw [show ([] : List Part) = ([] : List Ex).map partOf from rfl, this]
    simp [h2]

theorem Gr.run {toks : List Tok} {k : Nat} {e : Ex} {er : Int} {k1 : Nat} (h : Gr toks .ors k [] e er k1) : run toks true k [] lvl0 = if er ≠ 0 then (⟨ex0, 0, 0⟩, er, k1) else (partOf e, 0, k1) := by
  have := h.says []
  rw [show lvl0 = ⟨0, [], ([] : List Ex).map partOf⟩ from rfl, this]
  simp [contClose]
end Go.Proofs.Ytfjlglefodndjaa

namespace Go.Proofs.Ytfjlglefodndjaa
open Go.RowKit

/-- What Tokens hands back: the expression, the next index, the index of an error, the error. -/
def tokensF (toks : List Tok) (i : Int) : Ex × Int × Int × Int :=
  if i < 0 ∨ (toks.length : Int) < i then (ex0, 0, 0, 1) else
  if (run toks true i.toNat [] lvl0).2.1 ≠ 0 then (ex0, 0, (run toks true i.toNat [] lvl0).2.2, (run toks true i.toNat [] lvl0).2.1) else
  if 300 < (run toks true i.toNat [] lvl0).1.size ∨ 16 < (run toks true i.toNat [] lvl0).1.depth then (ex0, 0, i, 4) else
  ((run toks true i.toNat [] lvl0).1.ex, (run toks true i.toNat [] lvl0).2.2, 0, 0)
def TokensQ (R : Ex × Int × Int × Int) (M : List Nat) (w : World) (e : Ending) (w' : World) : Prop :=
  ∃ x : ExV, e = .returned (.tuple #[x.val, .int .i64 R.2.1, .int .i64 R.2.2.1, .int .i64 R.2.2.2]) ∧ IsEx (mask w' M) R.1 x.val ∧ Ext w w'

def exV0 : ExV := ⟨0, ⟨#[]⟩, none, 0, 0, 0, 0, none, 0, 0⟩
theorem tokensQ_err {R : Ex × Int × Int × Int} {M : List Nat} {a b c : Int} {w w' : World} (h : R = (ex0, a, b, c)) (hx : Ext w w') : TokensQ R M w (.returned (.tuple #[exV0.val, .int .i64 a, .int .i64 b, .int .i64 c])) w' := by
  subst h; exact ⟨exV0, rfl, isEx0 _, hx⟩

theorem Chg.sub {N : List Nat} {w w' : World} (h : Chg N w w') : Sub (mask w N) (mask w' N) := mask_sub_mask fun k hk hn => ⟨hn, h.block k hk hn⟩
theorem mask_less {M N : List Nat} (w : World) (h : ∀ y ∈ M, y ∈ N) : Sub (mask w N) (mask w M) := mask_sub_mask fun k _ hn => ⟨fun h' => hn (h k h'), rfl⟩
end Go.Proofs.Ytfjlglefodndjaa

namespace Go.Proofs.Ytfjlglefodndjaa
open Go.RowKit

def ExsR (w : World) (l : List Ex) (xs : List ExV) : Prop := l.length = xs.length ∧ ∀ i (h1 : i < l.length) (h2 : i < xs.length), IsEx w l[i] xs[i].val
theorem ExsR.mono {w w' : World} {l : List Ex} {xs : List ExV} (h : ExsR w l xs) (hs : Sub w w') : ExsR w' l xs := ⟨h.1, fun i h1 h2 => (h.2 i h1 h2).mono hs⟩
theorem ExsR.nil (w : World) : ExsR w [] [] := ⟨rfl, fun i h => by simp at h⟩
theorem ExsR.snoc {w : World} {l : List Ex} {xs : List ExV} {e : Ex} {x : ExV} (h : ExsR w l xs) (hx : IsEx w e x.val) : ExsR w (l ++ [e]) (xs ++ [x]) := by
  refine ⟨by simp [h.1], fun i h1 h2 => ?_⟩
  by_cases hi : i < l.length
  · have hi2 : i < xs.length := by rw [← h.1]; exact hi
    simp only [List.getElem_append_left hi, List.getElem_append_left hi2]
    exact h.2 i hi hi2
  · have e1 : i = l.length := by simp at h1; omega
    subst e1
    simp only [List.getElem_append_right (Nat.le_refl _), List.getElem_append_right (show xs.length ≤ l.length by rw [h.1]; exact Nat.le_refl _), Nat.sub_self, List.getElem_cons_zero]
    simpa [h.1] using hx
theorem exV_len (x : ExV) : x.cells.length = 6 := rfl

/-- Expressions in a row that the call owns. -/
theorem exs_owns {w : World} {M : List Nat} {base : Nat} {v : Value} {l : List Ex} {xs : List ExV} (h : w.ownsRow base 33 6 v l.length (xs.flatMap ExV.cells)) (hM : ∀ k, v.ownBlock = some k → k ∉ M) (hR : ExsR (mask w M) l xs) :
    ∃ a c, v = .slice a l.length c ∧ l.length ≤ c ∧ OkAddr a c ∧ ExsD (mask w M) l a := by
  rw [hR.1] at h
  obtain ⟨a, c, rfl, hr⟩ := IsRows.of_owns exV_len h
  refine ⟨a, c, by rw [hR.1], by rw [hR.1]; exact hr.2.1, hr.2.2.1, ?_⟩
  match l, hR with
  | [], _ => unfold ExsD; trivial
  | e :: r, hR =>
    obtain ⟨b, off, rfl, h1⟩ := hr.2.2.2 0 (by rw [← hR.1]; simp)
    refine ExsD.of (e :: r) off xs hR.1 fun i h3 h4 => ⟨fun j hj => ?_, hR.2 i h3 h4⟩
    obtain ⟨b', off', e1, h5⟩ := hr.2.2.2 i h4
    simp only [Option.some.injEq, Addr.mk.injEq, and_true] at e1
    obtain ⟨rfl, rfl⟩ := e1
    rw [mask_cell, if_neg (hM _ rfl), h5 j (by rw [exV_len]; exact hj), List.getElem?_eq_getElem (by rw [exV_len]; exact hj)]

/-- One expression in a block of its own. -/
theorem exs_one {w : World} {M : List Nat} {g : Nat} {e : Ex} {x : ExV} {t : TypeId} (h : w.heap[g]? = some (.cells x.cells.toArray t (0, 0))) (hM : g ∉ M) (hx : IsEx (mask w M) e x.val) : ExsD (mask w M) [e] (some ⟨g, 0, none⟩) := by
  refine ExsD.of [e] 0 [x] rfl fun i h1 h2 => ?_
  obtain rfl : i = 0 := by simp at h1; exact h1
  refine ⟨fun j hj => ?_, hx⟩
  rw [mask_cell, if_neg hM, blk_cell h]
  simp
theorem isEx_not {w : World} {M : List Nat} {g : Nat} {e : Ex} {x : ExV} {t : TypeId} (h : w.heap[g]? = some (.cells x.cells.toArray t (0, 0))) (hM : g ∉ M) (hx : IsEx (mask w M) e x.val) :
    IsEx (mask w M) (.mk 6 ⟨#[]⟩ [] 0 0 [e]) (exV 6 ⟨#[]⟩ none 0 0 0 0 (some ⟨g, 0, none⟩) 1 1) :=
  IsEx.mk ⟨rfl, by omega, Or.inl ⟨rfl, rfl⟩, fun i hi => by simp at hi⟩ rfl (by simp) (Or.inr ⟨g, 0, rfl⟩) (exs_one h hM hx)
/-- An expression is stored into a box. -/
def put6 (w : World) (B : Nat) (x : ExV) : World := (((((w.setCell ⟨B, 0, none⟩ (.int .i64 x.op)).setCell ⟨B, 1, none⟩ (.string x.name)).setCell ⟨B, 2, none⟩ (.slice x.aw x.nw x.cw)).setCell ⟨B, 3, none⟩ (.int .i64 x.lo)).setCell ⟨B, 4, none⟩ (.int .i64 x.hi)).setCell ⟨B, 5, none⟩ (.slice x.aa x.na x.ca)
theorem put6_blk {w : World} {B : Nat} {y : ExV} {t : TypeId} (h : w.heap[B]? = some (.cells y.cells.toArray t (0, 0))) (x : ExV) : (put6 w B x).heap[B]? = some (.cells x.cells.toArray t (0, 0)) := by
  unfold put6
  rw [heap_setCell_same _ _ _ _ _ _ (heap_setCell_same _ _ _ _ _ _ (heap_setCell_same _ _ _ _ _ _ (heap_setCell_same _ _ _ _ _ _ (heap_setCell_same _ _ _ _ _ _ (heap_setCell_same _ _ _ _ _ _ h)))))]
  rfl
theorem put6_chg (w : World) (B : Nat) (x : ExV) {N : List Nat} (h : B ∈ N) : Chg N w (put6 w B x) := by
  unfold put6
  repeat (with_reducible (refine Chg.setCell ?_ ?_ _))
  exact Chg.refl _ _
  all_goals exact Or.inl h
theorem put6_size (w : World) (B : Nat) (x : ExV) : (put6 w B x).heap.size = w.heap.size := by simp [put6]
end Go.Proofs.Ytfjlglefodndjaa

namespace Go.Proofs.Ytfjlglefodndjaa
open Go.RowKit

theorem rletter_calls (c : Int) (w : World) : Calls Try.prog 92 #[.int .u8 c] w (Gives (.bool (letterB c)) w) := by
  go_enter Try.func92, Try.ntmps92
  go_wp2_with fail
  all_goals (go_ret; exact gives_bool (by simp [letterB]; omega))
theorem rdigit_calls (c : Int) (w : World) : Calls Try.prog 93 #[.int .u8 c] w (Gives (.bool (digitB c)) w) := by
  go_enter Try.func93, Try.ntmps93
  go_wp2_with fail
  all_goals (go_ret; exact gives_bool (by simp [digitB]; omega))
theorem far_calls (n : Int) (w : World) : Calls Try.prog 81 #[.int .i64 n] w (Gives (.bool (!numberB n)) w) := by
  go_enter Try.func81, Try.ntmps81
  go_wp2_with fail
  all_goals (go_ret; exact gives_bool (by rw [Bool.eq_iff_iff]; simp [numberB]; omega))
set_option maxHeartbeats 1000000 in
theorem rreserved_calls (s : ByteArray) (w : World) : Calls Try.prog 78 #[.string s] w (Gives (.bool (reservedB s)) w) := by
  go_enter Try.func78, Try.ntmps78
  go_wp2_with fail
  all_goals (go_ret; exact gives_bool (by simp_all [reservedB, reservedWords]))

theorem spanF_every (p : Int → Bool) (s : ByteArray) : ∀ (m k : Nat), s.size - k = m → k ≤ s.size → (spanF p s (s.size - k) k = s.size ↔ ∀ j (h : j < s.size), k ≤ j → p (s[j].toNat : Int) = true) := by
  intro m
  induction m with
  | zero =>
    intro k hm hk
    rw [spanF_end (by omega)]
    exact ⟨fun _ j h hj => by omega, fun _ => by omega⟩
  | succ m ih =>
    intro k hm hk
    have hlt : k < s.size := by omega
    cases hp : p (s[k].toNat : Int)
    · rw [spanF_stop hlt hp]
      exact ⟨fun h => by omega, fun h => by rw [h k hlt (Nat.le_refl _)] at hp; cases hp⟩
    · rw [spanF_step hlt hp, ih (k + 1) (by omega) (by omega)]
      refine ⟨fun h j hj hkj => ?_, fun h j hj hkj => h j hj (by omega)⟩
      by_cases e : j = k
      · subst e; exact hp
      · exact h j hj (by omega)
theorem wordB_of {s : ByteArray} (h0 : s.size ≠ 0) (h1 : s.size ≤ 16) (h2 : letterB (byteAt s 0) = true) (h3 : byteAt s (s.size - 1) ≠ 45) (h : ∀ j (hj : j < s.size), inWordB (s[j].toNat : Int) = true) : wordB s = true := by
  have := (spanF_every inWordB s _ 0 rfl (by omega)).2 (fun j hj _ => h j hj)
  rw [Nat.sub_zero] at this
  simp [wordB, h0, h1, h2, h3, this]
theorem wordB_no {s : ByteArray} {j : Nat} (hj : j < s.size) (h : inWordB (s[j].toNat : Int) = false) : wordB s = false := by
  cases hb : wordB s
  · rfl
  simp only [wordB, Bool.and_eq_true, beq_iff_eq] at hb
  have := (spanF_every inWordB s _ 0 rfl (by omega)).1 (by rw [Nat.sub_zero]; exact hb.2) j hj (by omega)
  rw [h] at this; cases this

set_option maxRecDepth 100000 in
set_option maxHeartbeats 1000000 in
theorem rword_calls (s : ByteArray) (w : World) (hs : s.size ≤ 1000000000000000) : Calls Try.prog 77 #[.string s] w (Gives (.bool (wordB s)) w) := by
  by_cases h0 : s.size = 0
  · have H := Lib.hid (show wordB s = false by simp [wordB, h0])
    have hz : decide ((s.size : Int) < 1) = true := by simp [h0]
    clear h0
    go_enter Try.func77, Try.ntmps77
    go_wp2_with fail
    go_ret
    exact gives_bool (by rw [H.out])
  have hz : decide ((s.size : Int) < 1) = false := by simp; omega
  by_cases h1 : s.size ≤ 16
  · have hb0 := byteAt_lt (show 0 < s.size by omega)
    have hb1 := byteAt_lt (show s.size - 1 < s.size by omega)
    have hz2 : decide ((16 : Int) < s.size) = false := by simp; omega
    cases h2 : letterB (s[0]'(by omega)).toNat
    · have H := Lib.hid (show wordB s = false by simp [wordB, hb0, h2])
      have H2 := Lib.hid h2
      clear h2 hb0 hb1
      go_enter Try.func77, Try.ntmps77
      go_wp2_with fail
      refine (rletter_calls _ _).mono ?_
      rintro e w' ⟨rfl, rfl⟩
      rw [H2.out]
      go_wp2_with fail
      go_ret
      exact gives_bool (by rw [H.out])
    · have H2 := Lib.hid h2
      have HB0 := Lib.hid hb0
      have HB1 := Lib.hid hb1
      clear h2 hb0 hb1
      have e1 : ((s.size : Int) - 1).toNat = s.size - 1 := by omega
      cases h3 : ((s[s.size - 1]'(by omega)).toNat : Int) == 45
      · have HY := Lib.hid (show (∀ j (hj : j < s.size), inWordB (s[j].toNat : Int) = true) → wordB s = true from fun h => wordB_of h0 h1 (by rw [HB0.out]; exact H2.out) (by rw [HB1.out]; simpa using h3) h)
        go_enter Try.func77, Try.ntmps77
        go_wp2_with fail
        refine (rletter_calls _ _).mono ?_
        rintro e w' ⟨rfl, rfl⟩
        rw [H2.out]
        go_wp2_with fail
        go_loop [3] (fun i => ∃ k : Nat, i = .int .i64 k ∧ k ≤ s.size ∧ ∀ j (hj : j < s.size), j < k → inWordB (s[j].toNat : Int) = true) (fun i => s.size - (intOf i).toNat)
        case atStart => exact ⟨0, rfl, by omega, fun j _ h => by omega⟩
        case round =>
          obtain ⟨k, rfl, hk, hall⟩ := hrel
          have HA := Lib.hid hall
          clear hall
          by_cases hlt : k < s.size
          · have HN := Lib.hid (fun h => wordB_no (s := s) hlt h)
            cases h4 : letterB (s[k].toNat : Int)
            · cases h5 : digitB (s[k].toNat : Int)
              · cases h6 : ((s[k].toNat : Int) == 45)
                · have H := Lib.hid (HN.out (by simp [inWordB, h4, h5, h6]))
                  have h6' : ((s[k].toNat : Int) != 45) = true := by simpa using h6
                  have H4 := Lib.hid h4
                  have H5 := Lib.hid h5
                  clear h4 h5
                  go_wp2_with fail
                  refine (rletter_calls _ _).mono ?_
                  rintro e w' ⟨rfl, rfl⟩
                  rw [H4.out]
                  go_wp2_with fail
                  refine (rdigit_calls _ _).mono ?_
                  rintro e w' ⟨rfl, rfl⟩
                  rw [H5.out]
                  go_wp2_with fail
                  go_ret
                  exact gives_bool (by rw [H.out])
                · have H := Lib.hid (show inWordB (s[k].toNat : Int) = true by simp [inWordB, h4, h5, h6])
                  have h6' : ((s[k].toNat : Int) != 45) = false := by simpa using h6
                  have H4 := Lib.hid h4
                  have H5 := Lib.hid h5
                  clear h4 h5
                  go_wp2_with fail
                  refine (rletter_calls _ _).mono ?_
                  rintro e w' ⟨rfl, rfl⟩
                  rw [H4.out]
                  go_wp2_with fail
                  refine (rdigit_calls _ _).mono ?_
                  rintro e w' ⟨rfl, rfl⟩
                  rw [H5.out]
                  go_wp2_with fail
                  go_round
                  case rel => exact ⟨k + 1, by go_num, by omega, fun j hj hjk => by
                    by_cases e : j = k
                    · subst e; exact H.out
                    · exact HA.out j hj (by omega)⟩
                  case measure => simp [intOf]; omega
              · have H := Lib.hid (show inWordB (s[k].toNat : Int) = true by simp [inWordB, h4, h5])
                have H4 := Lib.hid h4
                have H5 := Lib.hid h5
                clear h4 h5
                go_wp2_with fail
                refine (rletter_calls _ _).mono ?_
                rintro e w' ⟨rfl, rfl⟩
                rw [H4.out]
                go_wp2_with fail
                refine (rdigit_calls _ _).mono ?_
                rintro e w' ⟨rfl, rfl⟩
                rw [H5.out]
                go_wp2_with fail
                go_round
                case rel => exact ⟨k + 1, by go_num, by omega, fun j hj hjk => by
                  by_cases e : j = k
                  · subst e; exact H.out
                  · exact HA.out j hj (by omega)⟩
                case measure => simp [intOf]; omega
            · have H := Lib.hid (show inWordB (s[k].toNat : Int) = true by simp [inWordB, h4])
              have H4 := Lib.hid h4
              clear h4
              go_wp2_with fail
              refine (rletter_calls _ _).mono ?_
              rintro e w' ⟨rfl, rfl⟩
              rw [H4.out]
              go_wp2_with fail
              go_round
              case rel => exact ⟨k + 1, by go_num, by omega, fun j hj hjk => by
                by_cases e : j = k
                · subst e; exact H.out
                · exact HA.out j hj (by omega)⟩
              case measure => simp [intOf]; omega
          · go_wp2_with fail
            go_ret
            exact gives_bool (by rw [HY.out (fun j hj => HA.out j hj (by omega))])
      · have H := Lib.hid (show wordB s = false by simp [wordB, HB0.out, HB1.out, H2.out, h1, h0]; intro h; simp at h3; omega)
        go_enter Try.func77, Try.ntmps77
        go_wp2_with fail
        refine (rletter_calls _ _).mono ?_
        rintro e w' ⟨rfl, rfl⟩
        rw [H2.out]
        go_wp2_with fail
        go_ret
        exact gives_bool (by rw [H.out])
  · have H := Lib.hid (show wordB s = false by simp [wordB]; omega)
    have hz2 : decide ((16 : Int) < s.size) = true := by simp; omega
    go_enter Try.func77, Try.ntmps77
    go_wp2_with fail
    go_ret
    exact gives_bool (by rw [H.out])
theorem rname_calls (s : ByteArray) (w : World) (hs : s.size ≤ 1000000000000000) : Calls Try.prog 60 #[.string s] w (Gives (.bool (nameB s)) w) := by
  go_enter Try.func60, Try.ntmps60
  go_wp2_with (first
    | (go_at_call 77; refine (rword_calls _ _ hs).mono ?_; rintro e w' ⟨rfl, rfl⟩)
    | (go_at_call 78; refine (rreserved_calls _ _).mono ?_; rintro e w' ⟨rfl, rfl⟩))
  all_goals (go_ret; exact gives_bool (by simp_all [nameB]))

set_option maxRecDepth 100000 in
theorem names_calls (l : List ByteArray) (a : Option Addr) (n c : Nat) (w : World) (hl : IsStrs w l a n c) (hn : n ≤ 1000000000000000) (hsz : ∀ x ∈ l, x.size ≤ 1000000000000000) :
    Calls Try.prog 79 #[.slice a n c] w (Gives (.bool (l.all nameB)) w) := by
  have HL := Lib.hid hl
  have HZ := Lib.hid hsz
  have hnl := Lib.hid hl.1
  clear hl hsz
  go_enter Try.func79, Try.ntmps79
  go_wp2_with fail
  go_loop [3] (fun t => ∃ k : Nat, t = .int .i64 k ∧ k ≤ n ∧ ∀ j (hj : j < l.length), j < k → nameB l[j] = true) (fun t => n - (intOf t).toNat)
  case atStart => exact ⟨0, rfl, by omega, fun j _ h => by omega⟩
  case round =>
    obtain ⟨k, rfl, hk, hlo⟩ := hrel
    have HO := Lib.hid hlo
    clear hlo
    by_cases hlt : k < n
    · have hlt' : k < l.length := by have := hnl.out; omega
      have hsk := HZ.out _ (List.getElem_mem hlt')
      obtain ⟨b, off, rfl, hcell⟩ := HL.out.2.2.2 k hlt'
      cases h3 : nameB l[k]
      · have H := Lib.hid (show l.all nameB = false by
          rw [List.all_eq_false]; exact ⟨l[k], List.getElem_mem hlt', by simp [h3]⟩)
        have H3 := Lib.hid h3
        clear h3
        go_wp2_with fail
        refine (rname_calls _ _ hsk).mono ?_
        rintro e w' ⟨rfl, rfl⟩
        rw [H3.out]
        go_wp2_with fail
        go_ret
        exact gives_bool (by rw [H.out])
      · have H3 := Lib.hid h3
        clear h3
        go_wp2_with fail
        refine (rname_calls _ _ hsk).mono ?_
        rintro e w' ⟨rfl, rfl⟩
        rw [H3.out]
        go_wp2_with fail
        go_round
        case rel => exact ⟨k + 1, by go_num, by omega, fun j hj hjk => by
          by_cases e : j = k
          · subst e; exact H3.out
          · exact HO.out j hj (by omega)⟩
        case measure => simp [intOf]; omega
    · go_wp2_with fail
      go_ret
      exact gives_bool (by
        symm
        rw [List.all_eq_true]
        intro x hx
        obtain ⟨j, hj, rfl⟩ := List.getElem_of_mem hx
        exact HO.out j hj (by have := hnl.out; omega))

theorem nodup_of {l : List ByteArray} {n : Nat} (hn : n = l.length) (h : ∀ i j (hi : i < l.length) (hj : j < l.length), i < n → j < i → l[i] ≠ l[j]) : l.Nodup := by
  rw [List.Nodup, List.pairwise_iff_getElem]
  intro i j hi hj hij e
  exact h j i hj hi (by omega) hij e.symm

/-- A value is handed back; memory is as it was. -/
def GivesD (v : Value) (w : World) (e : Ending) (w' : World) : Prop := e = .returned v ∧ ∃ n, w' = w.drewN n
theorem drewN_drewN (w : World) (a b : Nat) : (w.drewN a).drewN b = w.drewN (a + b) := by simp [World.drewN, Nat.add_assoc]
theorem givesD_bool {a b : Bool} {w w' : World} (h : a = b) (hx : ∃ n, w' = w.drewN n) : GivesD (.bool b) w (.returned (.bool a)) w' := by subst h; exact ⟨rfl, hx⟩
set_option maxRecDepth 100000 in
set_option maxHeartbeats 1000000 in
theorem distinct_calls (l : List ByteArray) (a : Option Addr) (n c : Nat) (w : World) (hl : IsStrs w l a n c) (hn : n ≤ 1000000000000000) :
    Calls Try.prog 80 #[.slice a n c] w (GivesD (.bool (decide l.Nodup)) w) := by
  have HL := Lib.hid hl
  have hnl := Lib.hid hl.1
  clear hl
  go_enter Try.func80, Try.ntmps80
  go_wp2_with fail
  go_loopw [3, 4] (fun t _ wr => ∃ k : Nat, t = .int .i64 k ∧ k ≤ n ∧ (∀ i j (hi : i < l.length) (hj : j < l.length), i < k → j < i → l[i] ≠ l[j]) ∧ ∃ q, wr = w.drewN q) (fun t _ _ => n - (intOf t).toNat)
  case atStart => exact ⟨0, rfl, by omega, fun i j _ _ h => by omega, 0, rfl⟩
  case round =>
    obtain ⟨k, rfl, hk, hlo, q, rfl⟩ := hrel
    have HO := Lib.hid hlo
    clear hlo
    by_cases hlt : k < n
    · have hlt' : k < l.length := by have := hnl.out; omega
      go_wp2_with fail
      go_loopw [4] (fun t wr2 => ∃ m : Nat, t = .int .i64 m ∧ m ≤ k ∧ (∀ j (hj : j < l.length), j < m → l[k] ≠ l[j]) ∧ ∃ q, wr2 = w.drewN q) (fun t _ => k - (intOf t).toNat)
      case atStart => exact ⟨0, rfl, by omega, fun j _ h => by omega, q, rfl⟩
      case round =>
        obtain ⟨m, rfl, hm, hne, q2, rfl⟩ := hrel
        have HE := Lib.hid hne
        clear hne
        by_cases hmk : m < k
        · have hmk' : m < l.length := by omega
          obtain ⟨b, off, rfl, hc1⟩ := HL.out.2.2.2 k hlt'
          obtain ⟨b', off', e, hc2⟩ := HL.out.2.2.2 m hmk'
          simp only [Option.some.injEq, Addr.mk.injEq, and_true] at e
          obtain ⟨rfl, rfl⟩ := e
          have ti0 : (0 : Int) ≤ (k : Int) := by omega
          have ti1 : (k : Int) < (n : Int) := by omega
          have tj0 : (0 : Int) ≤ (m : Int) := by omega
          have tj1 : (m : Int) < (n : Int) := by omega
          cases he : (l[k].toList == l[m].toList)
          · have HQ := Lib.hid he
            go_wp2_with fail
            go_quiet (fail)
            go_wp2_with fail
            go_roundw
            case rel =>
              refine ⟨m + 1, by go_num, by omega, fun j hj hjm => ?_, _, rfl⟩
              by_cases e : j = m
              · subst e; intro h; have := HQ.out; rw [h] at this; simp at this
              · exact HE.out j hj (by omega)
            case measure => simp [intOf]; omega
          · have H := Lib.hid (show decide l.Nodup = false by
              rw [decide_eq_false_iff_not]
              intro hnd
              have h1 := toList_inj (beq_iff_eq.1 he)
              rw [List.Nodup, List.pairwise_iff_getElem] at hnd
              exact hnd m k hmk' hlt' hmk h1.symm)
            go_wp2_with fail
            go_quiet (fail)
            go_wp2_with fail
            go_ret
            exact givesD_bool (by rw [H.out]) ⟨_, drewN_drewN _ _ _⟩
        · go_wp2_with fail
          go_roundw
          case rel =>
            refine ⟨k + 1, by go_num, by omega, fun i j hi hj hik hji => ?_, q2, rfl⟩
            by_cases e : i = k
            · subst e; exact HE.out j hj (by omega)
            · exact HO.out i j hi hj (by omega) hji
          case measure => simp [intOf]; omega
    · go_wp2_with fail
      go_ret
      exact givesD_bool (by
        symm
        rw [decide_eq_true_eq]
        exact nodup_of hnl.out (fun i j hi hj hin hji => HO.out i j hi hj (by omega) hji)) ⟨q, rfl⟩
end Go.Proofs.Ytfjlglefodndjaa

namespace Go.Proofs.Ytfjlglefodndjaa
open Go.RowKit

theorem size_pos (e : Ex) : 1 ≤ e.size := by rw [e.size_eq]; omega

/-- Size of the reference: at most 301. -/
def refSize (e : Ex) : Nat := min e.size 301
def refSizes : List Ex → Nat
  | [] => 0
  | e :: r => refSize e + refSizes r
theorem refSizes_le (l : List Ex) : refSizes l ≤ sizes l ∧ l.length ≤ refSizes l ∧ min (1 + refSizes l) 301 = min (1 + sizes l) 301 := by
  induction l with
  | nil => simp [refSizes, sizes]
  | cons e r ih => have := size_pos e; simp only [refSizes, sizes, refSize, List.length_cons]; omega
theorem refSizes_take_succ (l : List Ex) (k : Nat) (hk : k < l.length) : refSizes (l.take (k + 1)) = refSizes (l.take k) + refSize l[k] := by
  induction l generalizing k with
  | nil => simp at hk
  | cons e r ih =>
    cases k with
    | zero => simp [refSizes]
    | succ k => have := ih k (by simpa using hk); simp only [List.take_succ_cons, refSizes, this, List.getElem_cons_succ]; omega
theorem refSize_of {e : Ex} {k : Nat} (hs : k = e.args.length ∨ 300 < 1 + refSizes (e.args.take k)) : min (1 + refSizes (e.args.take k)) 301 = refSize e := by
  have h1 := e.size_eq
  have h2 := refSizes_le (e.args.take k)
  have h3 := sizes_take_le e.args k
  have h4 := refSizes_le e.args
  unfold refSize
  rcases hs with hs | hs
  · rw [hs, List.take_length]; omega
  · omega

set_option maxRecDepth 100000 in
set_option maxHeartbeats 1000000 in
theorem rsize_calls (m : Nat) : ∀ (e : Ex) (v : Value) (w : World), e.size ≤ m → IsEx w e v → Calls Try.prog 83 #[v] w (GivesE (.int .i64 (refSize e)) w) := by
  induction m with
  | zero => intro e v w h; have := size_pos e; omega
  | succ m ih =>
    intro e v w hm he
    obtain ⟨aw, nw, cw, aa, na, ca, rfl, hw, hna, hca, ha, hx⟩ := he.parts
    have HX := Lib.hid hx
    have HN := Lib.hid hna
    have hS : e.size = 1 + sizes e.args := e.size_eq
    have hb2 : sizes e.args ≤ m := by omega
    have H : Hid (∀ (e : Ex) (v : Value) (w : World), e.size ≤ m → IsEx w e v → Calls Try.prog 83 #[v] w (GivesE (.int .i64 (refSize e)) w)) := ih
    clear ih hx hna hw hca ha he hS hm
    unfold exV
    go_enter Try.func83, Try.ntmps83
    go_wp2_with fail
    go_loopw [3, 4] (fun s i wr => ∃ k : Nat, k ≤ na ∧ i = .int .i64 k ∧ s = .int .i64 (1 + (refSizes (e.args.take k) : Int)) ∧ refSizes (e.args.take k) ≤ 601 ∧ wr.heap[w.heap.size]? = some (.cells #[.int .i64 e.op, .string e.name, .slice aw nw cw, .int .i64 e.lo, .int .i64 e.hi, .slice aa na ca] 33 (0, 0)) ∧ Ext w wr) (fun _ i _ => na - (intOf i).toNat)
    case atStart => exact ⟨0, by omega, rfl, by simp [refSizes], by simp [refSizes], alloc_new w _, (Ext.refl w).alloc _⟩
    case round =>
      obtain ⟨k, hk, rfl, rfl, hb6, hbx, hb⟩ := hrel
      have HBX := Lib.hid hbx
      have HB := Lib.hid hb
      have hlt0 := blk_lt hbx
      obtain ⟨b0, b1, b2, b3, b4, b5, bf⟩ := blk6 hbx
      have hkl : k ≤ refSizes (e.args.take k) := by have := (refSizes_le (e.args.take k)).2.1; have hl := HN.out; rw [List.length_take] at this; omega
      clear hbx hb
      by_cases hlt : k < na
      · have hlt' : k < e.args.length := by have := HN.out; omega
        by_cases hc : refSizes (e.args.take k) ≤ 299
        · have t1 : decide ((k : Int) < (na : Int)) = true := by simp; omega
          have t2 : decide (1 + (refSizes (e.args.take k) : Int) ≤ 300) = true := by simp; omega
          obtain ⟨b, off, rfl, aw1, nw1, cw1, aa1, na1, ca1, h0, h1, h2, h3, h4, h5, h6⟩ := ExsD.at e.args _ (ExsD.ext HB.out e.args _ HX.out) k hlt'
          have H6 := Lib.hid h6
          have hs1 := Lib.hid (refSizes_take_succ e.args k hlt')
          have hsz := sizes_take_succ e.args k hlt'
          have hsl := sizes_take_le e.args (k + 1)
          have hk1 : e.args[k].size ≤ m := by omega
          have hr : refSize e.args[k] ≤ 301 := by unfold refSize; omega
          clear h6 hsz hsl
          go_wp2_with fail
          refine (H.out e.args[k] _ _ hk1 H6.out).mono ?_
          rintro r w1 ⟨rfl, hb1⟩
          have HE1 := Lib.hid hb1
          clear b0 b1 b2 b3 b4 b5 bf hb1
          go_wp2_with fail
          go_roundw
          case rel => exact ⟨k + 1, by omega, by go_num, by rw [hs1.out]; go_num, by rw [hs1.out]; omega, HE1.out.blk HBX.out, HB.out.trans HE1.out⟩
          case measure => simp [intOf]; omega
        · have t1 : decide ((k : Int) < (na : Int)) = true := by simp; omega
          have t2 : decide (1 + (refSizes (e.args.take k) : Int) ≤ 300) = false := by simp; omega
          have H1 := Lib.hid (refSize_of (e := e) (k := k) (Or.inr (by omega)))
          go_wp2_with fail
          all_goals (go_ret; exact givesE_int (by rw [← H1.out]; omega) HB.out)
      · have t1 : decide ((k : Int) < (na : Int)) = false := by simp; omega
        have H1 := Lib.hid (refSize_of (e := e) (k := k) (Or.inl (by have := HN.out; omega)))
        go_wp2_with fail
        all_goals (go_ret; exact givesE_int (by rw [← H1.out]; omega) HB.out)
set_option maxRecDepth 100000 in
set_option maxHeartbeats 1000000 in
theorem deeper_calls (m : Nat) : ∀ (e : Ex) (v : Value) (w : World) (n : Nat), e.size ≤ m → m ≤ 1000000000000000 → n ≤ 1000 → IsEx w e v → Calls Try.prog 82 #[v, .int .i64 n] w (GivesE (.bool (decide (n < e.depth))) w) := by
  induction m with
  | zero => intro e v w n h; have := size_pos e; omega
  | succ m ih =>
    intro e v w n hm hMM hn he
    obtain ⟨aw, nw, cw, aa, na, ca, rfl, hw, hna, hca, ha, hx⟩ := he.parts
    have HX := Lib.hid hx
    have HN := Lib.hid hna
    have HD := Lib.hid e.depth_eq
    have hS : e.size = 1 + sizes e.args := e.size_eq
    have hb2 : sizes e.args ≤ m := by omega
    have hla := length_le_sizes e.args
    have H : Hid (∀ (e : Ex) (v : Value) (w : World) (n : Nat), e.size ≤ m → n ≤ 1000 → IsEx w e v → Calls Try.prog 82 #[v, .int .i64 n] w (GivesE (.bool (decide (n < e.depth))) w)) := fun e v w n h1 h2 h3 => ih e v w n h1 (by omega) h2 h3
    clear ih hx hna hw hca ha he hS hm
    unfold exV
    by_cases hn0 : n = 0
    · have t1 : ((n : Int) == 0) = true := by simp [hn0]
      have H1 := Lib.hid (show decide (n < e.depth) = true by rw [decide_eq_true_eq, HD.out]; omega)
      generalize decide (n < e.depth) = B at *
      go_enter Try.func82, Try.ntmps82
      go_wp2_with fail
      go_ret
      exact givesE_bool (by rw [H1.out]) ((Ext.refl w).alloc _)
    · have hn1 : 1 ≤ n := by omega
      have t1 : ((n : Int) == 0) = false := by simp; omega
      obtain ⟨B, hB⟩ : ∃ B, B = decide (n < e.depth) := ⟨_, rfl⟩
      rw [← hB]
      have HBQ := Lib.hid hB
      clear hB
      go_enter Try.func82, Try.ntmps82
      go_wp2_with fail
      go_loopw [5] (fun i wr => ∃ k : Nat, k ≤ na ∧ i = .int .i64 k ∧ (∀ j (hj : j < e.args.length), j < k → ¬ n - 1 < e.args[j].depth) ∧ wr.heap[w.heap.size]? = some (.cells #[.int .i64 e.op, .string e.name, .slice aw nw cw, .int .i64 e.lo, .int .i64 e.hi, .slice aa na ca] 33 (0, 0)) ∧ Ext w wr) (fun i _ => na - (intOf i).toNat)
      case atStart => exact ⟨0, by omega, rfl, fun j _ h => by omega, alloc_new w _, (Ext.refl w).alloc _⟩
      case round =>
        obtain ⟨k, hk, rfl, hall, hbx, hb⟩ := hrel
        have HA := Lib.hid hall
        have HBX := Lib.hid hbx
        have HB := Lib.hid hb
        have hlt0 := blk_lt hbx
        obtain ⟨b0, b1, b2, b3, b4, b5, bf⟩ := blk6 hbx
        clear hbx hb hall
        by_cases hlt : k < na
        · have hlt' : k < e.args.length := by have := HN.out; omega
          obtain ⟨b, off, rfl, aw1, nw1, cw1, aa1, na1, ca1, h0, h1, h2, h3, h4, h5, h6⟩ := ExsD.at e.args _ (ExsD.ext HB.out e.args _ HX.out) k hlt'
          have H6 := Lib.hid h6
          have hsz := sizes_take_succ e.args k hlt'
          have hsl := sizes_take_le e.args (k + 1)
          have hk1 : e.args[k].size ≤ m := by omega
          have HM1 := Lib.hid (depths_mem (List.getElem_mem hlt'))
          clear h6 hsz hsl
          have HCA := Lib.hid (show (n : Int) - 1 = ((n - 1 : Nat) : Int) by omega)
          go_wp2_with fail
          rw [HCA.out]
          refine (H.out e.args[k] _ _ (n - 1) hk1 (by omega) H6.out).mono ?_
          rintro r w1 ⟨rfl, hb1⟩
          have HE1 := Lib.hid hb1
          clear b0 b1 b2 b3 b4 b5 bf hb1
          by_cases hdp : n - 1 < e.args[k].depth
          · rw [decide_eq_true hdp]
            have H1 := Lib.hid (show B = true by rw [HBQ.out, decide_eq_true_eq, HD.out]; have := HM1.out; omega)
            clear hdp
            go_wp2_with fail
            go_ret
            exact givesE_bool (by rw [H1.out]) (HB.out.trans HE1.out)
          · rw [decide_eq_false hdp]
            have HND := Lib.hid hdp
            clear hdp
            go_wp2_with fail
            go_roundw
            case rel =>
              refine ⟨k + 1, by omega, by go_num, fun j hj hjk => ?_, HE1.out.blk HBX.out, HB.out.trans HE1.out⟩
              by_cases ej : j = k
              · subst ej; exact HND.out
              · exact HA.out j hj (by omega)
            case measure => simp [intOf]; omega
        · have H1 := Lib.hid (show B = false by
            rw [HBQ.out, decide_eq_false_iff_not, HD.out]
            have : ∀ l : List Ex, (∀ x ∈ l, ¬ n - 1 < x.depth) → depths l ≤ n - 1 := by
              intro l
              induction l with
              | nil => intro _; simp [depths]
              | cons y r ih =>
                intro h
                have h1 := h y (by simp)
                have h2 := ih (fun x hx => h x (List.mem_cons_of_mem _ hx))
                simp only [depths]; omega
            have := this e.args (fun x hx => by
              obtain ⟨j, hj, rfl⟩ := List.getElem_of_mem hx
              exact HA.out j hj (by have := HN.out; omega))
            omega)
          go_wp2_with fail
          go_ret
          exact givesE_bool (by rw [H1.out]) HB.out

end Go.Proofs.Ytfjlglefodndjaa
