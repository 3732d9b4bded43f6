/-
  Texts of the claim, joined: Gram, Fmt, Fmt2, Text1.
-/
import Derived.Test.YtaepiiediblleaaGreatDoorTa07
namespace Go.Proofs.YtaepiiediblleaaGreatDoor

mutual
def Ex.depth : Ex → Nat
  | .mk _ _ _ _ _ args => depths args + 1
def depths : List Ex → Nat
  | [] => 0
  | e :: r => max e.depth (depths r)
end
theorem Ex.depth_eq (e : Ex) : e.depth = depths e.args + 1 := by cases e; simp [Ex.depth, Ex.args]
theorem Ex.size_eq (e : Ex) : e.size = 1 + sizes e.args := by cases e; simp [Ex.size, Ex.args]
mutual
theorem Ex.depth_le : (e : Ex) → e.depth ≤ e.size
  | .mk _ _ _ _ _ args => by have := depths_le args; simp [Ex.depth, Ex.size]; omega
theorem depths_le : (l : List Ex) → depths l ≤ sizes l
  | [] => by simp [depths]
  | e :: r => by have := Ex.depth_le e; have := depths_le r; simp [depths, sizes]; omega
end
theorem depths_append (l m : List Ex) : depths (l ++ m) = max (depths l) (depths m) := by
  induction l with
  | nil => simp [depths]
  | cons e r ih => simp only [List.cons_append, depths, ih]; omega
theorem depths_take_succ (l : List Ex) (k : Nat) (hk : k < l.length) : depths (l.take (k + 1)) = max (depths (l.take k)) l[k].depth := by
  rw [List.take_succ_eq_append_getElem hk, depths_append]; simp [depths]
theorem depths_mem {l : List Ex} {e : Ex} (h : e ∈ l) : e.depth ≤ depths l := by
  induction l with
  | nil => simp at h
  | cons a r ih =>
    rcases List.mem_cons.1 h with rfl | h
    · simp only [depths]; omega
    · have := ih h; simp only [depths]; omega
theorem sizes_mem {l : List Ex} {e : Ex} (h : e ∈ l) : e.size ≤ sizes l := by
  induction l with
  | nil => simp at h
  | cons a r ih =>
    rcases List.mem_cons.1 h with rfl | h
    · simp [sizes]
    · have := ih h; simp [sizes]; omega

/-- An expression as a part: beyond the limits only its size and its depth. -/
def partOf (e : Ex) : Part := if 300 < e.size ∨ 16 < e.depth then ⟨ex0, e.size, e.depth⟩ else ⟨e, e.size, e.depth⟩
theorem partOf_size (e : Ex) : (partOf e).size = e.size := by unfold partOf; split <;> rfl
theorem partOf_depth (e : Ex) : (partOf e).depth = e.depth := by unfold partOf; split <;> rfl
theorem partOf_ex {e : Ex} (h1 : e.size ≤ 300) (h2 : e.depth ≤ 16) : (partOf e).ex = e := by unfold partOf; rw [if_neg (by omega)]
theorem sumSize_partOf (l : List Ex) : sumSize (l.map partOf) = sizes l := by
  induction l with
  | nil => simp [sumSize, sizes]
  | cons a r ih => simp [sumSize, sizes, ih, partOf_size]
theorem maxDepth_foldl (l : List Ex) : ∀ d, (l.map partOf).foldl (fun d p => max d p.depth) d = max d (depths l) := by
  induction l with
  | nil => intro d; simp [depths]
  | cons a r ih => intro d; simp only [List.map_cons, List.foldl_cons, depths, ih, partOf_depth]; omega
theorem maxDepth_partOf (l : List Ex) : maxDepth (l.map partOf) = depths l := by unfold maxDepth; rw [maxDepth_foldl]; omega
theorem map_partOf_ex {l : List Ex} (h1 : sizes l ≤ 300) (h2 : depths l ≤ 16) : (l.map partOf).map (·.ex) = l := by
  rw [List.map_map]
  have : ∀ e ∈ l, ((·.ex) ∘ partOf) e = id e := fun e he => by
    have h3 := sizes_mem he
    have h4 := depths_mem he
    exact partOf_ex (by omega) (by omega)
  rw [List.map_congr_left this]
  simp
theorem composedF_partOf (op : Int) (l : List Ex) : composedF op (l.map partOf) = partOf (.mk op ⟨#[]⟩ [] 0 0 l) := by
  have e1 : partOf (.mk op ⟨#[]⟩ [] 0 0 l) = if 300 < 1 + sizes l ∨ 16 < depths l + 1 then ⟨ex0, 1 + sizes l, depths l + 1⟩ else ⟨.mk op ⟨#[]⟩ [] 0 0 l, 1 + sizes l, depths l + 1⟩ := by
    by_cases h : 300 < 1 + sizes l ∨ 16 < depths l + 1
    · rw [partOf, if_pos (by simpa only [Ex.size, Ex.depth] using h), if_pos h]; simp only [Ex.size, Ex.depth]
    · rw [partOf, if_neg (by simpa only [Ex.size, Ex.depth] using h), if_neg h]; simp only [Ex.size, Ex.depth]
  rw [e1, composedF, sumSize_partOf, maxDepth_partOf]
  by_cases h : 300 < 1 + sizes l ∨ 16 < depths l + 1
  · rw [if_pos h, if_pos h]
  · rw [if_neg h, if_neg h, map_partOf_ex (by omega) (by omega)]
/-- The operator with all arguments, or the only one. -/
def joinE (op : Int) (l : List Ex) : Ex := match l with | [e] => e | l => .mk op ⟨#[]⟩ [] 0 0 l
theorem joinedF_partOf (op : Int) (l : List Ex) : joinedF op (l.map partOf) = partOf (joinE op l) := by
  match l with
  | [] => exact composedF_partOf op []
  | [e] => rfl
  | a :: b :: r => exact composedF_partOf op (a :: b :: r)
theorem itF_swap (n : Nat) (p : Part) : itF n (composedF 6 [p]) = itF (n + 1) p := by
  induction n with
  | zero => rfl
  | succ n ih => rw [itF, ih]; rfl

/-- What is read: atom, with negations, with and, with or. -/
inductive Lev where
  | atom | neg | ands | ors

def operandE (toks : List Tok) (k : Nat) : Ex × Int × Nat := ((operandF toks k).1.ex, (operandF toks k).2.1, (operandF toks k).2.2)

/-- The grammar: from the k-th token on, after the arguments acc, these are read: an expression, 0 and the index behind it, or an error and its index. -/
inductive Gr (toks : List Tok) : Lev → Nat → List Ex → Ex → Int → Nat → Prop
  | parenOk {k e k1} : acceptB toks k 4 ⟨#[40]⟩ = true → Gr toks .ors (k + 1) [] e 0 k1 → acceptB toks k1 4 ⟨#[41]⟩ = true → Gr toks .atom k [] e 0 (k1 + 1)
  | parenErr {k e er k1} : acceptB toks k 4 ⟨#[40]⟩ = true → Gr toks .ors (k + 1) [] e er k1 → er ≠ 0 → Gr toks .atom k [] ex0 er k1
  | parenNo {k e k1} : acceptB toks k 4 ⟨#[40]⟩ = true → Gr toks .ors (k + 1) [] e 0 k1 → acceptB toks k1 4 ⟨#[41]⟩ = false → Gr toks .atom k [] ex0 5 k1
  | operand {k} : acceptB toks k 4 ⟨#[40]⟩ = false → Gr toks .atom k [] (operandF toks k).1.ex (operandF toks k).2.1 (operandF toks k).2.2
  | notOk {k e k1} : acceptB toks k 1 wNot = true → Gr toks .neg (k + 1) [] e 0 k1 → Gr toks .neg k [] (.mk 6 ⟨#[]⟩ [] 0 0 [e]) 0 k1
  | notErr {k e er k1} : acceptB toks k 1 wNot = true → Gr toks .neg (k + 1) [] e er k1 → er ≠ 0 → Gr toks .neg k [] ex0 er k1
  | negAtom {k e er k1} : acceptB toks k 1 wNot = false → Gr toks .atom k [] e er k1 → Gr toks .neg k [] e er k1
  | andStep {k acc e k1 e2 er k2} : Gr toks .neg k [] e 0 k1 → acceptB toks k1 1 wAnd = true → Gr toks .ands (k1 + 1) (acc ++ [e]) e2 er k2 → Gr toks .ands k acc e2 er k2
  | andStop {k acc e k1} : Gr toks .neg k [] e 0 k1 → acceptB toks k1 1 wAnd = false → Gr toks .ands k acc (joinE 7 (acc ++ [e])) 0 k1
  | andErr {k acc e er k1} : Gr toks .neg k [] e er k1 → er ≠ 0 → Gr toks .ands k acc ex0 er k1
  | orStep {k acc e k1 e2 er k2} : Gr toks .ands k [] e 0 k1 → acceptB toks k1 1 wOr = true → Gr toks .ors (k1 + 1) (acc ++ [e]) e2 er k2 → Gr toks .ors k acc e2 er k2
  | orStop {k acc e k1} : Gr toks .ands k [] e 0 k1 → acceptB toks k1 1 wOr = false → Gr toks .ors k acc (joinE 8 (acc ++ [e])) 0 k1
  | orErr {k acc e er k1} : Gr toks .ands k [] e er k1 → er ≠ 0 → Gr toks .ors k acc ex0 er k1

def bd (tn : Nat) (m : Bool) (k : Nat) : Nat := if m then 2 * (tn - k) + 2 else 2 * (tn - k) + 1

theorem acceptB_lt {toks : List Tok} {k : Nat} {kind : Int} {text : ByteArray} (h : acceptB toks k kind text = true) : k < toks.length := by
  by_cases hlt : k < toks.length
  · exact hlt
  · rw [acceptB, List.getElem?_eq_none (by omega)] at h; cases h

theorem runF_fuel (toks : List Tok) : ∀ (f g : Nat) (m : Bool) (k : Nat) (li : List Lvl) (t : Lvl), bd toks.length m k ≤ f → bd toks.length m k ≤ g → runF toks toks.length f m k li t = runF toks toks.length g m k li t := by
  intro f
  induction f with
  | zero => intro g m k li t h; unfold bd at h; split at h <;> omega
  | succ f ih =>
    intro g m k li t hf hg
    obtain ⟨g, rfl⟩ : ∃ g', g = g' + 1 := ⟨g - 1, by unfold bd at hg; split at hg <;> omega⟩
    cases m with
    | true =>
      simp only [bd, if_true] at hf hg
      simp only [runF]
      split
      · rfl
      · have h1 := prefixF_ge toks (toks.length - k + 1) k li t
        have h2 := operandF_ge0 toks (prefixF toks (toks.length - k + 1) k li t).1
        refine ih g false _ _ _ ?_ ?_ <;> (simp only [bd, Bool.false_eq_true, if_false]; omega)
    | false =>
      simp only [bd, Bool.false_eq_true, if_false] at hf hg
      simp only [runF]
      split
      · rename_i h
        have := acceptB_lt h
        refine ih g true _ _ _ ?_ ?_ <;> (simp only [bd, if_true]; omega)
      · split
        · rename_i h
          have := acceptB_lt h
          refine ih g true _ _ _ ?_ ?_ <;> (simp only [bd, if_true]; omega)
        · split
          · rfl
          · split
            · rename_i h
              have := acceptB_lt h
              refine ih g false _ _ _ ?_ ?_ <;> (simp only [bd, Bool.false_eq_true, if_false]; omega)
            · rfl

/-- The run with enough steps. -/
def run (toks : List Tok) (m : Bool) (k : Nat) (li : List Lvl) (t : Lvl) : Part × Int × Nat := runF toks toks.length (bd toks.length m k) m k li t
theorem runF_run (toks : List Tok) {f : Nat} {m : Bool} {k : Nat} {li : List Lvl} {t : Lvl} (h : bd toks.length m k ≤ f) : runF toks toks.length f m k li t = run toks m k li t := runF_fuel toks _ _ _ _ _ _ h (Nat.le_refl _)

theorem runF_true (toks : List Tok) (tn f k : Nat) (li : List Lvl) (t : Lvl) : runF toks tn (f + 1) true k li t =
    if (operandF toks (prefixF toks (tn - k + 1) k li t).1).2.1 ≠ 0 then (⟨ex0, 0, 0⟩, (operandF toks (prefixF toks (tn - k + 1) k li t).1).2.1, (operandF toks (prefixF toks (tn - k + 1) k li t).1).2.2) else
    runF toks tn f false (operandF toks (prefixF toks (tn - k + 1) k li t).1).2.2 (prefixF toks (tn - k + 1) k li t).2.1 (withPart (prefixF toks (tn - k + 1) k li t).2.2 (operandF toks (prefixF toks (tn - k + 1) k li t).1).1) := by rw [runF]
/-- The run behind the prefix. -/
def runA (toks : List Tok) (a : Nat × List Lvl × Lvl) : Part × Int × Nat :=
  if (operandF toks a.1).2.1 ≠ 0 then (⟨ex0, 0, 0⟩, (operandF toks a.1).2.1, (operandF toks a.1).2.2) else run toks false (operandF toks a.1).2.2 a.2.1 (withPart a.2.2 (operandF toks a.1).1)
theorem run_true (toks : List Tok) (k : Nat) (li : List Lvl) (t : Lvl) : run toks true k li t = runA toks (prefixF toks (toks.length - k + 1) k li t) := by
  have h1 := prefixF_ge toks (toks.length - k + 1) k li t
  have h2 := operandF_ge0 toks (prefixF toks (toks.length - k + 1) k li t).1
  show runF toks toks.length (2 * (toks.length - k) + 1 + 1) true k li t = _
  rw [runF_true, runA]
  split
  · rfl
  · refine runF_run toks (m := false) ?_
    simp only [bd, Bool.false_eq_true, if_false]; omega
theorem run_not {toks : List Tok} {k : Nat} {li : List Lvl} {t : Lvl} (h : acceptB toks k 1 wNot = true) : run toks true k li t = run toks true (k + 1) li ⟨t.nots + 1, t.ands, t.ors⟩ := by
  have hk := acceptB_lt h
  rw [run_true, run_true, prefixF, if_pos h, show toks.length - (k + 1) + 1 = toks.length - k by omega]
theorem run_paren {toks : List Tok} {k : Nat} {li : List Lvl} {t : Lvl} (h0 : acceptB toks k 1 wNot = false) (h : acceptB toks k 4 ⟨#[40]⟩ = true) : run toks true k li t = run toks true (k + 1) (li ++ [t]) lvl0 := by
  have hk := acceptB_lt h
  rw [run_true, run_true, prefixF, if_neg (by simp [h0]), if_pos h, show toks.length - (k + 1) + 1 = toks.length - k by omega]
theorem run_operand {toks : List Tok} {k : Nat} {li : List Lvl} {t : Lvl} (h0 : acceptB toks k 1 wNot = false) (h : acceptB toks k 4 ⟨#[40]⟩ = false) : run toks true k li t = runA toks (k, li, t) := by
  rw [run_true, prefixF, if_neg (by simp [h0]), if_neg (by simp [h])]
theorem run_and {toks : List Tok} {k : Nat} {li : List Lvl} {t : Lvl} (h : acceptB toks k 1 wAnd = true) : run toks false k li t = run toks true (k + 1) li t := by
  have hk := acceptB_lt h
  show runF toks toks.length (2 * (toks.length - k) + 1) false k li t = _
  rw [runF, if_pos h]
  exact runF_run toks (by simp only [bd, if_true]; omega)

def contClose (toks : List Tok) (k : Nat) (li : List Lvl) (p : Part) : Part × Int × Nat := match li.getLast? with
  | none => (p, 0, k)
  | some t' => if acceptB toks k 4 ⟨#[41]⟩ = true then run toks false (k + 1) li.dropLast (withPart t' p) else (⟨ex0, 0, 0⟩, 5, k)
def contOr (toks : List Tok) (k : Nat) (li : List Lvl) (p : Part) (ors : List Part) : Part × Int × Nat :=
  if acceptB toks k 1 wOr = true then run toks true (k + 1) li ⟨0, [], ors ++ [p]⟩ else contClose toks k li (joinedF 8 (ors ++ [p]))
theorem run_or {toks : List Tok} {k : Nat} {li : List Lvl} {ands ors : List Part} (h : acceptB toks k 1 wAnd = false) : run toks false k li ⟨0, ands, ors⟩ = contOr toks k li (joinedF 7 ands) ors := by
  show runF toks toks.length (2 * (toks.length - k) + 1) false k li _ = _
  rw [runF, if_neg (by simp [h]), contOr]
  split
  · rename_i h2
    have hk := acceptB_lt h2
    exact runF_run toks (by simp only [bd, if_true]; omega)
  · rw [contClose]
    cases li.getLast? with
    | none => rfl
    | some t' =>
      simp only [wholeF]
      split
      · rename_i h2
        have hk := acceptB_lt h2
        exact runF_run toks (by simp only [bd, Bool.false_eq_true, if_false]; omega)
      · rfl

/-- What the grammar reads is what the parser's run comes to. -/
def Says (toks : List Tok) : Lev → Nat → List Ex → Ex → Int → Nat → Prop
  | .atom, k, _, e, er, k1 => acceptB toks k 1 wNot = false → ∀ li t, run toks true k li t = if er ≠ 0 then (⟨ex0, 0, 0⟩, er, k1) else run toks false k1 li (withPart t (partOf e))
  | .neg, k, _, e, er, k1 => ∀ li t, run toks true k li t = if er ≠ 0 then (⟨ex0, 0, 0⟩, er, k1) else run toks false k1 li (withPart t (partOf e))
  | .ands, k, acc, e, er, k1 => ∀ li ors, run toks true k li ⟨0, acc.map partOf, ors⟩ = if er ≠ 0 then (⟨ex0, 0, 0⟩, er, k1) else contOr toks k1 li (partOf e) ors
  | .ors, k, acc, e, er, k1 => ∀ li, run toks true k li ⟨0, [], acc.map partOf⟩ = if er ≠ 0 then (⟨ex0, 0, 0⟩, er, k1) else contClose toks k1 li (partOf e)

theorem acceptB_two {toks : List Tok} {k : Nat} {a b : Int} {s t : ByteArray} (h : acceptB toks k a s = true) (hab : a ≠ b) : acceptB toks k b t = false := by
  unfold acceptB at *
  cases hk : toks[k]? with
  | none => rfl
  | some x =>
    rw [hk] at h
    simp only [Bool.and_eq_true, beq_iff_eq] at h
    simp only [Bool.and_eq_false_iff]
    left
    simp [h.1, hab]

theorem partOf_operand {toks : List Tok} {k : Nat} (h : (operandF toks k).2.1 = 0) : partOf (operandF toks k).1.ex = (operandF toks k).1 := by
  have h2 := operandF_ok toks k h
  have h3 : (operandF toks k).1.ex.args = [] := by
    unfold operandF
    (repeat' split) <;> rfl
  have h4 := Ex.size_eq (operandF toks k).1.ex
  have h5 := Ex.depth_eq (operandF toks k).1.ex
  rw [h3] at h4 h5
  simp only [sizes, depths] at h4 h5
  unfold partOf
  rw [if_neg (by omega), h4, h5]
  generalize operandF toks k = R at *
  obtain ⟨⟨ex, s, d⟩, er, k1⟩ := R
  simp only at h2 ⊢
  rw [h2.1, h2.2.1]

theorem Gr.says {toks : List Tok} {s : Lev} {k : Nat} {acc : List Ex} {e : Ex} {er : Int} {k1 : Nat} (h : Gr toks s k acc e er k1) : Says toks s k acc e er k1 := by
  induction h with
  | parenOk h1 _ h2 ih =>
    intro h0 li t
    rw [run_paren h0 h1, show lvl0 = ⟨0, [], ([] : List Ex).map partOf⟩ from rfl, ih (li ++ [t])]
    simp [contClose, h2]
  | parenErr h1 _ h2 ih =>
    intro h0 li t
    rw [run_paren h0 h1, show lvl0 = ⟨0, [], ([] : List Ex).map partOf⟩ from rfl, ih (li ++ [t])]
    simp [h2]
  | parenNo h1 _ h2 ih =>
    intro h0 li t
    rw [run_paren h0 h1, show lvl0 = ⟨0, [], ([] : List Ex).map partOf⟩ from rfl, ih (li ++ [t])]
    simp [contClose, h2]
  | operand h1 =>
    intro h0 li t
    rw [run_operand h0 h1, runA]
    split
    · rfl
    · rename_i h
      rw [partOf_operand (by simpa using h)]
  | notOk h1 _ ih =>
    intro li t
    rw [run_not h1, ih]
    simp only [ne_eq, not_true_eq_false, if_false]
    rename_i e2 _ _
    have := composedF_partOf 6 [e2]
    simp only [withPart, ← this, List.map_cons, List.map_nil, itF_swap]
  | notErr h1 _ h2 ih =>
    intro li t
    rw [run_not h1, ih]
    simp [h2]
  | negAtom h1 _ ih => exact ih h1
  | andStep _ h2 _ ih1 ih2 =>
    intro li ors
    rw [ih1]
    simp only [ne_eq, not_true_eq_false, if_false, withPart, itF]
    rw [run_and h2]
    have := ih2 li ors
    simpa using this
  | andStop _ h2 ih =>
    intro li ors
    rw [ih]
    simp only [ne_eq, not_true_eq_false, if_false, withPart, itF]
    rw [run_or h2, ← joinedF_partOf]
    simp
  | andErr _ h2 ih =>
    intro li ors
    rw [ih]
    simp [h2]
  | orStep _ h2 _ ih1 ih2 =>
    intro li
    have := ih1 li
    rw [show ([] : List Part) = ([] : List Ex).map partOf from rfl, this]
    simp only [ne_eq, not_true_eq_false, if_false]
    rw [contOr, if_pos h2]
    have := ih2 li
    simpa using this
  | orStop _ h2 ih =>
    intro li
    have := ih li
    rw [show ([] : List Part) = ([] : List Ex).map partOf from rfl, this]
    simp only [ne_eq, not_true_eq_false, if_false]
    rw [contOr, if_neg (by simp [h2]), ← joinedF_partOf]
    simp
  | orErr _ h2 ih =>
    intro li
    have := ih li
    rw [show ([] : List Part) = ([] : List Ex).map partOf from rfl, this]
    simp [h2]

theorem Gr.run {toks : List Tok} {k : Nat} {e : Ex} {er : Int} {k1 : Nat} (h : Gr toks .ors k [] e er k1) : run toks true k [] lvl0 = if er ≠ 0 then (⟨ex0, 0, 0⟩, er, k1) else (partOf e, 0, k1) := by
  have := h.says []
  rw [show lvl0 = ⟨0, [], ([] : List Ex).map partOf⟩ from rfl, this]
  simp [contClose]
end Go.Proofs.YtaepiiediblleaaGreatDoor

namespace Go.Proofs.YtaepiiediblleaaGreatDoor

def nameT (s : ByteArray) : Tok := ⟨1, s, 0, 0⟩
def markT (c : UInt8) : Tok := ⟨4, ⟨#[c]⟩, 0, 0⟩
def numT (n : Int) : Tok := ⟨2, ⟨#[]⟩, n, 0⟩
def wTo : ByteArray := ⟨#[116, 111]⟩

/-- Names with commas between them. -/
def listedT : List ByteArray → List Tok
  | [] => []
  | [s] => [nameT s]
  | s :: r => nameT s :: markT 44 :: listedT r

def paren (op aop : Int) : Bool := aop == 8 || (aop == 7 && op != 8)
mutual
/-- The tokens of an expression. -/
def tokE : Ex → List Tok
  | .mk op name words lo hi args =>
    if op = 1 then [nameT wTrue] else if op = 2 then [nameT wFalse] else if op = 3 then [nameT name] else
    if op = 4 then [nameT name, nameT wIn, markT 40] ++ listedT words ++ [markT 41] else
    if op = 5 then [nameT name, nameT wFrom, numT lo, nameT wTo, numT hi] else
    (if op = 6 then [nameT wNot] else []) ++ tokArgs op args
def tokArgs (op : Int) : List Ex → List Tok
  | [] => []
  | a :: r => (if paren op a.op then [markT 40] ++ tokE a ++ [markT 41] else tokE a) ++ tokMore op r
def tokMore (op : Int) : List Ex → List Tok
  | [] => []
  | a :: r => [nameT (if op = 7 then wAnd else wOr)] ++ (if paren op a.op then [markT 40] ++ tokE a ++ [markT 41] else tokE a) ++ tokMore op r
end

/-- From the k-th token on these tokens stand in the list, wherever in the text. -/
def AtT (toks : List Tok) : Nat → List Tok → Prop
  | _, [] => True
  | k, x :: r => (∃ p, toks[k]? = some ⟨x.kind, x.text, x.num, p⟩) ∧ AtT toks (k + 1) r
theorem AtT.append {toks : List Tok} : (l m : List Tok) → (k : Nat) → AtT toks k (l ++ m) ↔ AtT toks k l ∧ AtT toks (k + l.length) m
  | [], m, k => by simp [AtT]
  | x :: r, m, k => by
    simp only [List.cons_append, AtT, AtT.append r m (k + 1), List.length_cons]
    rw [show k + 1 + r.length = k + (r.length + 1) by omega]
    exact and_assoc.symm

theorem accept_at {toks : List Tok} {k : Nat} {kind : Int} {text : ByteArray} {x : Tok} (h : ∃ p, toks[k]? = some ⟨x.kind, x.text, x.num, p⟩) : acceptB toks k kind text = ((x.kind == kind) && decide (x.text = text)) := by
  obtain ⟨p, h⟩ := h; rw [acceptB, h]
theorem nameTok_at {toks : List Tok} {k : Nat} {x : Tok} (h : ∃ p, toks[k]? = some ⟨x.kind, x.text, x.num, p⟩) : nameTokB toks k = ((x.kind == 1) && nameB x.text) := by
  obtain ⟨p, h⟩ := h; rw [nameTokB, h]
theorem text_at {toks : List Tok} {k : Nat} {x : Tok} (h : ∃ p, toks[k]? = some ⟨x.kind, x.text, x.num, p⟩) : textAt toks k = x.text := by
  obtain ⟨p, h⟩ := h; rw [textAt, h]

/-- The fields of a node are those of its operator. -/
def okNode (e : Ex) : Prop :=
  (e.op = 1 ∧ e.name = ⟨#[]⟩ ∧ e.words = [] ∧ e.lo = 0 ∧ e.hi = 0 ∧ e.args = []) ∨ (e.op = 2 ∧ e.name = ⟨#[]⟩ ∧ e.words = [] ∧ e.lo = 0 ∧ e.hi = 0 ∧ e.args = []) ∨
  (e.op = 3 ∧ nameB e.name = true ∧ e.words = [] ∧ e.lo = 0 ∧ e.hi = 0 ∧ e.args = []) ∨ (e.op = 4 ∧ nameB e.name = true ∧ wordsB e.words = true ∧ e.lo = 0 ∧ e.hi = 0 ∧ e.args = []) ∨
  (e.op = 5 ∧ nameB e.name = true ∧ e.words = [] ∧ numberB e.lo = true ∧ numberB e.hi = true ∧ e.lo ≤ e.hi ∧ e.args = []) ∨
  (e.op = 6 ∧ e.name = ⟨#[]⟩ ∧ e.words = [] ∧ e.lo = 0 ∧ e.hi = 0 ∧ e.args.length = 1) ∨
  ((e.op = 7 ∨ e.op = 8) ∧ e.name = ⟨#[]⟩ ∧ e.words = [] ∧ e.lo = 0 ∧ e.hi = 0 ∧ 2 ≤ e.args.length)
mutual
def okTree : Ex → Prop
  | .mk op name words lo hi args => okNode (.mk op name words lo hi args) ∧ okTrees args
def okTrees : List Ex → Prop
  | [] => True
  | e :: r => okTree e ∧ okTrees r
end

theorem nameB_word {s : ByteArray} (h : nameB s = true) : s ≠ wTrue ∧ s ≠ wFalse ∧ s ≠ wNot ∧ s ≠ wIn ∧ s ≠ wFrom ∧ s ≠ wAnd ∧ s ≠ wOr ∧ s ≠ wTo := by
  simp only [nameB, Bool.and_eq_true, Bool.not_eq_true'] at h
  have h := h.2
  refine ⟨?_, ?_, ?_, ?_, ?_, ?_, ?_, ?_⟩ <;> (rintro rfl; revert h; decide +kernel)

/-- What follows: no and, no or (no list, no range either). -/
def Ends (toks : List Tok) (k : Nat) : Prop := acceptB toks k 1 wAnd = false ∧ acceptB toks k 1 wOr = false ∧ acceptB toks k 1 wIn = false ∧ acceptB toks k 1 wFrom = false

theorem list_read {toks : List Tok} : (ws : List ByteArray) → ws ≠ [] → (k f : Nat) → (acc : List ByteArray) → AtT toks k (listedT ws ++ [markT 41]) → (acc ++ ws).length ≤ 12 → (∀ x ∈ ws, nameB x = true) → (acc ++ ws).Nodup → ws.length ≤ f →
    listLoop toks f k acc = (acc ++ ws, 0, k + (listedT ws).length + 1)
  | [], h, _, _, _, _, _, _, _, _ => absurd rfl h
  | [s], _, k, f, acc, hat, hl, hn, hd, hf => by
    obtain ⟨f, rfl⟩ : ∃ g, f = g + 1 := ⟨f - 1, by simp at hf; omega⟩
    simp only [listedT, List.cons_append, List.nil_append, AtT] at hat
    obtain ⟨h1, h2, _⟩ := hat
    have hs := hn s (by simp)
    have hm : s ∉ acc := by
      rw [List.nodup_append] at hd
      exact fun h => hd.2.2 s h s (by simp) rfl
    rw [listLoop, if_neg (by rw [nameTok_at h1]; simp [nameT, hs]), if_neg (by simp at hl; omega), if_neg (by rw [text_at h1]; exact hm), if_neg (by rw [accept_at h2]; simp [markT]), if_pos (by rw [accept_at h2]; simp [markT]), text_at h1]
    simp [listedT, nameT]
  | s :: s2 :: r, _, k, f, acc, hat, hl, hn, hd, hf => by
    obtain ⟨f, rfl⟩ : ∃ g, f = g + 1 := ⟨f - 1, by simp at hf; omega⟩
    simp only [listedT, List.cons_append, AtT] at hat
    obtain ⟨h1, h2, h3⟩ := hat
    have hs := hn s (by simp)
    have hm : s ∉ acc := by
      rw [List.nodup_append] at hd
      exact fun h => hd.2.2 s h s (by simp) rfl
    rw [listLoop, if_neg (by rw [nameTok_at h1]; simp [nameT, hs]), if_neg (by simp at hl; omega), if_neg (by rw [text_at h1]; exact hm), if_pos (by rw [accept_at h2]; simp [markT]), text_at h1]
    have e : acc ++ [(nameT s).text] ++ (s2 :: r) = acc ++ s :: s2 :: r := by simp [nameT]
    rw [list_read (s2 :: r) (by simp) (k + 2) f (acc ++ [(nameT s).text]) h3 (by rw [e]; exact hl) (fun x hx => hn x (List.mem_cons_of_mem _ hx)) (by rw [e]; exact hd) (by simp at hf ⊢; omega), e]
    simp [listedT]
    omega
end Go.Proofs.YtaepiiediblleaaGreatDoor

namespace Go.Proofs.YtaepiiediblleaaGreatDoor

/-- The tokens of an argument. -/
def argT (op : Int) (a : Ex) : List Tok := if paren op a.op then [markT 40] ++ tokE a ++ [markT 41] else tokE a
theorem tokArgs_cons (op : Int) (a : Ex) (r : List Ex) : tokArgs op (a :: r) = argT op a ++ tokMore op r := by rw [tokArgs]; rfl
theorem tokMore_cons (op : Int) (a : Ex) (r : List Ex) : tokMore op (a :: r) = nameT (if op = 7 then wAnd else wOr) :: (argT op a ++ tokMore op r) := by rw [tokMore]; simp [argT]

/-- What follows is no word that goes on with an atom. -/
def NoTail (toks : List Tok) (k : Nat) : Prop := acceptB toks k 1 wIn = false ∧ acceptB toks k 1 wFrom = false
theorem noTail_name {toks : List Tok} {k : Nat} {s : ByteArray} (h : ∃ p, toks[k]? = some ⟨(nameT s).kind, (nameT s).text, (nameT s).num, p⟩) (h1 : s ≠ wIn) (h2 : s ≠ wFrom) : NoTail toks k := by
  constructor <;> (rw [accept_at h]; simp [nameT, h1, h2])
theorem noTail_mark {toks : List Tok} {k : Nat} {c : UInt8} (h : ∃ p, toks[k]? = some ⟨(markT c).kind, (markT c).text, (markT c).num, p⟩) : NoTail toks k := by
  constructor <;> (rw [accept_at h]; simp [markT])
theorem wAnd_ne : wAnd ≠ wIn ∧ wAnd ≠ wFrom ∧ wOr ≠ wIn ∧ wOr ≠ wFrom ∧ wOr ≠ wAnd ∧ wNot ≠ wTrue ∧ wNot ≠ wFalse := by decide +kernel
theorem ends_mark {toks : List Tok} {k : Nat} {c : UInt8} (h : ∃ p, toks[k]? = some ⟨(markT c).kind, (markT c).text, (markT c).num, p⟩) : acceptB toks k 1 wAnd = false ∧ acceptB toks k 1 wOr = false := by
  constructor <;> (rw [accept_at h]; simp [markT])

/-- What the tokens of an expression are read as. -/
def Reads (toks : List Tok) (e : Ex) : Prop := ∀ k, AtT toks k (tokE e) → NoTail toks (k + (tokE e).length) →
  (e.op ≠ 7 → e.op ≠ 8 → Gr toks .neg k [] e 0 (k + (tokE e).length)) ∧ (e.op = 7 → acceptB toks (k + (tokE e).length) 1 wAnd = false → Gr toks .ands k [] e 0 (k + (tokE e).length)) ∧
  (e.op = 8 → acceptB toks (k + (tokE e).length) 1 wAnd = false → acceptB toks (k + (tokE e).length) 1 wOr = false → Gr toks .ors k [] e 0 (k + (tokE e).length))

theorem Reads.ands {toks : List Tok} {e : Ex} (h : Reads toks e) (h8 : e.op ≠ 8) {k : Nat} (ha : AtT toks k (tokE e)) (ht : NoTail toks (k + (tokE e).length)) (h1 : acceptB toks (k + (tokE e).length) 1 wAnd = false) : Gr toks .ands k [] e 0 (k + (tokE e).length) := by
  by_cases h7 : e.op = 7
  · exact (h k ha ht).2.1 h7 h1
  · exact Gr.andStop (acc := []) ((h k ha ht).1 h7 h8) h1
theorem Reads.ors {toks : List Tok} {e : Ex} (h : Reads toks e) {k : Nat} (ha : AtT toks k (tokE e)) (ht : NoTail toks (k + (tokE e).length)) (h1 : acceptB toks (k + (tokE e).length) 1 wAnd = false) (h2 : acceptB toks (k + (tokE e).length) 1 wOr = false) : Gr toks .ors k [] e 0 (k + (tokE e).length) := by
  by_cases h8 : e.op = 8
  · exact (h k ha ht).2.2 h8 h1 h2
  · exact Gr.orStop (acc := []) (h.ands h8 ha ht h1) h2
theorem not_mark {toks : List Tok} {k : Nat} {c : UInt8} (h : ∃ p, toks[k]? = some ⟨(markT c).kind, (markT c).text, (markT c).num, p⟩) : acceptB toks k 1 wNot = false := by rw [accept_at h]; simp [markT]
/-- An expression in parentheses. -/
theorem Reads.parens {toks : List Tok} {e : Ex} (h : Reads toks e) {k : Nat} (ha : AtT toks k ([markT 40] ++ tokE e ++ [markT 41])) : Gr toks .neg k [] e 0 (k + ([markT 40] ++ tokE e ++ [markT 41]).length) := by
  rw [AtT.append, AtT.append] at ha
  obtain ⟨⟨h1, h2⟩, h3⟩ := ha
  have ho : ∃ p, toks[k]? = some ⟨(markT 40).kind, (markT 40).text, (markT 40).num, p⟩ := h1.1
  simp only [List.length_singleton] at h2
  have hl : k + ([markT 40] ++ tokE e).length = k + 1 + (tokE e).length := by simp; omega
  rw [hl] at h3
  have hc : ∃ p, toks[k + 1 + (tokE e).length]? = some ⟨(markT 41).kind, (markT 41).text, (markT 41).num, p⟩ := h3.1
  have hg := h.ors h2 (noTail_mark hc) (ends_mark hc).1 (ends_mark hc).2
  have := Gr.negAtom (not_mark ho) (Gr.parenOk (by rw [accept_at ho]; simp [markT]) hg (by rw [accept_at hc]; simp [markT]))
  rw [show k + ([markT 40] ++ tokE e ++ [markT 41]).length = k + 1 + (tokE e).length + 1 by simp; omega]
  exact this
/-- An argument of not, or of and. -/
theorem Reads.argNeg {toks : List Tok} {e : Ex} (h : Reads toks e) {op : Int} (hop : op ≠ 8) {k : Nat} (ha : AtT toks k (argT op e)) (ht : NoTail toks (k + (argT op e).length)) : Gr toks .neg k [] e 0 (k + (argT op e).length) := by
  unfold argT at *
  by_cases hp : paren op e.op = true
  · rw [if_pos hp] at *
    exact h.parens ha
  · rw [if_neg hp] at *
    simp only [paren, Bool.or_eq_true, Bool.and_eq_true, beq_iff_eq, bne_iff_ne, not_or, not_and] at hp
    exact (h k ha ht).1 (fun e7 => hp.2 e7 hop) hp.1
/-- An argument of or. -/
theorem Reads.argAnds {toks : List Tok} {e : Ex} (h : Reads toks e) {k : Nat} (ha : AtT toks k (argT 8 e)) (ht : NoTail toks (k + (argT 8 e).length)) (h1 : acceptB toks (k + (argT 8 e).length) 1 wAnd = false) : Gr toks .ands k [] e 0 (k + (argT 8 e).length) := by
  unfold argT at *
  by_cases hp : paren 8 e.op = true
  · rw [if_pos hp] at *
    exact Gr.andStop (acc := []) (h.parens ha) h1
  · rw [if_neg hp] at *
    simp only [paren, Bool.or_eq_true, Bool.and_eq_true, beq_iff_eq, bne_iff_ne, not_or, not_and] at hp
    exact h.ands hp.1 ha ht h1

/-- Arguments of and. -/
theorem ands_read {toks : List Tok} : (r : List Ex) → (a : Ex) → (∀ x ∈ a :: r, Reads toks x) → (acc : List Ex) → (k : Nat) → AtT toks k (argT 7 a ++ tokMore 7 r) → NoTail toks (k + (argT 7 a ++ tokMore 7 r).length) → acceptB toks (k + (argT 7 a ++ tokMore 7 r).length) 1 wAnd = false →
    Gr toks .ands k acc (joinE 7 (acc ++ a :: r)) 0 (k + (argT 7 a ++ tokMore 7 r).length)
  | [], a, hr, acc, k, ha, ht, h1 => by
    simp only [tokMore, List.append_nil] at *
    exact Gr.andStop ((hr a (by simp)).argNeg (by decide) ha ht) h1
  | b :: r, a, hr, acc, k, ha, ht, h1 => by
    rw [tokMore_cons, if_pos rfl, AtT.append] at ha
    obtain ⟨ha1, hw, ha2⟩ := ha
    have hlen : k + (argT 7 a ++ tokMore 7 (b :: r)).length = k + (argT 7 a).length + 1 + (argT 7 b ++ tokMore 7 r).length := by rw [tokMore_cons]; simp; omega
    rw [hlen] at ht h1 ⊢
    have hg := (hr a (by simp)).argNeg (op := 7) (by decide) ha1 (noTail_name hw wAnd_ne.1 wAnd_ne.2.1)
    have ih := ands_read r b (fun x hx => hr x (List.mem_cons_of_mem _ hx)) (acc ++ [a]) (k + (argT 7 a).length + 1) ha2 ht h1
    refine Gr.andStep hg (by rw [accept_at hw]; simp [nameT]) ?_
    simpa using ih
/-- Arguments of or. -/
theorem ors_read {toks : List Tok} : (r : List Ex) → (a : Ex) → (∀ x ∈ a :: r, Reads toks x) → (acc : List Ex) → (k : Nat) → AtT toks k (argT 8 a ++ tokMore 8 r) → NoTail toks (k + (argT 8 a ++ tokMore 8 r).length) → acceptB toks (k + (argT 8 a ++ tokMore 8 r).length) 1 wAnd = false → acceptB toks (k + (argT 8 a ++ tokMore 8 r).length) 1 wOr = false →
    Gr toks .ors k acc (joinE 8 (acc ++ a :: r)) 0 (k + (argT 8 a ++ tokMore 8 r).length)
  | [], a, hr, acc, k, ha, ht, h1, h2 => by
    simp only [tokMore, List.append_nil] at *
    exact Gr.orStop ((hr a (by simp)).argAnds ha ht h1) h2
  | b :: r, a, hr, acc, k, ha, ht, h1, h2 => by
    rw [tokMore_cons, if_neg (by decide), AtT.append] at ha
    obtain ⟨ha1, hw, ha2⟩ := ha
    have hlen : k + (argT 8 a ++ tokMore 8 (b :: r)).length = k + (argT 8 a).length + 1 + (argT 8 b ++ tokMore 8 r).length := by rw [tokMore_cons]; simp; omega
    rw [hlen] at ht h1 h2 ⊢
    have hg := (hr a (by simp)).argAnds ha1 (noTail_name hw wAnd_ne.2.2.1 wAnd_ne.2.2.2.1) (by rw [accept_at hw]; simp [nameT, wAnd_ne.2.2.2.2.1])
    have ih := ors_read r b (fun x hx => hr x (List.mem_cons_of_mem _ hx)) (acc ++ [a]) (k + (argT 8 a).length + 1) ha2 ht h1 h2
    refine Gr.orStep hg (by rw [accept_at hw]; simp [nameT]) ?_
    simpa using ih
theorem okTrees_mem {l : List Ex} (h : okTrees l) : ∀ x ∈ l, okTree x := by
  induction l with
  | nil => intro x hx; simp at hx
  | cons e r ih =>
    unfold okTrees at h
    intro x hx
    rcases List.mem_cons.1 hx with rfl | hx
    · exact h.1
    · exact ih h.2 x hx
theorem operand_gr {toks : List Tok} {k : Nat} {e : Ex} {n : Nat} (h1 : acceptB toks k 4 ⟨#[40]⟩ = false) (h2 : acceptB toks k 1 wNot = false) (h3 : operandF toks k = (⟨e, 1, 1⟩, 0, n)) : Gr toks .neg k [] e 0 n := by
  have := Gr.negAtom h2 (Gr.operand h1)
  rw [h3] at this
  exact this
theorem name_start {toks : List Tok} {k : Nat} {s : ByteArray} (h : ∃ p, toks[k]? = some ⟨(nameT s).kind, (nameT s).text, (nameT s).num, p⟩) (hs : s ≠ wNot) : acceptB toks k 4 ⟨#[40]⟩ = false ∧ acceptB toks k 1 wNot = false := by
  constructor <;> (rw [accept_at h]; simp [nameT, hs])
theorem reads_ok (toks : List Tok) (m : Nat) : ∀ e : Ex, e.size ≤ m → okTree e → Reads toks e := by
  induction m with
  | zero => intro e h; have := e.size_eq; omega
  | succ m ih =>
    intro e hm hok k ha ht
    have hsz := e.size_eq
    have hargs : ∀ x ∈ e.args, Reads toks x := fun x hx => ih x (by have := sizes_mem hx; omega) (by
      cases e; unfold okTree at hok; exact okTrees_mem hok.2 x hx)
    have hnode : okNode e := by cases e; unfold okTree at hok; exact hok.1
    obtain ⟨op, name, words, lo, hi, args⟩ := e
    simp only [Ex.op, Ex.name, Ex.words, Ex.lo, Ex.hi, Ex.args, okNode] at hnode hargs ⊢
    rcases hnode with ⟨rfl, rfl, rfl, rfl, rfl, rfl⟩ | ⟨rfl, rfl, rfl, rfl, rfl, rfl⟩ | ⟨rfl, hn, rfl, rfl, rfl, rfl⟩ | ⟨rfl, hn, hw, rfl, rfl, rfl⟩ | ⟨rfl, hn, rfl, hl, hh, hlh, rfl⟩ | ⟨rfl, rfl, rfl, rfl, rfl, hl⟩ | ⟨hop, rfl, rfl, rfl, rfl, hl⟩
    · refine ⟨fun _ _ => ?_, fun h => by simp at h, fun h => by simp at h⟩
      simp only [tokE, if_true, AtT] at ha ⊢
      have hs := name_start ha.1 (by decide +kernel)
      exact operand_gr hs.1 hs.2 (by rw [operandF, if_pos (by rw [accept_at ha.1]; simp [nameT])]; rfl)
    · refine ⟨fun _ _ => ?_, fun h => by simp at h, fun h => by simp at h⟩
      have e0 : tokE (.mk 2 ⟨#[]⟩ [] 0 0 []) = [nameT wFalse] := by simp [tokE]
      rw [e0] at ha ⊢
      simp only [AtT] at ha
      have hs := name_start ha.1 (by decide +kernel)
      exact operand_gr hs.1 hs.2 (by rw [operandF, if_neg (by rw [accept_at ha.1]; simp [nameT, (by decide +kernel : wFalse ≠ wTrue)]), if_pos (by rw [accept_at ha.1]; simp [nameT])]; rfl)
    · refine ⟨fun _ _ => ?_, fun h => by simp at h, fun h => by simp at h⟩
      have e0 : tokE (.mk 3 name [] 0 0 []) = [nameT name] := by simp [tokE]
      rw [e0] at ha ht ⊢
      simp only [AtT] at ha
      obtain ⟨n1, n2, n3, _⟩ := nameB_word hn
      have hs := name_start ha.1 n3
      refine operand_gr hs.1 hs.2 ?_
      rw [operandF, if_neg (by rw [accept_at ha.1]; simp [nameT, n1]), if_neg (by rw [accept_at ha.1]; simp [nameT, n2]), if_neg (by rw [nameTok_at ha.1]; simp [nameT, hn]), if_neg (by have := ht.1; simp at this; simp [this]), if_neg (by have := ht.2; simp at this; simp [this]), text_at ha.1]
      rfl
    · refine ⟨fun _ _ => ?_, fun h => by simp at h, fun h => by simp at h⟩
      have e0 : tokE (.mk 4 name words 0 0 []) = [nameT name, nameT wIn, markT 40] ++ (listedT words ++ [markT 41]) := by simp [tokE]
      rw [e0, AtT.append] at ha
      rw [e0] at ht ⊢
      obtain ⟨⟨a1, a2, a3, _⟩, a4⟩ := ha
      obtain ⟨n1, n2, n3, _⟩ := nameB_word hn
      have hs := name_start a1 n3
      simp only [wordsB, Bool.and_eq_true, bne_iff_ne, decide_eq_true_eq, List.all_eq_true] at hw
      have hlist : listF toks (k + 2) = (words, 0, k + ([nameT name, nameT wIn, markT 40] ++ (listedT words ++ [markT 41])).length) := by
        rw [listF, if_pos (by rw [accept_at a3]; simp [markT]), list_read words (fun e => hw.1.1.1 (by rw [e]; rfl)) (k + 3) 14 [] a4 (by simpa using hw.1.1.2) hw.1.2 (by simpa using hw.2) (by have := hw.1.1.2; omega)]
        simp
        omega
      refine operand_gr hs.1 hs.2 ?_
      rw [operandF, if_neg (by rw [accept_at a1]; simp [nameT, n1]), if_neg (by rw [accept_at a1]; simp [nameT, n2]), if_neg (by rw [nameTok_at a1]; simp [nameT, hn]), if_pos (by rw [accept_at a2]; simp [nameT]), hlist, text_at a1]
      rfl
    · refine ⟨fun _ _ => ?_, fun h => by simp at h, fun h => by simp at h⟩
      have e0 : tokE (.mk 5 name [] lo hi []) = [nameT name, nameT wFrom, numT lo, nameT wTo, numT hi] := by simp [tokE]
      rw [e0] at ha ht ⊢
      obtain ⟨a1, a2, ⟨p3, a3⟩, a4, ⟨p5, a5⟩, _⟩ := ha
      obtain ⟨n1, n2, n3, _⟩ := nameB_word hn
      have hs := name_start a1 n3
      have hb1 : boundF toks (k + 2) (-1000000000) = (lo, 0, k + 3) := by
        have hlo : -1000000000 ≤ lo := by simp [numberB] at hl; exact hl.1
        rw [boundF, a3]
        simp [numT, hl, hlo]
      have hb2 : boundF toks (k + 4) lo = (hi, 0, k + 5) := by
        rw [boundF, a5]
        simp [numT, hh, hlh]
      have hint : intervalF toks (k + 2) = (lo, hi, 0, k + 5) := by
        unfold intervalF
        simp only [hb1]
        rw [if_neg (by simp), if_neg (by rw [show (⟨#[116, 111]⟩ : ByteArray) = wTo from rfl, accept_at a4]; simp [nameT])]
        simp only [hb2]
      refine operand_gr hs.1 hs.2 ?_
      rw [operandF, if_neg (by rw [accept_at a1]; simp [nameT, n1]), if_neg (by rw [accept_at a1]; simp [nameT, n2]), if_neg (by rw [nameTok_at a1]; simp [nameT, hn]), if_neg (by rw [accept_at a2]; simp [nameT, (by decide +kernel : wFrom ≠ wIn)]), if_pos (by rw [accept_at a2]; simp [nameT]), hint, text_at a1]
      rfl
    · refine ⟨fun _ _ => ?_, fun h => by simp at h, fun h => by simp at h⟩
      obtain ⟨x, rfl⟩ : ∃ x, args = [x] := by
        match args, hl with
        | [x], _ => exact ⟨x, rfl⟩
      have e0 : tokE (.mk 6 ⟨#[]⟩ [] 0 0 [x]) = nameT wNot :: argT 6 x := by
        rw [tokE]; simp [tokArgs_cons, tokMore]
      rw [e0] at ha ht ⊢
      have hlen : k + (nameT wNot :: argT 6 x).length = k + 1 + (argT 6 x).length := by simp; omega
      rw [hlen] at ht ⊢
      exact Gr.notOk (by rw [accept_at ha.1]; simp [nameT]) ((hargs x (by simp)).argNeg (by decide) ha.2 ht)
    · obtain ⟨a, b, r, rfl⟩ : ∃ a b r, args = a :: b :: r := by
        match args, hl with
        | a :: b :: r, _ => exact ⟨a, b, r, rfl⟩
      rcases hop with rfl | rfl
      · have e0 : tokE (.mk 7 ⟨#[]⟩ [] 0 0 (a :: b :: r)) = argT 7 a ++ tokMore 7 (b :: r) := by rw [tokE]; simp [tokArgs_cons]
        rw [e0] at ha ht ⊢
        exact ⟨fun h => absurd rfl h, fun _ h1 => ands_read (b :: r) a hargs [] k ha ht h1, fun h => by simp at h⟩
      · have e0 : tokE (.mk 8 ⟨#[]⟩ [] 0 0 (a :: b :: r)) = argT 8 a ++ tokMore 8 (b :: r) := by rw [tokE]; simp [tokArgs_cons]
        rw [e0] at ha ht ⊢
        exact ⟨fun _ h => absurd rfl h, fun h => by simp at h, fun _ h1 h2 => ors_read (b :: r) a hargs [] k ha ht h1 h2⟩
/-- The tokens of an expression at the end of a list are read as the expression. -/
theorem run_ok {toks : List Tok} {e : Ex} {k : Nat} (hok : okTree e) (ha : AtT toks k (tokE e)) (hend : toks.length ≤ k + (tokE e).length) : run toks true k [] lvl0 = (partOf e, 0, k + (tokE e).length) := by
  have hno : ∀ kind text, acceptB toks (k + (tokE e).length) kind text = false := fun kind text => by rw [acceptB, List.getElem?_eq_none hend]
  have := Gr.run ((reads_ok toks e.size e (Nat.le_refl _) hok).ors ha ⟨hno _ _, hno _ _⟩ (hno _ _) (hno _ _))
  simpa using this
end Go.Proofs.YtaepiiediblleaaGreatDoor

namespace Go.Proofs.YtaepiiediblleaaGreatDoor

/-- These bytes stand in a text from an offset on. -/
def AtB (s : ByteArray) : Nat → List UInt8 → Prop
  | _, [] => True
  | i, c :: r => (∃ h : i < s.size, s[i] = c) ∧ AtB s (i + 1) r
theorem AtB.append {s : ByteArray} : (a b : List UInt8) → (i : Nat) → AtB s i (a ++ b) ↔ AtB s i a ∧ AtB s (i + a.length) b
  | [], b, i => by simp [AtB]
  | c :: r, b, i => by
    simp only [List.cons_append, AtB, AtB.append r b (i + 1), List.length_cons]
    rw [show i + 1 + r.length = i + (r.length + 1) by omega]
    exact and_assoc.symm
theorem AtB.get {s : ByteArray} : (b : List UInt8) → (i : Nat) → AtB s i b → ∀ j (hj : j < b.length), ∃ h : i + j < s.size, s[i + j] = b[j]
  | [], i, _, j, hj => by simp at hj
  | c :: r, i, h, 0, _ => by simpa using h.1
  | c :: r, i, h, j + 1, hj => by
    obtain ⟨h1, h2⟩ := AtB.get r (i + 1) h.2 j (by simpa using hj)
    have e : i + 1 + j = i + (j + 1) := by omega
    simp only [e] at h2
    exact ⟨by omega, by simpa using h2⟩
theorem AtB.of_get {s : ByteArray} : (b : List UInt8) → (i : Nat) → (∀ j (hj : j < b.length), ∃ h : i + j < s.size, s[i + j] = b[j]) → AtB s i b
  | [], i, _ => trivial
  | c :: r, i, h => by
    obtain ⟨g1, g2⟩ := h 0 (by simp)
    refine ⟨⟨by simpa using g1, by simpa using g2⟩, AtB.of_get r (i + 1) fun j hj => ?_⟩
    obtain ⟨h1, h2⟩ := h (j + 1) (by simpa using hj)
    have e : i + (j + 1) = i + 1 + j := by omega
    simp only [e] at h2
    exact ⟨by omega, by simpa using h2⟩
theorem AtB.le {s : ByteArray} : (b : List UInt8) → (i : Nat) → i ≤ s.size → AtB s i b → i + b.length ≤ s.size
  | [], i, hi, _ => by simpa using hi
  | c :: r, i, _, h => by
    obtain ⟨h1, _⟩ := h.1
    have := AtB.le r (i + 1) h1 h.2
    simp; omega
theorem atB_self (b : List UInt8) : AtB ⟨b.toArray⟩ 0 b := AtB.of_get b 0 fun j hj => by
  have h : 0 + j < (⟨b.toArray⟩ : ByteArray).size := by simp [ByteArray.size]; omega
  refine ⟨h, ?_⟩
  simp [ByteArray.getElem_eq_getElem_data]
theorem AtB.extract {s : ByteArray} {b : List UInt8} {i : Nat} (h : AtB s i b) (hi : i ≤ s.size) : s.extract i (i + b.length) = ⟨b.toArray⟩ := by
  have hle := AtB.le b i hi h
  apply ByteArray.ext
  apply Array.ext
  · rw [ByteArray.data_extract]
    simp only [Array.size_extract, List.size_toArray]
    have : s.data.size = s.size := rfl
    omega
  · intro j h1 h2
    obtain ⟨h3, h4⟩ := AtB.get b i h j (by simpa using h2)
    simp only [ByteArray.data_extract, Array.getElem_extract, List.getElem_toArray]
    rw [← h4]; rfl
theorem AtB.byte {s : ByteArray} {c : UInt8} {r : List UInt8} {i : Nat} (h : AtB s i (c :: r)) : byteAt s i = (c.toNat : Int) := by
  obtain ⟨h1, h2⟩ := h.1
  rw [byteAt_lt h1, h2]
theorem AtB.span {p : Int → Bool} {s : ByteArray} : (b : List UInt8) → (i : Nat) → AtB s i b → (∀ c ∈ b, p (c.toNat : Int) = true) → p (byteAt s (i + b.length)) = false → spanF p s (s.size - i) i = i + b.length
  | [], i, _, _, h => by
    simp only [List.length_nil, Nat.add_zero] at *
    by_cases hi : i < s.size
    · rw [byteAt_lt hi] at h; exact spanF_stop hi h
    · exact spanF_end hi
  | c :: r, i, h, hall, hend => by
    obtain ⟨⟨h1, h2⟩, h3⟩ := h
    have e : i + (c :: r).length = i + 1 + r.length := by simp; omega
    rw [e] at hend ⊢
    rw [spanF_step h1 (by rw [h2]; exact hall c (by simp)), AtB.span r (i + 1) h3 (fun x hx => hall x (List.mem_cons_of_mem _ hx)) hend]

/-- A word is read as one. -/
theorem tokenF_word {s t : ByteArray} {i : Nat} (hw : wordB t = true) (ha : AtB s i t.data.toList) (hi : i ≤ s.size) (hn : inWordB (byteAt s (i + t.data.toList.length)) = false) : tokenF s i = (⟨1, t, 0, i⟩, ((i + t.data.toList.length : Nat) : Int), 0) := by
  have hsp := AtB.span (p := inWordB) t.data.toList i ha (fun c hc => by
    simp only [wordB, Bool.and_eq_true, beq_iff_eq] at hw
    obtain ⟨j, hj, rfl⟩ := List.getElem_of_mem hc
    have hj' : j < t.size := by simpa using hj
    have := spanF_all inWordB t t.size 0 j hj' (by omega) (by rw [hw.2]; exact hj')
    simpa [ByteArray.getElem_eq_getElem_data] using this) hn
  have hex := ha.extract hi
  have et : (⟨t.data.toList.toArray⟩ : ByteArray) = t := by cases t; simp
  rw [et] at hex
  have hl : letterB (byteAt s i) = true := by
    have hw' := hw
    simp only [wordB, Bool.and_eq_true, bne_iff_ne] at hw'
    obtain ⟨⟨⟨⟨h0, _⟩, h1⟩, _⟩, _⟩ := hw'
    have h0' : 0 < t.size := by omega
    obtain ⟨h3, h4⟩ := AtB.get _ i ha 0 (by simpa using h0')
    rw [byteAt_lt h0'] at h1
    have h3' : i < s.size := by simpa using h3
    have h4' : s[i] = t[0] := by simpa [ByteArray.getElem_eq_getElem_data] using h4
    rw [byteAt_lt h3', h4']; exact h1
  rw [tokenF, if_pos hl, hsp, hex, if_pos hw]

/-- The digits of a number. -/
def digs : Nat → Nat → List UInt8
  | 0, _ => []
  | f + 1, n => if n < 10 then [UInt8.ofNat (48 + n)] else digs f (n / 10) ++ [UInt8.ofNat (48 + n % 10)]
/-- A number in decimal. -/
def decB (n : Int) : List UInt8 := if n < 0 then 45 :: digs 20 n.natAbs else digs 20 n.natAbs
def isDig (c : UInt8) : Prop := 48 ≤ c.toNat ∧ c.toNat ≤ 57
theorem isDig_of {n : Nat} (h : n < 10) : isDig (UInt8.ofNat (48 + n)) := by
  have : (UInt8.ofNat (48 + n)).toNat = 48 + n := by rw [UInt8.toNat_ofNat']; omega
  unfold isDig; omega
theorem digs_all : (f n : Nat) → ∀ c ∈ digs f n, isDig c
  | 0, n, c, h => by simp [digs] at h
  | f + 1, n, c, h => by
    rw [digs] at h
    split at h
    · rename_i hn; rw [List.mem_singleton.1 h]; exact isDig_of hn
    · rcases List.mem_append.1 h with h | h
      · exact digs_all f _ c h
      · rw [List.mem_singleton.1 h]; exact isDig_of (by omega)
def valD (n : Int) (b : List UInt8) : Int := b.foldl (fun a c => a * 10 + ((c.toNat : Int) - 48)) n
theorem valD_digs : (f n : Nat) → n < 10 ^ f → valD 0 (digs f n) = n
  | 0, n, h => by simp at h; simp [digs, valD, h]
  | f + 1, n, h => by
    rw [digs]
    split
    · rename_i hn
      have : (UInt8.ofNat (48 + n)).toNat = 48 + n := by rw [UInt8.toNat_ofNat']; omega
      simp only [valD, List.foldl_cons, List.foldl_nil, this]; omega
    · have h1 : n / 10 < 10 ^ f := by rw [Nat.pow_succ] at h; omega
      have ih := valD_digs f (n / 10) h1
      have : (UInt8.ofNat (48 + n % 10)).toNat = 48 + n % 10 := by rw [UInt8.toNat_ofNat']; omega
      unfold valD at *
      rw [List.foldl_append, ih]
      simp only [List.foldl_cons, List.foldl_nil, this]; omega
theorem valD_ge : (b : List UInt8) → (n : Int) → 0 ≤ n → (∀ c ∈ b, isDig c) → n ≤ valD n b
  | [], n, _, _ => by simp [valD]
  | c :: r, n, h, hall => by
    have hc := hall c (by simp)
    unfold isDig at hc
    have := valD_ge r (n * 10 + ((c.toNat : Int) - 48)) (by omega) (fun x hx => hall x (List.mem_cons_of_mem _ hx))
    simp only [valD, List.foldl_cons] at this ⊢
    omega
theorem digs_ne (f n : Nat) : digs (f + 1) n ≠ [] := by
  rw [digs]; split <;> simp
theorem digs_head : (f n : Nat) → 0 < n → n < 10 ^ f → ∃ c r, digs f n = c :: r ∧ c.toNat ≠ 48
  | 0, n, h, h2 => by simp at h2; omega
  | f + 1, n, h, h2 => by
    rw [digs]
    split
    · rename_i hn
      have : (UInt8.ofNat (48 + n)).toNat = 48 + n := by rw [UInt8.toNat_ofNat']; omega
      exact ⟨_, _, rfl, by omega⟩
    · obtain ⟨c, r, h3, h4⟩ := digs_head f (n / 10) (by omega) (by rw [Nat.pow_succ] at h2; omega)
      exact ⟨c, r ++ _, by rw [h3]; rfl, h4⟩
theorem decF_digits {s : ByteArray} : (b : List UInt8) → (k : Nat) → (n : Int) → AtB s k b → k + b.length = s.size → 0 ≤ n → (∀ c ∈ b, isDig c) → valD n b ≤ 17592186044416 → decF s (s.size - k) k n = some (valD n b)
  | [], k, n, _, hk, _, _, _ => by rw [decF_end (by simp at hk; omega)]; simp [valD]
  | c :: r, k, n, h, hk, hn, hall, hv => by
    obtain ⟨⟨h1, h2⟩, h3⟩ := h
    have hc := hall c (by simp)
    unfold isDig at hc
    have hr : ∀ x ∈ r, isDig x := fun x hx => hall x (List.mem_cons_of_mem _ hx)
    have hge := valD_ge r (n * 10 + ((c.toNat : Int) - 48)) (by omega) hr
    have e : valD n (c :: r) = valD (n * 10 + ((c.toNat : Int) - 48)) r := rfl
    rw [e] at hv ⊢
    rw [decF_step h1 (by rw [h2]; omega), h2]
    exact decF_digits r (k + 1) _ h3 (by simp at hk; omega) (by omega) hr hv
theorem numOf_digits (neg : Bool) {m : Nat} (hm : m ≤ 17592186044416) (h0 : neg = true → 0 < m) : numOf neg ⟨(digs 20 m).toArray⟩ = (if neg then -(m : Int) else m, 0) := by
  have hp : m < 10 ^ 20 := by omega
  have hat := atB_self (digs 20 m)
  have hsz : (⟨(digs 20 m).toArray⟩ : ByteArray).size = (digs 20 m).length := by simp [ByteArray.size]
  have hne : (digs 20 m).length ≠ 0 := fun h => digs_ne 19 m (List.eq_nil_of_length_eq_zero h)
  have hd := decF_digits (digs 20 m) 0 0 hat (by rw [hsz]; omega) (by omega) (digs_all 20 m) (by rw [valD_digs 20 m hp]; omega)
  rw [valD_digs 20 m hp] at hd
  rw [numOf, if_neg, hd]
  rintro (h | ⟨h1, h2⟩)
  · omega
  · rcases Nat.eq_zero_or_pos m with rfl | hpos
    · rcases h2 with h2 | h2
      · have := h0 h2; omega
      · rw [hsz] at h2; revert h2; decide
    · obtain ⟨c, r, h3, h4⟩ := digs_head 20 m hpos hp
      rw [h3] at hat h1
      rw [hat.byte] at h1
      exact h4 (by omega)
theorem toNat_inj {a b : UInt8} (h : a.toNat = b.toNat) : a = b := UInt8.toNat_inj.1 h
/-- A number is read as one. -/
theorem tokenF_number {s : ByteArray} {n : Int} {i : Nat} (h1 : -17592186044416 ≤ n) (h2 : n ≤ 17592186044416) (ha : AtB s i (decB n)) (hi : i ≤ s.size) (hn : inWordB (byteAt s (i + (decB n).length)) = false) : tokenF s i = (⟨2, ⟨#[]⟩, n, i⟩, ((i + (decB n).length : Nat) : Int), 0) := by
  have hnd : digitB (byteAt s (i + (decB n).length)) = false := by simp [inWordB] at hn; simp [hn]
  have hdig : ∀ c ∈ digs 20 n.natAbs, digitB (c.toNat : Int) = true := fun c hc => by have := digs_all _ _ c hc; unfold isDig at this; simp [digitB]; omega
  have hex := ha.extract hi
  obtain ⟨c, r, hcr⟩ : ∃ c r, digs 20 n.natAbs = c :: r := by
    cases h : digs 20 n.natAbs with
    | nil => exact absurd h (digs_ne 19 _)
    | cons c r => exact ⟨c, r, rfl⟩
  have hc : isDig c := digs_all 20 n.natAbs c (by rw [hcr]; simp)
  unfold isDig at hc
  by_cases hneg : n < 0
  · have e : decB n = 45 :: digs 20 n.natAbs := by rw [decB, if_pos hneg]
    rw [e] at ha hex hnd ⊢
    have hb := ha.byte
    have hsp := AtB.span (p := digitB) (digs 20 n.natAbs) (i + 1) ha.2 hdig (by simpa [Nat.add_assoc, Nat.add_comm 1] using hnd)
    have e2 : i + (45 :: digs 20 n.natAbs).length = i + 1 + (digs 20 n.natAbs).length := by simp; omega
    rw [e2] at hex ⊢
    have hnum : numberF (⟨(45 :: digs 20 n.natAbs).toArray⟩ : ByteArray) = (n, 0) := by
      have ha2 := atB_self (45 :: digs 20 n.natAbs)
      rw [numberF, if_pos (by rw [ha2.byte]; rfl)]
      have h3 := AtB.extract (s := ⟨(45 :: digs 20 n.natAbs).toArray⟩) (i := 1) ha2.2 (by simp [ByteArray.size])
      rw [show (⟨(45 :: digs 20 n.natAbs).toArray⟩ : ByteArray).size = 1 + (digs 20 n.natAbs).length by simp [ByteArray.size]; omega, h3, numOf_digits true (by omega) (by omega)]
      simp; omega
    rw [tokenF, if_neg (by rw [hb]; decide), if_pos (by rw [hb]; decide), hsp, hex, hnum, if_pos rfl]
  · have e : decB n = digs 20 n.natAbs := by rw [decB, if_neg hneg]
    rw [e] at ha hex hnd ⊢
    have ha' := ha
    rw [hcr] at ha'
    have hb := ha'.byte
    have hsp := AtB.span (p := digitB) r (i + 1) ha'.2 (fun x hx => hdig x (by rw [hcr]; exact List.mem_cons_of_mem _ hx)) (by rw [hcr] at hnd; simpa [Nat.add_assoc, Nat.add_comm 1] using hnd)
    have e2 : i + (digs 20 n.natAbs).length = i + 1 + r.length := by rw [hcr]; simp; omega
    rw [e2] at hex ⊢
    have hnum : numberF (⟨(digs 20 n.natAbs).toArray⟩ : ByteArray) = (n, 0) := by
      have ha2 := atB_self (digs 20 n.natAbs)
      rw [hcr] at ha2
      rw [numberF, if_neg (by rw [hcr, ha2.byte]; omega), numOf_digits false (by omega) (by simp)]
      simp; omega
    have hdg : digitB (byteAt s i) = true := by rw [hb]; simp [digitB]; omega
    have hlt : letterB (byteAt s i) = false := by rw [hb]; simp [letterB]; omega
    rw [tokenF, if_neg (by rw [hlt]; simp), if_pos (by rw [hdg]; rfl), hsp, hex, hnum, if_pos rfl]
/-- A mark is read as one. -/
theorem tokenF_mark {s : ByteArray} {c : UInt8} {i : Nat} (hm : markB (c.toNat : Int) = true) (ha : AtB s i [c]) (hi : i ≤ s.size) : tokenF s i = (⟨4, ⟨#[c]⟩, 0, i⟩, ((i + 1 : Nat) : Int), 0) := by
  have hex := ha.extract hi
  have hb := ha.byte
  simp only [List.length_singleton] at hex
  have hc : c.toNat = 59 ∨ c.toNat = 58 ∨ c.toNat = 44 ∨ c.toNat = 40 ∨ c.toNat = 41 := by simp [markB] at hm; omega
  rw [tokenF, if_neg (by rw [hb]; simp [letterB]; omega), if_neg (by rw [hb]; simp [digitB]; omega), if_pos (by rw [hb]; exact hm), hex]
end Go.Proofs.YtaepiiediblleaaGreatDoor
