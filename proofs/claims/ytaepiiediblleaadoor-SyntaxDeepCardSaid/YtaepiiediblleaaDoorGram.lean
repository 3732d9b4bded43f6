import Derived.Test.YtaepiiediblleaaDoorLevel9
namespace Go.Proofs.YtaepiiediblleaaDoor

mutual
def Ex.depth : Ex → Nat
  | .mk _ _ _ _ _ args => depths args + 1
def depths : List Ex → Nat
  | [] => 0
  | e :: r => max e.depth (depths r)
end
theorem Ex.depth_eq (e : Ex) : e.depth = depths e.args + 1 := by cases e; simp [Ex.depth, Ex.args]
theorem Ex.size_eq (e : Ex) : e.size = 1 + sizes e.args := by cases e; simp [Ex.size, Ex.args]
mutual
theorem Ex.depth_le : (e : Ex) → e.depth ≤ e.size
  | .mk _ _ _ _ _ args => by have := depths_le args; simp [Ex.depth, Ex.size]; omega
theorem depths_le : (l : List Ex) → depths l ≤ sizes l
  | [] => by simp [depths]
  | e :: r => by have := Ex.depth_le e; have := depths_le r; simp [depths, sizes]; omega
end
theorem depths_append (l m : List Ex) : depths (l ++ m) = max (depths l) (depths m) := by
  induction l with
  | nil => simp [depths]
  | cons e r ih => simp only [List.cons_append, depths, ih]; omega
theorem depths_take_succ (l : List Ex) (k : Nat) (hk : k < l.length) : depths (l.take (k + 1)) = max (depths (l.take k)) l[k].depth := by
  rw [List.take_succ_eq_append_getElem hk, depths_append]; simp [depths]
theorem depths_mem {l : List Ex} {e : Ex} (h : e ∈ l) : e.depth ≤ depths l := by
  induction l with
  | nil => simp at h
  | cons a r ih =>
    rcases List.mem_cons.1 h with rfl | h
    · simp only [depths]; omega
    · have := ih h; simp only [depths]; omega
theorem sizes_mem {l : List Ex} {e : Ex} (h : e ∈ l) : e.size ≤ sizes l := by
  induction l with
  | nil => simp at h
  | cons a r ih =>
    rcases List.mem_cons.1 h with rfl | h
    · simp [sizes]
    · have := ih h; simp [sizes]; omega

/-- An expression as a part: beyond the limits only its size and its depth. -/
def partOf (e : Ex) : Part := if 300 < e.size ∨ 16 < e.depth then ⟨ex0, e.size, e.depth⟩ else ⟨e, e.size, e.depth⟩
theorem partOf_size (e : Ex) : (partOf e).size = e.size := by unfold partOf; split <;> rfl
theorem partOf_depth (e : Ex) : (partOf e).depth = e.depth := by unfold partOf; split <;> rfl
theorem partOf_ex {e : Ex} (h1 : e.size ≤ 300) (h2 : e.depth ≤ 16) : (partOf e).ex = e := by unfold partOf; rw [if_neg (by omega)]
theorem sumSize_partOf (l : List Ex) : sumSize (l.map partOf) = sizes l := by
  induction l with
  | nil => simp [sumSize, sizes]
  | cons a r ih => simp [sumSize, sizes, ih, partOf_size]
theorem maxDepth_foldl (l : List Ex) : ∀ d, (l.map partOf).foldl (fun d p => max d p.depth) d = max d (depths l) := by
  induction l with
  | nil => intro d; simp [depths]
  | cons a r ih => intro d; simp only [List.map_cons, List.foldl_cons, depths, ih, partOf_depth]; omega
theorem maxDepth_partOf (l : List Ex) : maxDepth (l.map partOf) = depths l := by unfold maxDepth; rw [maxDepth_foldl]; omega
theorem map_partOf_ex {l : List Ex} (h1 : sizes l ≤ 300) (h2 : depths l ≤ 16) : (l.map partOf).map (·.ex) = l := by
  rw [List.map_map]
  have : ∀ e ∈ l, ((·.ex) ∘ partOf) e = id e := fun e he => by
    have h3 := sizes_mem he
    have h4 := depths_mem he
    exact partOf_ex (by omega) (by omega)
  rw [List.map_congr_left this]
  simp
theorem composedF_partOf (op : Int) (l : List Ex) : composedF op (l.map partOf) = partOf (.mk op ⟨#[]⟩ [] 0 0 l) := by
  have e1 : partOf (.mk op ⟨#[]⟩ [] 0 0 l) = if 300 < 1 + sizes l ∨ 16 < depths l + 1 then ⟨ex0, 1 + sizes l, depths l + 1⟩ else ⟨.mk op ⟨#[]⟩ [] 0 0 l, 1 + sizes l, depths l + 1⟩ := by
    by_cases h : 300 < 1 + sizes l ∨ 16 < depths l + 1
    · rw [partOf, if_pos (by simpa only [Ex.size, Ex.depth] using h), if_pos h]; simp only [Ex.size, Ex.depth]
    · rw [partOf, if_neg (by simpa only [Ex.size, Ex.depth] using h), if_neg h]; simp only [Ex.size, Ex.depth]
  rw [e1, composedF, sumSize_partOf, maxDepth_partOf]
  by_cases h : 300 < 1 + sizes l ∨ 16 < depths l + 1
  · rw [if_pos h, if_pos h]
  · rw [if_neg h, if_neg h, map_partOf_ex (by omega) (by omega)]
/-- The operator with all arguments, or the only one. -/
def joinE (op : Int) (l : List Ex) : Ex := match l with | [e] => e | l => .mk op ⟨#[]⟩ [] 0 0 l
theorem joinedF_partOf (op : Int) (l : List Ex) : joinedF op (l.map partOf) = partOf (joinE op l) := by
  match l with
  | [] => exact composedF_partOf op []
  | [e] => rfl
  | a :: b :: r => exact composedF_partOf op (a :: b :: r)
theorem itF_swap (n : Nat) (p : Part) : itF n (composedF 6 [p]) = itF (n + 1) p := by
  induction n with
  | zero => rfl
  | succ n ih => rw [itF, ih]; rfl

/-- What is read: atom, with negations, with and, with or. -/
inductive Lev where
  | atom | neg | ands | ors

def operandE (toks : List Tok) (k : Nat) : Ex × Int × Nat := ((operandF toks k).1.ex, (operandF toks k).2.1, (operandF toks k).2.2)

/-- The grammar: from the k-th token on, after the arguments acc, these are read: an expression, 0 and the index behind it, or an error and its index. -/
inductive Gr (toks : List Tok) : Lev → Nat → List Ex → Ex → Int → Nat → Prop
  | parenOk {k e k1} : acceptB toks k 4 ⟨#[40]⟩ = true → Gr toks .ors (k + 1) [] e 0 k1 → acceptB toks k1 4 ⟨#[41]⟩ = true → Gr toks .atom k [] e 0 (k1 + 1)
  | parenErr {k e er k1} : acceptB toks k 4 ⟨#[40]⟩ = true → Gr toks .ors (k + 1) [] e er k1 → er ≠ 0 → Gr toks .atom k [] ex0 er k1
  | parenNo {k e k1} : acceptB toks k 4 ⟨#[40]⟩ = true → Gr toks .ors (k + 1) [] e 0 k1 → acceptB toks k1 4 ⟨#[41]⟩ = false → Gr toks .atom k [] ex0 5 k1
  | operand {k} : acceptB toks k 4 ⟨#[40]⟩ = false → Gr toks .atom k [] (operandF toks k).1.ex (operandF toks k).2.1 (operandF toks k).2.2
  | notOk {k e k1} : acceptB toks k 1 wNot = true → Gr toks .neg (k + 1) [] e 0 k1 → Gr toks .neg k [] (.mk 6 ⟨#[]⟩ [] 0 0 [e]) 0 k1
  | notErr {k e er k1} : acceptB toks k 1 wNot = true → Gr toks .neg (k + 1) [] e er k1 → er ≠ 0 → Gr toks .neg k [] ex0 er k1
  | negAtom {k e er k1} : acceptB toks k 1 wNot = false → Gr toks .atom k [] e er k1 → Gr toks .neg k [] e er k1
  | andStep {k acc e k1 e2 er k2} : Gr toks .neg k [] e 0 k1 → acceptB toks k1 1 wAnd = true → Gr toks .ands (k1 + 1) (acc ++ [e]) e2 er k2 → Gr toks .ands k acc e2 er k2
  | andStop {k acc e k1} : Gr toks .neg k [] e 0 k1 → acceptB toks k1 1 wAnd = false → Gr toks .ands k acc (joinE 7 (acc ++ [e])) 0 k1
  | andErr {k acc e er k1} : Gr toks .neg k [] e er k1 → er ≠ 0 → Gr toks .ands k acc ex0 er k1
  | orStep {k acc e k1 e2 er k2} : Gr toks .ands k [] e 0 k1 → acceptB toks k1 1 wOr = true → Gr toks .ors (k1 + 1) (acc ++ [e]) e2 er k2 → Gr toks .ors k acc e2 er k2
  | orStop {k acc e k1} : Gr toks .ands k [] e 0 k1 → acceptB toks k1 1 wOr = false → Gr toks .ors k acc (joinE 8 (acc ++ [e])) 0 k1
  | orErr {k acc e er k1} : Gr toks .ands k [] e er k1 → er ≠ 0 → Gr toks .ors k acc ex0 er k1

def bd (tn : Nat) (m : Bool) (k : Nat) : Nat := if m then 2 * (tn - k) + 2 else 2 * (tn - k) + 1

theorem acceptB_lt {toks : List Tok} {k : Nat} {kind : Int} {text : ByteArray} (h : acceptB toks k kind text = true) : k < toks.length := by
  by_cases hlt : k < toks.length
  · exact hlt
  · rw [acceptB, List.getElem?_eq_none (by omega)] at h; cases h

theorem runF_fuel (toks : List Tok) : ∀ (f g : Nat) (m : Bool) (k : Nat) (li : List Lvl) (t : Lvl), bd toks.length m k ≤ f → bd toks.length m k ≤ g → runF toks toks.length f m k li t = runF toks toks.length g m k li t := by
  intro f
  induction f with
  | zero => intro g m k li t h; unfold bd at h; split at h <;> omega
  | succ f ih =>
    intro g m k li t hf hg
    obtain ⟨g, rfl⟩ : ∃ g', g = g' + 1 := ⟨g - 1, by unfold bd at hg; split at hg <;> omega⟩
    cases m with
    | true =>
      simp only [bd, if_true] at hf hg
      simp only [runF]
      split
      · rfl
      · have h1 := prefixF_ge toks (toks.length - k + 1) k li t
        have h2 := operandF_ge0 toks (prefixF toks (toks.length - k + 1) k li t).1
        refine ih g false _ _ _ ?_ ?_ <;> (simp only [bd, Bool.false_eq_true, if_false]; omega)
    | false =>
      simp only [bd, Bool.false_eq_true, if_false] at hf hg
      simp only [runF]
      split
      · rename_i h
        have := acceptB_lt h
        refine ih g true _ _ _ ?_ ?_ <;> (simp only [bd, if_true]; omega)
      · split
        · rename_i h
          have := acceptB_lt h
          refine ih g true _ _ _ ?_ ?_ <;> (simp only [bd, if_true]; omega)
        · split
          · rfl
          · split
            · rename_i h
              have := acceptB_lt h
              refine ih g false _ _ _ ?_ ?_ <;> (simp only [bd, Bool.false_eq_true, if_false]; omega)
            · rfl

/-- The run with enough steps. -/
def run (toks : List Tok) (m : Bool) (k : Nat) (li : List Lvl) (t : Lvl) : Part × Int × Nat := runF toks toks.length (bd toks.length m k) m k li t
theorem runF_run (toks : List Tok) {f : Nat} {m : Bool} {k : Nat} {li : List Lvl} {t : Lvl} (h : bd toks.length m k ≤ f) : runF toks toks.length f m k li t = run toks m k li t := runF_fuel toks _ _ _ _ _ _ h (Nat.le_refl _)

theorem runF_true (toks : List Tok) (tn f k : Nat) (li : List Lvl) (t : Lvl) : runF toks tn (f + 1) true k li t =
    if (operandF toks (prefixF toks (tn - k + 1) k li t).1).2.1 ≠ 0 then (⟨ex0, 0, 0⟩, (operandF toks (prefixF toks (tn - k + 1) k li t).1).2.1, (operandF toks (prefixF toks (tn - k + 1) k li t).1).2.2) else
    runF toks tn f false (operandF toks (prefixF toks (tn - k + 1) k li t).1).2.2 (prefixF toks (tn - k + 1) k li t).2.1 (withPart (prefixF toks (tn - k + 1) k li t).2.2 (operandF toks (prefixF toks (tn - k + 1) k li t).1).1) := by rw [runF]
/-- The run behind the prefix. -/
def runA (toks : List Tok) (a : Nat × List Lvl × Lvl) : Part × Int × Nat :=
  if (operandF toks a.1).2.1 ≠ 0 then (⟨ex0, 0, 0⟩, (operandF toks a.1).2.1, (operandF toks a.1).2.2) else run toks false (operandF toks a.1).2.2 a.2.1 (withPart a.2.2 (operandF toks a.1).1)
theorem run_true (toks : List Tok) (k : Nat) (li : List Lvl) (t : Lvl) : run toks true k li t = runA toks (prefixF toks (toks.length - k + 1) k li t) := by
  have h1 := prefixF_ge toks (toks.length - k + 1) k li t
  have h2 := operandF_ge0 toks (prefixF toks (toks.length - k + 1) k li t).1
  show runF toks toks.length (2 * (toks.length - k) + 1 + 1) true k li t = _
  rw [runF_true, runA]
  split
  · rfl
  · refine runF_run toks (m := false) ?_
    simp only [bd, Bool.false_eq_true, if_false]; omega
theorem run_not {toks : List Tok} {k : Nat} {li : List Lvl} {t : Lvl} (h : acceptB toks k 1 wNot = true) : run toks true k li t = run toks true (k + 1) li ⟨t.nots + 1, t.ands, t.ors⟩ := by
  have hk := acceptB_lt h
  rw [run_true, run_true, prefixF, if_pos h, show toks.length - (k + 1) + 1 = toks.length - k by omega]
theorem run_paren {toks : List Tok} {k : Nat} {li : List Lvl} {t : Lvl} (h0 : acceptB toks k 1 wNot = false) (h : acceptB toks k 4 ⟨#[40]⟩ = true) : run toks true k li t = run toks true (k + 1) (li ++ [t]) lvl0 := by
  have hk := acceptB_lt h
  rw [run_true, run_true, prefixF, if_neg (by simp [h0]), if_pos h, show toks.length - (k + 1) + 1 = toks.length - k by omega]
theorem run_operand {toks : List Tok} {k : Nat} {li : List Lvl} {t : Lvl} (h0 : acceptB toks k 1 wNot = false) (h : acceptB toks k 4 ⟨#[40]⟩ = false) : run toks true k li t = runA toks (k, li, t) := by
  rw [run_true, prefixF, if_neg (by simp [h0]), if_neg (by simp [h])]
theorem run_and {toks : List Tok} {k : Nat} {li : List Lvl} {t : Lvl} (h : acceptB toks k 1 wAnd = true) : run toks false k li t = run toks true (k + 1) li t := by
  have hk := acceptB_lt h
  show runF toks toks.length (2 * (toks.length - k) + 1) false k li t = _
  rw [runF, if_pos h]
  exact runF_run toks (by simp only [bd, if_true]; omega)

def contClose (toks : List Tok) (k : Nat) (li : List Lvl) (p : Part) : Part × Int × Nat := match li.getLast? with
  | none => (p, 0, k)
  | some t' => if acceptB toks k 4 ⟨#[41]⟩ = true then run toks false (k + 1) li.dropLast (withPart t' p) else (⟨ex0, 0, 0⟩, 5, k)
def contOr (toks : List Tok) (k : Nat) (li : List Lvl) (p : Part) (ors : List Part) : Part × Int × Nat :=
  if acceptB toks k 1 wOr = true then run toks true (k + 1) li ⟨0, [], ors ++ [p]⟩ else contClose toks k li (joinedF 8 (ors ++ [p]))
theorem run_or {toks : List Tok} {k : Nat} {li : List Lvl} {ands ors : List Part} (h : acceptB toks k 1 wAnd = false) : run toks false k li ⟨0, ands, ors⟩ = contOr toks k li (joinedF 7 ands) ors := by
  show runF toks toks.length (2 * (toks.length - k) + 1) false k li _ = _
  rw [runF, if_neg (by simp [h]), contOr]
  split
  · rename_i h2
    have hk := acceptB_lt h2
    exact runF_run toks (by simp only [bd, if_true]; omega)
  · rw [contClose]
    cases li.getLast? with
    | none => rfl
    | some t' =>
      simp only [wholeF]
      split
      · rename_i h2
        have hk := acceptB_lt h2
        exact runF_run toks (by simp only [bd, Bool.false_eq_true, if_false]; omega)
      · rfl

/-- What the grammar reads is what the parser's run comes to. -/
def Says (toks : List Tok) : Lev → Nat → List Ex → Ex → Int → Nat → Prop
  | .atom, k, _, e, er, k1 => acceptB toks k 1 wNot = false → ∀ li t, run toks true k li t = if er ≠ 0 then (⟨ex0, 0, 0⟩, er, k1) else run toks false k1 li (withPart t (partOf e))
  | .neg, k, _, e, er, k1 => ∀ li t, run toks true k li t = if er ≠ 0 then (⟨ex0, 0, 0⟩, er, k1) else run toks false k1 li (withPart t (partOf e))
  | .ands, k, acc, e, er, k1 => ∀ li ors, run toks true k li ⟨0, acc.map partOf, ors⟩ = if er ≠ 0 then (⟨ex0, 0, 0⟩, er, k1) else contOr toks k1 li (partOf e) ors
  | .ors, k, acc, e, er, k1 => ∀ li, run toks true k li ⟨0, [], acc.map partOf⟩ = if er ≠ 0 then (⟨ex0, 0, 0⟩, er, k1) else contClose toks k1 li (partOf e)

theorem acceptB_two {toks : List Tok} {k : Nat} {a b : Int} {s t : ByteArray} (h : acceptB toks k a s = true) (hab : a ≠ b) : acceptB toks k b t = false := by
  unfold acceptB at *
  cases hk : toks[k]? with
  | none => rfl
  | some x =>
    rw [hk] at h
    simp only [Bool.and_eq_true, beq_iff_eq] at h
    simp only [Bool.and_eq_false_iff]
    left
    simp [h.1, hab]

theorem partOf_operand {toks : List Tok} {k : Nat} (h : (operandF toks k).2.1 = 0) : partOf (operandF toks k).1.ex = (operandF toks k).1 := by
  have h2 := operandF_ok toks k h
  have h3 : (operandF toks k).1.ex.args = [] := by
    unfold operandF
    (repeat' split) <;> rfl
  have h4 := Ex.size_eq (operandF toks k).1.ex
  have h5 := Ex.depth_eq (operandF toks k).1.ex
  rw [h3] at h4 h5
  simp only [sizes, depths] at h4 h5
  unfold partOf
  rw [if_neg (by omega), h4, h5]
  generalize operandF toks k = R at *
  obtain ⟨⟨ex, s, d⟩, er, k1⟩ := R
  simp only at h2 ⊢
  rw [h2.1, h2.2.1]

theorem Gr.says {toks : List Tok} {s : Lev} {k : Nat} {acc : List Ex} {e : Ex} {er : Int} {k1 : Nat} (h : Gr toks s k acc e er k1) : Says toks s k acc e er k1 := by
  induction h with
  | parenOk h1 _ h2 ih =>
    intro h0 li t
    rw [run_paren h0 h1, show lvl0 = ⟨0, [], ([] : List Ex).map partOf⟩ from rfl, ih (li ++ [t])]
    simp [contClose, h2]
  | parenErr h1 _ h2 ih =>
    intro h0 li t
    rw [run_paren h0 h1, show lvl0 = ⟨0, [], ([] : List Ex).map partOf⟩ from rfl, ih (li ++ [t])]
    simp [h2]
  | parenNo h1 _ h2 ih =>
    intro h0 li t
    rw [run_paren h0 h1, show lvl0 = ⟨0, [], ([] : List Ex).map partOf⟩ from rfl, ih (li ++ [t])]
    simp [contClose, h2]
  | operand h1 =>
    intro h0 li t
    rw [run_operand h0 h1, runA]
    split
    · rfl
    · rename_i h
      rw [partOf_operand (by simpa using h)]
  | notOk h1 _ ih =>
    intro li t
    rw [run_not h1, ih]
    simp only [ne_eq, not_true_eq_false, if_false]
    rename_i e2 _ _
    have := composedF_partOf 6 [e2]
    simp only [withPart, ← this, List.map_cons, List.map_nil, itF_swap]
  | notErr h1 _ h2 ih =>
    intro li t
    rw [run_not h1, ih]
    simp [h2]
  | negAtom h1 _ ih => exact ih h1
  | andStep _ h2 _ ih1 ih2 =>
    intro li ors
    rw [ih1]
    simp only [ne_eq, not_true_eq_false, if_false, withPart, itF]
    rw [run_and h2]
    have := ih2 li ors
    simpa using this
  | andStop _ h2 ih =>
    intro li ors
    rw [ih]
    simp only [ne_eq, not_true_eq_false, if_false, withPart, itF]
    rw [run_or h2, ← joinedF_partOf]
    simp
  | andErr _ h2 ih =>
    intro li ors
    rw [ih]
    simp [h2]
  | orStep _ h2 _ ih1 ih2 =>
    intro li
    have := ih1 li
    rw [show ([] : List Part) = ([] : List Ex).map partOf from rfl, this]
    simp only [ne_eq, not_true_eq_false, if_false]
    rw [contOr, if_pos h2]
    have := ih2 li
    simpa using this
  | orStop _ h2 ih =>
    intro li
    have := ih li
    rw [show ([] : List Part) = ([] : List Ex).map partOf from rfl, this]
    simp only [ne_eq, not_true_eq_false, if_false]
    rw [contOr, if_neg (by simp [h2]), ← joinedF_partOf]
    simp
  | orErr _ h2 ih =>
    intro li
    have := ih li
    rw [show ([] : List Part) = ([] : List Ex).map partOf from rfl, this]
    simp [h2]

theorem Gr.run {toks : List Tok} {k : Nat} {e : Ex} {er : Int} {k1 : Nat} (h : Gr toks .ors k [] e er k1) : run toks true k [] lvl0 = if er ≠ 0 then (⟨ex0, 0, 0⟩, er, k1) else (partOf e, 0, k1) := by
  have := h.says []
  rw [show lvl0 = ⟨0, [], ([] : List Ex).map partOf⟩ from rfl, this]
  simp [contClose]
end Go.Proofs.YtaepiiediblleaaDoor
