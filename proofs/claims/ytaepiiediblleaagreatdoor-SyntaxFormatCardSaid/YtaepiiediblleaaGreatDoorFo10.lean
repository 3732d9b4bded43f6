/-
  Texts of the claim, joined: Level9, Gram, Level10, Tokens.
-/
import Derived.Test.YtaepiiediblleaaGreatDoorFo09
namespace Go.Proofs.YtaepiiediblleaaGreatDoor
open Go.RowKit

def withPart (t : Lvl) (p : Part) : Lvl := ⟨0, t.ands ++ [itF t.nots p], t.ors⟩
def wholeF (t : Lvl) : Part := joinedF 8 (t.ors ++ [joinedF 7 t.ands])

/-- The parser's run: outer (true): before an operand; inner (false): behind one. -/
def runF (toks : List Tok) (tn : Nat) : Nat → Bool → Nat → List Lvl → Lvl → Part × Int × Nat
  | 0, _, k, _, _ => (⟨ex0, 0, 0⟩, 5, k)
  | f + 1, true, k, li, t =>
    let a := prefixF toks (tn - k + 1) k li t
    let o := operandF toks a.1
    if o.2.1 ≠ 0 then (⟨ex0, 0, 0⟩, o.2.1, o.2.2) else runF toks tn f false o.2.2 a.2.1 (withPart a.2.2 o.1)
  | f + 1, false, k, li, t =>
    if acceptB toks k 1 wAnd = true then runF toks tn f true (k + 1) li t else
    if acceptB toks k 1 wOr = true then runF toks tn f true (k + 1) li ⟨t.nots, [], t.ors ++ [joinedF 7 t.ands]⟩ else
    match li.getLast? with
    | none => (wholeF t, 0, k)
    | some t' => if acceptB toks k 4 ⟨#[41]⟩ = true then runF toks tn f false (k + 1) li.dropLast (withPart t' (wholeF t)) else (⟨ex0, 0, 0⟩, 5, k)

theorem listLoop_ge (toks : List Tok) : ∀ (f k : Nat) (acc : List ByteArray), k ≤ (listLoop toks f k acc).2.2
  | 0, k, acc => by simp [listLoop]
  | f + 1, k, acc => by
    have := listLoop_ge toks f (k + 2) (acc ++ [textAt toks k])
    rw [listLoop]
    (repeat' split) <;> simp <;> omega
theorem listF_ge (toks : List Tok) (k : Nat) : k ≤ (listF toks k).2.2 := by
  have := listLoop_ge toks 14 (k + 1) []
  rw [listF]
  split <;> simp <;> omega
theorem boundF_ge (toks : List Tok) (k : Nat) (n : Int) : k ≤ (boundF toks k n).2.2 := by
  unfold boundF
  (repeat' split) <;> simp
theorem intervalF_ge (toks : List Tok) (k : Nat) : k ≤ (intervalF toks k).2.2.2 := by
  have h1 := boundF_ge toks k (-1000000000)
  have h2 := boundF_ge toks ((boundF toks k (-1000000000)).2.2 + 1) (boundF toks k (-1000000000)).1
  unfold intervalF
  simp only
  (repeat' split) <;> simp only <;> omega
theorem operandF_ok (toks : List Tok) (k : Nat) (h : (operandF toks k).2.1 = 0) : (operandF toks k).1.size = 1 ∧ (operandF toks k).1.depth = 1 ∧ k + 1 ≤ (operandF toks k).2.2 := by
  have h1 := listF_ge toks (k + 2)
  have h2 := intervalF_ge toks (k + 2)
  revert h
  unfold operandF
  (repeat' split) <;> simp <;> omega
theorem prefixF_ge (toks : List Tok) : ∀ (f k : Nat) (li : List Lvl) (t : Lvl), k ≤ (prefixF toks f k li t).1
  | 0, k, li, t => by simp [prefixF]
  | f + 1, k, li, t => by
    have h1 := prefixF_ge toks f (k + 1) li ⟨t.nots + 1, t.ands, t.ors⟩
    have h2 := prefixF_ge toks f (k + 1) (li ++ [t]) lvl0
    rw [prefixF]
    (repeat' split) <;> simp <;> omega
theorem wholeF_size (t : Lvl) : (wholeF t).size ≤ 2 + sumSize t.ors + sumSize t.ands := by
  have h1 := joinedF_size 8 (t.ors ++ [joinedF 7 t.ands])
  have h2 := joinedF_size 7 t.ands
  rw [sumSize_append] at h1
  simp only [sumSize] at h1
  unfold wholeF
  omega
theorem wholeF_tidy (t : Lvl) (h : Tidy t.ands ∧ Tidy t.ors) : (wholeF t).depth ≤ (wholeF t).size := joinedF_tidy 8 _ (tidy_snoc h.2 (joinedF_tidy 7 _ h.1))

/-- From state to state. -/
def Moves (toks : List Tok) (ta : Option Addr) (tn tc : Nat) (w0 w : World) (bp k : Nat) (li : List Lvl) (t : Lvl) (M X : List Nat) (w' : World) : Prop :=
  ∃ M', PS toks ta tn tc w0 w' bp k li t M' X ∧ Chg M w w' ∧ ∀ y ∈ M', y ∈ M ∨ w.heap.size ≤ y

theorem add_ps {toks : List Tok} {ta : Option Addr} {tn tc : Nat} {w0 w : World} {bp k : Nat} {li : List Lvl} {t : Lvl} {M X : List Nat} (h : PS toks ta tn tc w0 w bp k li t M X) (p : Part) (v : PartV) (hp : PartR (mask w (X ++ M)) p v) (hpt : p.depth ≤ p.size) (hpot : potAll (li ++ [t]) + p.size + 1 ≤ 2 * k) :
    Calls Tryz.prog 40 #[.pointer (some ⟨bp, 0, none⟩), v.val] w (fun e w' => e = .returned (.tuple #[]) ∧ Moves toks ta tn tc w0 w bp k li (withPart t p) M X w') := by
  obtain ⟨vl, l, x, hI, hll⟩ := h
  refine (add_calls hI hll p v hp hpt hpot).mono ?_
  rintro e w' ⟨he, x', M', h1, h2, h3⟩
  exact ⟨he, M', ⟨vl, l, x', h1, hll⟩, h2, h3⟩

/-- What another does, and where the run goes on. -/
theorem another_ps {toks : List Tok} {ta : Option Addr} {tn tc : Nat} {w0 w : World} {bp k : Nat} {li : List Lvl} {t : Lvl} {M X : List Nat} (h : PS toks ta tn tc w0 w bp k li t M X) (ho : HasOps w0) (hne : t.ands ≠ []) :
    Calls Tryz.prog 41 #[.pointer (some ⟨bp, 0, none⟩)] w (fun e w' => e = .returned (.bool (acceptB toks k 1 wAnd || acceptB toks k 1 wOr)) ∧
      Moves toks ta tn tc w0 w bp (if acceptB toks k 1 wAnd || acceptB toks k 1 wOr then k + 1 else k) li (if acceptB toks k 1 wAnd then t else if acceptB toks k 1 wOr then ⟨t.nots, [], t.ors ++ [joinedF 7 t.ands]⟩ else t) M X w') := by
  obtain ⟨vl, l, x, hI, hll⟩ := h
  cases h1 : acceptB toks k 1 wAnd
  · cases h2 : acceptB toks k 1 wOr
    · refine (another_none hI ho h1 h2).mono ?_
      rintro e w' ⟨he, x', M', g1, g2, g3⟩
      exact ⟨he, M', ⟨vl, l, x', g1, hll⟩, g2, g3⟩
    · refine (another_or hI hll ho h1 h2 hne).mono ?_
      rintro e w' ⟨he, x', M', g1, g2, g3⟩
      exact ⟨he, M', ⟨vl, l, x', g1, hll⟩, g2, g3⟩
  · refine (another_and hI ho h1).mono ?_
    rintro e w' ⟨he, x', M', g1, g2, g3⟩
    exact ⟨he, M', ⟨vl, l, x', g1, hll⟩, g2, g3⟩
theorem operandF_ge0 (toks : List Tok) (k : Nat) : k ≤ (operandF toks k).2.2 := by
  have h1 := listF_ge toks (k + 2)
  have h2 := intervalF_ge toks (k + 2)
  unfold operandF
  (repeat' split) <;> simp <;> omega
end Go.Proofs.YtaepiiediblleaaGreatDoor

namespace Go.Proofs.YtaepiiediblleaaGreatDoor

mutual
def Ex.depth : Ex → Nat
  | .mk _ _ _ _ _ args => depths args + 1
def depths : List Ex → Nat
  | [] => 0
  | e :: r => max e.depth (depths r)
end
theorem Ex.depth_eq (e : Ex) : e.depth = depths e.args + 1 := by cases e; simp [Ex.depth, Ex.args]
theorem Ex.size_eq (e : Ex) : e.size = 1 + sizes e.args := by cases e; simp [Ex.size, Ex.args]
mutual
theorem Ex.depth_le : (e : Ex) → e.depth ≤ e.size
  | .mk _ _ _ _ _ args => by have := depths_le args; simp [Ex.depth, Ex.size]; omega
theorem depths_le : (l : List Ex) → depths l ≤ sizes l
  | [] => by simp [depths]
  | e :: r => by have := Ex.depth_le e; have := depths_le r; simp [depths, sizes]; omega
end
theorem depths_append (l m : List Ex) : depths (l ++ m) = max (depths l) (depths m) := by
  induction l with
  | nil => simp [depths]
  | cons e r ih => simp only [List.cons_append, depths, ih]; omega
theorem depths_take_succ (l : List Ex) (k : Nat) (hk : k < l.length) : depths (l.take (k + 1)) = max (depths (l.take k)) l[k].depth := by
  rw [List.take_succ_eq_append_getElem hk, depths_append]; simp [depths]
theorem depths_mem {l : List Ex} {e : Ex} (h : e ∈ l) : e.depth ≤ depths l := by
  induction l with
  | nil => simp at h
  | cons a r ih =>
    rcases List.mem_cons.1 h with rfl | h
    · simp only [depths]; omega
    · have := ih h; simp only [depths]; omega
theorem sizes_mem {l : List Ex} {e : Ex} (h : e ∈ l) : e.size ≤ sizes l := by
  induction l with
  | nil => simp at h
  | cons a r ih =>
    rcases List.mem_cons.1 h with rfl | h
    · simp [sizes]
    · have := ih h; simp [sizes]; omega

/-- An expression as a part: beyond the limits only its size and its depth. -/
def partOf (e : Ex) : Part := if 300 < e.size ∨ 16 < e.depth then ⟨ex0, e.size, e.depth⟩ else ⟨e, e.size, e.depth⟩
theorem partOf_size (e : Ex) : (partOf e).size = e.size := by unfold partOf; split <;> rfl
theorem partOf_depth (e : Ex) : (partOf e).depth = e.depth := by unfold partOf; split <;> rfl
theorem partOf_ex {e : Ex} (h1 : e.size ≤ 300) (h2 : e.depth ≤ 16) : (partOf e).ex = e := by unfold partOf; rw [if_neg (by omega)]
theorem sumSize_partOf (l : List Ex) : sumSize (l.map partOf) = sizes l := by
  induction l with
  | nil => simp [sumSize, sizes]
  | cons a r ih => simp [sumSize, sizes, ih, partOf_size]
theorem maxDepth_foldl (l : List Ex) : ∀ d, (l.map partOf).foldl (fun d p => max d p.depth) d = max d (depths l) := by
  induction l with
  | nil => intro d; simp [depths]
  | cons a r ih => intro d; simp only [List.map_cons, List.foldl_cons, depths, ih, partOf_depth]; omega
theorem maxDepth_partOf (l : List Ex) : maxDepth (l.map partOf) = depths l := by unfold maxDepth; rw [maxDepth_foldl]; omega
theorem map_partOf_ex {l : List Ex} (h1 : sizes l ≤ 300) (h2 : depths l ≤ 16) : (l.map partOf).map (·.ex) = l := by
  rw [List.map_map]
  have : ∀ e ∈ l, ((·.ex) ∘ partOf) e = id e := fun e he => by
    have h3 := sizes_mem he
    have h4 := depths_mem he
    exact partOf_ex (by omega) (by omega)
  rw [List.map_congr_left this]
  simp
theorem composedF_partOf (op : Int) (l : List Ex) : composedF op (l.map partOf) = partOf (.mk op ⟨#[]⟩ [] 0 0 l) := by
  have e1 : partOf (.mk op ⟨#[]⟩ [] 0 0 l) = if 300 < 1 + sizes l ∨ 16 < depths l + 1 then ⟨ex0, 1 + sizes l, depths l + 1⟩ else ⟨.mk op ⟨#[]⟩ [] 0 0 l, 1 + sizes l, depths l + 1⟩ := by
    by_cases h : 300 < 1 + sizes l ∨ 16 < depths l + 1
    · rw [partOf, if_pos (by simpa only [Ex.size, Ex.depth] using h), if_pos h]; simp only [Ex.size, Ex.depth]
    · rw [partOf, if_neg (by simpa only [Ex.size, Ex.depth] using h), if_neg h]; simp only [Ex.size, Ex.depth]
  rw [e1, composedF, sumSize_partOf, maxDepth_partOf]
  by_cases h : 300 < 1 + sizes l ∨ 16 < depths l + 1
  · rw [if_pos h, if_pos h]
  · rw [if_neg h, if_neg h, map_partOf_ex (by omega) (by omega)]
/-- The operator with all arguments, or the only one. -/
def joinE (op : Int) (l : List Ex) : Ex := match l with | [e] => e | l => .mk op ⟨#[]⟩ [] 0 0 l
theorem joinedF_partOf (op : Int) (l : List Ex) : joinedF op (l.map partOf) = partOf (joinE op l) := by
  match l with
  | [] => exact composedF_partOf op []
  | [e] => rfl
  | a :: b :: r => exact composedF_partOf op (a :: b :: r)
theorem itF_swap (n : Nat) (p : Part) : itF n (composedF 6 [p]) = itF (n + 1) p := by
  induction n with
  | zero => rfl
  | succ n ih => rw [itF, ih]; rfl

/-- What is read: atom, with negations, with and, with or. -/
inductive Lev where
  | atom | neg | ands | ors

def operandE (toks : List Tok) (k : Nat) : Ex × Int × Nat := ((operandF toks k).1.ex, (operandF toks k).2.1, (operandF toks k).2.2)

/-- The grammar: from the k-th token on, after the arguments acc, these are read: an expression, 0 and the index behind it, or an error and its index. -/
inductive Gr (toks : List Tok) : Lev → Nat → List Ex → Ex → Int → Nat → Prop
  | parenOk {k e k1} : acceptB toks k 4 ⟨#[40]⟩ = true → Gr toks .ors (k + 1) [] e 0 k1 → acceptB toks k1 4 ⟨#[41]⟩ = true → Gr toks .atom k [] e 0 (k1 + 1)
  | parenErr {k e er k1} : acceptB toks k 4 ⟨#[40]⟩ = true → Gr toks .ors (k + 1) [] e er k1 → er ≠ 0 → Gr toks .atom k [] ex0 er k1
  | parenNo {k e k1} : acceptB toks k 4 ⟨#[40]⟩ = true → Gr toks .ors (k + 1) [] e 0 k1 → acceptB toks k1 4 ⟨#[41]⟩ = false → Gr toks .atom k [] ex0 5 k1
  | operand {k} : acceptB toks k 4 ⟨#[40]⟩ = false → Gr toks .atom k [] (operandF toks k).1.ex (operandF toks k).2.1 (operandF toks k).2.2
  | notOk {k e k1} : acceptB toks k 1 wNot = true → Gr toks .neg (k + 1) [] e 0 k1 → Gr toks .neg k [] (.mk 6 ⟨#[]⟩ [] 0 0 [e]) 0 k1
  | notErr {k e er k1} : acceptB toks k 1 wNot = true → Gr toks .neg (k + 1) [] e er k1 → er ≠ 0 → Gr toks .neg k [] ex0 er k1
  | negAtom {k e er k1} : acceptB toks k 1 wNot = false → Gr toks .atom k [] e er k1 → Gr toks .neg k [] e er k1
  | andStep {k acc e k1 e2 er k2} : Gr toks .neg k [] e 0 k1 → acceptB toks k1 1 wAnd = true → Gr toks .ands (k1 + 1) (acc ++ [e]) e2 er k2 → Gr toks .ands k acc e2 er k2
  | andStop {k acc e k1} : Gr toks .neg k [] e 0 k1 → acceptB toks k1 1 wAnd = false → Gr toks .ands k acc (joinE 7 (acc ++ [e])) 0 k1
  | andErr {k acc e er k1} : Gr toks .neg k [] e er k1 → er ≠ 0 → Gr toks .ands k acc ex0 er k1
  | orStep {k acc e k1 e2 er k2} : Gr toks .ands k [] e 0 k1 → acceptB toks k1 1 wOr = true → Gr toks .ors (k1 + 1) (acc ++ [e]) e2 er k2 → Gr toks .ors k acc e2 er k2
  | orStop {k acc e k1} : Gr toks .ands k [] e 0 k1 → acceptB toks k1 1 wOr = false → Gr toks .ors k acc (joinE 8 (acc ++ [e])) 0 k1
  | orErr {k acc e er k1} : Gr toks .ands k [] e er k1 → er ≠ 0 → Gr toks .ors k acc ex0 er k1

def bd (tn : Nat) (m : Bool) (k : Nat) : Nat := if m then 2 * (tn - k) + 2 else 2 * (tn - k) + 1

theorem acceptB_lt {toks : List Tok} {k : Nat} {kind : Int} {text : ByteArray} (h : acceptB toks k kind text = true) : k < toks.length := by
  by_cases hlt : k < toks.length
  · exact hlt
  · rw [acceptB, List.getElem?_eq_none (by omega)] at h; cases h

theorem runF_fuel (toks : List Tok) : ∀ (f g : Nat) (m : Bool) (k : Nat) (li : List Lvl) (t : Lvl), bd toks.length m k ≤ f → bd toks.length m k ≤ g → runF toks toks.length f m k li t = runF toks toks.length g m k li t := by
  intro f
  induction f with
  | zero => intro g m k li t h; unfold bd at h; split at h <;> omega
  | succ f ih =>
    intro g m k li t hf hg
    obtain ⟨g, rfl⟩ : ∃ g', g = g' + 1 := ⟨g - 1, by unfold bd at hg; split at hg <;> omega⟩
    cases m with
    | true =>
      simp only [bd, if_true] at hf hg
      simp only [runF]
      split
      · rfl
      · have h1 := prefixF_ge toks (toks.length - k + 1) k li t
        have h2 := operandF_ge0 toks (prefixF toks (toks.length - k + 1) k li t).1
        refine ih g false _ _ _ ?_ ?_ <;> (simp only [bd, Bool.false_eq_true, if_false]; omega)
    | false =>
      simp only [bd, Bool.false_eq_true, if_false] at hf hg
      simp only [runF]
      split
      · rename_i h
        have := acceptB_lt h
        refine ih g true _ _ _ ?_ ?_ <;> (simp only [bd, if_true]; omega)
      · split
        · rename_i h
          have := acceptB_lt h
          refine ih g true _ _ _ ?_ ?_ <;> (simp only [bd, if_true]; omega)
        · split
          · rfl
          · split
            · rename_i h
              have := acceptB_lt h
              refine ih g false _ _ _ ?_ ?_ <;> (simp only [bd, Bool.false_eq_true, if_false]; omega)
            · rfl

/-- The run with enough steps. -/
def run (toks : List Tok) (m : Bool) (k : Nat) (li : List Lvl) (t : Lvl) : Part × Int × Nat := runF toks toks.length (bd toks.length m k) m k li t
theorem runF_run (toks : List Tok) {f : Nat} {m : Bool} {k : Nat} {li : List Lvl} {t : Lvl} (h : bd toks.length m k ≤ f) : runF toks toks.length f m k li t = run toks m k li t := runF_fuel toks _ _ _ _ _ _ h (Nat.le_refl _)

theorem runF_true (toks : List Tok) (tn f k : Nat) (li : List Lvl) (t : Lvl) : runF toks tn (f + 1) true k li t =
    if (operandF toks (prefixF toks (tn - k + 1) k li t).1).2.1 ≠ 0 then (⟨ex0, 0, 0⟩, (operandF toks (prefixF toks (tn - k + 1) k li t).1).2.1, (operandF toks (prefixF toks (tn - k + 1) k li t).1).2.2) else
    runF toks tn f false (operandF toks (prefixF toks (tn - k + 1) k li t).1).2.2 (prefixF toks (tn - k + 1) k li t).2.1 (withPart (prefixF toks (tn - k + 1) k li t).2.2 (operandF toks (prefixF toks (tn - k + 1) k li t).1).1) := by rw [runF]
/-- The run behind the prefix. -/
def runA (toks : List Tok) (a : Nat × List Lvl × Lvl) : Part × Int × Nat :=
  if (operandF toks a.1).2.1 ≠ 0 then (⟨ex0, 0, 0⟩, (operandF toks a.1).2.1, (operandF toks a.1).2.2) else run toks false (operandF toks a.1).2.2 a.2.1 (withPart a.2.2 (operandF toks a.1).1)
theorem run_true (toks : List Tok) (k : Nat) (li : List Lvl) (t : Lvl) : run toks true k li t = runA toks (prefixF toks (toks.length - k + 1) k li t) := by
  have h1 := prefixF_ge toks (toks.length - k + 1) k li t
  have h2 := operandF_ge0 toks (prefixF toks (toks.length - k + 1) k li t).1
  show runF toks toks.length (2 * (toks.length - k) + 1 + 1) true k li t = _
  rw [runF_true, runA]
  split
  · rfl
  · refine runF_run toks (m := false) ?_
    simp only [bd, Bool.false_eq_true, if_false]; omega
theorem run_not {toks : List Tok} {k : Nat} {li : List Lvl} {t : Lvl} (h : acceptB toks k 1 wNot = true) : run toks true k li t = run toks true (k + 1) li ⟨t.nots + 1, t.ands, t.ors⟩ := by
  have hk := acceptB_lt h
  rw [run_true, run_true, prefixF, if_pos h, show toks.length - (k + 1) + 1 = toks.length - k by omega]
theorem run_paren {toks : List Tok} {k : Nat} {li : List Lvl} {t : Lvl} (h0 : acceptB toks k 1 wNot = false) (h : acceptB toks k 4 ⟨#[40]⟩ = true) : run toks true k li t = run toks true (k + 1) (li ++ [t]) lvl0 := by
  have hk := acceptB_lt h
  rw [run_true, run_true, prefixF, if_neg (by simp [h0]), if_pos h, show toks.length - (k + 1) + 1 = toks.length - k by omega]
theorem run_operand {toks : List Tok} {k : Nat} {li : List Lvl} {t : Lvl} (h0 : acceptB toks k 1 wNot = false) (h : acceptB toks k 4 ⟨#[40]⟩ = false) : run toks true k li t = runA toks (k, li, t) := by
  rw [run_true, prefixF, if_neg (by simp [h0]), if_neg (by simp [h])]
theorem run_and {toks : List Tok} {k : Nat} {li : List Lvl} {t : Lvl} (h : acceptB toks k 1 wAnd = true) : run toks false k li t = run toks true (k + 1) li t := by
  have hk := acceptB_lt h
  show runF toks toks.length (2 * (toks.length - k) + 1) false k li t = _
  rw [runF, if_pos h]
  exact runF_run toks (by simp only [bd, if_true]; omega)

def contClose (toks : List Tok) (k : Nat) (li : List Lvl) (p : Part) : Part × Int × Nat := match li.getLast? with
  | none => (p, 0, k)
  | some t' => if acceptB toks k 4 ⟨#[41]⟩ = true then run toks false (k + 1) li.dropLast (withPart t' p) else (⟨ex0, 0, 0⟩, 5, k)
def contOr (toks : List Tok) (k : Nat) (li : List Lvl) (p : Part) (ors : List Part) : Part × Int × Nat :=
  if acceptB toks k 1 wOr = true then run toks true (k + 1) li ⟨0, [], ors ++ [p]⟩ else contClose toks k li (joinedF 8 (ors ++ [p]))
theorem run_or {toks : List Tok} {k : Nat} {li : List Lvl} {ands ors : List Part} (h : acceptB toks k 1 wAnd = false) : run toks false k li ⟨0, ands, ors⟩ = contOr toks k li (joinedF 7 ands) ors := by
  show runF toks toks.length (2 * (toks.length - k) + 1) false k li _ = _
  rw [runF, if_neg (by simp [h]), contOr]
  split
  · rename_i h2
    have hk := acceptB_lt h2
    exact runF_run toks (by simp only [bd, if_true]; omega)
  · rw [contClose]
    cases li.getLast? with
    | none => rfl
    | some t' =>
      simp only [wholeF]
      split
      · rename_i h2
        have hk := acceptB_lt h2
        exact runF_run toks (by simp only [bd, Bool.false_eq_true, if_false]; omega)
      · rfl

/-- What the grammar reads is what the parser's run comes to. -/
def Says (toks : List Tok) : Lev → Nat → List Ex → Ex → Int → Nat → Prop
  | .atom, k, _, e, er, k1 => acceptB toks k 1 wNot = false → ∀ li t, run toks true k li t = if er ≠ 0 then (⟨ex0, 0, 0⟩, er, k1) else run toks false k1 li (withPart t (partOf e))
  | .neg, k, _, e, er, k1 => ∀ li t, run toks true k li t = if er ≠ 0 then (⟨ex0, 0, 0⟩, er, k1) else run toks false k1 li (withPart t (partOf e))
  | .ands, k, acc, e, er, k1 => ∀ li ors, run toks true k li ⟨0, acc.map partOf, ors⟩ = if er ≠ 0 then (⟨ex0, 0, 0⟩, er, k1) else contOr toks k1 li (partOf e) ors
  | .ors, k, acc, e, er, k1 => ∀ li, run toks true k li ⟨0, [], acc.map partOf⟩ = if er ≠ 0 then (⟨ex0, 0, 0⟩, er, k1) else contClose toks k1 li (partOf e)

theorem acceptB_two {toks : List Tok} {k : Nat} {a b : Int} {s t : ByteArray} (h : acceptB toks k a s = true) (hab : a ≠ b) : acceptB toks k b t = false := by
  unfold acceptB at *
  cases hk : toks[k]? with
  | none => rfl
  | some x =>
    rw [hk] at h
    simp only [Bool.and_eq_true, beq_iff_eq] at h
    simp only [Bool.and_eq_false_iff]
    left
    simp [h.1, hab]

theorem partOf_operand {toks : List Tok} {k : Nat} (h : (operandF toks k).2.1 = 0) : partOf (operandF toks k).1.ex = (operandF toks k).1 := by
  have h2 := operandF_ok toks k h
  have h3 : (operandF toks k).1.ex.args = [] := by
    unfold operandF
    (repeat' split) <;> rfl
  have h4 := Ex.size_eq (operandF toks k).1.ex
  have h5 := Ex.depth_eq (operandF toks k).1.ex
  rw [h3] at h4 h5
  simp only [sizes, depths] at h4 h5
  unfold partOf
  rw [if_neg (by omega), h4, h5]
  generalize operandF toks k = R at *
  obtain ⟨⟨ex, s, d⟩, er, k1⟩ := R
  simp only at h2 ⊢
  rw [h2.1, h2.2.1]

theorem Gr.says {toks : List Tok} {s : Lev} {k : Nat} {acc : List Ex} {e : Ex} {er : Int} {k1 : Nat} (h : Gr toks s k acc e er k1) : Says toks s k acc e er k1 := by
  induction h with
  | parenOk h1 _ h2 ih =>
    intro h0 li t
    rw [run_paren h0 h1, show lvl0 = ⟨0, [], ([] : List Ex).map partOf⟩ from rfl, ih (li ++ [t])]
    simp [contClose, h2]
  | parenErr h1 _ h2 ih =>
    intro h0 li t
    rw [run_paren h0 h1, show lvl0 = ⟨0, [], ([] : List Ex).map partOf⟩ from rfl, ih (li ++ [t])]
    simp [h2]
  | parenNo h1 _ h2 ih =>
    intro h0 li t
    rw [run_paren h0 h1, show lvl0 = ⟨0, [], ([] : List Ex).map partOf⟩ from rfl, ih (li ++ [t])]
    simp [contClose, h2]
  | operand h1 =>
    intro h0 li t
    rw [run_operand h0 h1, runA]
    split
    · rfl
    · rename_i h
      rw [partOf_operand (by simpa using h)]
  | notOk h1 _ ih =>
    intro li t
    rw [run_not h1, ih]
    simp only [ne_eq, not_true_eq_false, if_false]
    rename_i e2 _ _
    have := composedF_partOf 6 [e2]
    simp only [withPart, ← this, List.map_cons, List.map_nil, itF_swap]
  | notErr h1 _ h2 ih =>
    intro li t
    rw [run_not h1, ih]
    simp [h2]
  | negAtom h1 _ ih => exact ih h1
  | andStep _ h2 _ ih1 ih2 =>
    intro li ors
    rw [ih1]
    simp only [ne_eq, not_true_eq_false, if_false, withPart, itF]
    rw [run_and h2]
    have := ih2 li ors
    simpa using this
  | andStop _ h2 ih =>
    intro li ors
    rw [ih]
    simp only [ne_eq, not_true_eq_false, if_false, withPart, itF]
    rw [run_or h2, ← joinedF_partOf]
    simp
  | andErr _ h2 ih =>
    intro li ors
    rw [ih]
    simp [h2]
  | orStep _ h2 _ ih1 ih2 =>
    intro li
    have := ih1 li
    rw [show ([] : List Part) = ([] : List Ex).map partOf from rfl, this]
    simp only [ne_eq, not_true_eq_false, if_false]
    rw [contOr, if_pos h2]
    have := ih2 li
    simpa using this
  | orStop _ h2 ih =>
    intro li
    have := ih li
    rw [show ([] : List Part) = ([] : List Ex).map partOf from rfl, this]
    simp only [ne_eq, not_true_eq_false, if_false]
    rw [contOr, if_neg (by simp [h2]), ← joinedF_partOf]
    simp
  | orErr _ h2 ih =>
    intro li
    have := ih li
    rw [show ([] : List Part) = ([] : List Ex).map partOf from rfl, this]
    simp [h2]

theorem Gr.run {toks : List Tok} {k : Nat} {e : Ex} {er : Int} {k1 : Nat} (h : Gr toks .ors k [] e er k1) : run toks true k [] lvl0 = if er ≠ 0 then (⟨ex0, 0, 0⟩, er, k1) else (partOf e, 0, k1) := by
  have := h.says []
  rw [show lvl0 = ⟨0, [], ([] : List Ex).map partOf⟩ from rfl, this]
  simp [contClose]
end Go.Proofs.YtaepiiediblleaaGreatDoor

namespace Go.Proofs.YtaepiiediblleaaGreatDoor
open Go.RowKit

theorem operand_ps {toks : List Tok} {ta : Option Addr} {tn tc : Nat} {w0 w : World} {bp k : Nat} {li : List Lvl} {t : Lvl} {M X : List Nat} (h : PS toks ta tn tc w0 w bp k li t M X) (ho : HasOps w0) :
    Calls Tryz.prog 39 #[.pointer (some ⟨bp, 0, none⟩)] w (fun e w' => ∃ v : PartV, e = .returned (.tuple #[v.val, .int .i64 (operandF toks k).2.1]) ∧ PartR (mask w' (X ++ M)) (operandF toks k).1 v ∧ PS toks ta tn tc w0 w' bp (operandF toks k).2.2 li t M X ∧ Chg M w w') := by
  obtain ⟨vl, l, x, hI, hll⟩ := h
  refine (operand_calls hI.pc ho).mono ?_
  rintro e w' ⟨v, he, h1, h2, h3⟩
  exact ⟨v, he, h1 (X ++ M) hI.hKlt, ⟨vl, l, x, hI.step h2 h3 (operandF_ge0 toks k), hll⟩, h2.mono (by rw [hI.hM]; simp)⟩

theorem PS.pot {toks : List Tok} {ta : Option Addr} {tn tc : Nat} {w0 w : World} {bp k : Nat} {li : List Lvl} {t : Lvl} {M X : List Nat} (h : PS toks ta tn tc w0 w bp k li t M X) : potAll (li ++ [t]) ≤ 2 * k ∧ k ≤ tn ∧ tn ≤ 1000000 ∧ (Tidy t.ands ∧ Tidy t.ors) ∧ (∀ y ∈ M, y < w.heap.size) ∧ bp ∈ M ∧ bp < w.heap.size := by
  obtain ⟨vl, l, x, hI, hll⟩ := h
  have hbM : bp ∈ M := by rw [hI.hM]; simp
  exact ⟨hI.pot, hI.pc.hk, hI.small, hI.tidy t (by simp), fun y hy => hI.hKlt y (hI.hK y hy), hbM, hI.hKlt bp (hI.hK bp hbM)⟩
theorem PS.ext {toks : List Tok} {ta : Option Addr} {tn tc : Nat} {w0 w : World} {bp k : Nat} {li : List Lvl} {t : Lvl} {M X : List Nat} (h : PS toks ta tn tc w0 w bp k li t M X) {w' : World} (hx : Ext w w') : PS toks ta tn tc w0 w' bp k li t M X := by
  obtain ⟨vl, l, x, hI, hll⟩ := h
  exact ⟨vl, l, x, hI.ext hx, hll⟩

theorem PS.more {toks : List Tok} {ta : Option Addr} {tn tc : Nat} {w0 w : World} {bp k : Nat} {li : List Lvl} {t : Lvl} {M X : List Nat} (h : PS toks ta tn tc w0 w bp k li t M X) {w' : World} (hx : Ext w w') (hs : w.heap.size < w'.heap.size) : PS toks ta tn tc w0 w' bp k li t M (w.heap.size :: X) := by
  obtain ⟨vl, l, x, hI, hll⟩ := h
  refine ⟨vl, l, x, hI.chg (hx.chg []) (by simp) (by simp) (mask_sub_mask fun y hy hn => ⟨?_, hx.block y hy⟩) (fun y hy => List.mem_append_right _ hy) (fun y hy => ?_), hll⟩
  · rw [List.cons_append, List.mem_cons, not_or]; exact ⟨by omega, hn⟩
  · rw [List.cons_append] at hy
    rcases List.mem_cons.1 hy with rfl | hy
    · exact hs
    · have := hI.hKlt y hy; omega

theorem PS.acceptY {toks : List Tok} {ta : Option Addr} {tn tc : Nat} {w0 w : World} {bp k : Nat} {li : List Lvl} {t : Lvl} {M X : List Nat} (h : PS toks ta tn tc w0 w bp k li t M X) {kind : Int} {text : ByteArray} (ha : acceptB toks k kind text = true) :
    Calls Tryz.prog 43 #[.pointer (some ⟨bp, 0, none⟩), .int .i64 kind, .string text] w (fun e w' => e = .returned (.bool true) ∧ Chg [bp] w w' ∧ PS toks ta tn tc w0 w' bp (k + 1) li t M X ∧ k + 1 ≤ tn) := by
  obtain ⟨vl, l, x, hI, hll⟩ := h
  refine (hI.pc.acceptY ha).mono ?_
  rintro e w' ⟨he, h1, h2⟩
  exact ⟨he, h1, ⟨vl, l, x, hI.step h1 h2 (by omega), hll⟩, h2.hk⟩

/-- closed: the levels that stay. -/
theorem closed_ps {toks : List Tok} {ta : Option Addr} {tn tc : Nat} {w0 w : World} {bp k : Nat} {li : List Lvl} {t : Lvl} {M X : List Nat} (h : PS toks ta tn tc w0 w bp k li t M X) :
    Calls Tryz.prog 42 #[.pointer (some ⟨bp, 0, none⟩)] w (fun e w' => ∃ (v : PartV) (a : Option Addr) (cap : Nat) (M' : List Nat) (vl' : Value), e = .returned v.val ∧ vl' = .slice a li.length cap ∧ PC toks ta tn tc w0 w' bp k vl' ∧ PartR (mask w' (X ++ M')) (wholeF t) v ∧ Chg M w w' ∧ (∀ y ∈ M', y ∈ M) ∧ bp ∈ M' ∧
      (∀ li' t', li = li' ++ [t'] → PS toks ta tn tc w0 w' bp k li' t' M' X)) := by
  obtain ⟨vl, l, x, hI, hll⟩ := h
  refine (closed_calls hI hll).mono ?_
  rintro e w' ⟨v, vl', M', he, h1, h2, h3, h4⟩
  obtain ⟨a, cap, e2, -⟩ := IsRows.of_owns (f := LvlV.cells) (fun _ => rfl) h1.own
  rw [← h1.len] at e2
  refine ⟨v, a, cap, M', vl', he, e2, h1.pc, h2, h3, h4, by rw [h1.hM]; simp, fun li' t' e1 => ?_⟩
  subst e1
  have hl0 : 0 < l.length := by rw [← hll]; simp
  obtain ⟨l', x', rfl⟩ : ∃ l' x', l = l' ++ [x'] := ⟨l.dropLast, l.getLast (by intro e; simp [e] at hl0), (List.dropLast_concat_getLast _).symm⟩
  exact ⟨_, l', x', h1, by simpa using hll⟩

/-- What expression hands back. -/
def ExprQ (R : Part × Int × Nat) (ta : Option Addr) (tn tc : Nat) (w : World) (bp : Nat) (M X : List Nat) (e : Ending) (w' : World) : Prop :=
  ∃ (v : PartV) (vl' : Value), e = .returned (.tuple #[v.val, .int .i64 R.2.1]) ∧ PartR (mask w' X) R.1 v ∧ PB w' bp ta tn tc R.2.2 vl' ∧ Chg M w w'

def OuterI (R : Part × Int × Nat) (toks : List Tok) (ta : Option Addr) (tn tc : Nat) (w0 wb : World) (bp : Nat) (M X : List Nat) (m : Nat) (_ : Value) (wr : World) : Prop :=
  ∃ k li t M' f, PS toks ta tn tc w0 wr bp k li t M' X ∧ Chg M wb wr ∧ (∀ y ∈ M', y ∈ M ∨ wb.heap.size ≤ y) ∧ m = tn - k ∧ 2 * (tn - k) + 2 ≤ f ∧ runF toks tn f true k li t = R
def InnerI (R : Part × Int × Nat) (toks : List Tok) (ta : Option Addr) (tn tc : Nat) (w0 wb : World) (bp : Nat) (M X : List Nat) (k0 m : Nat) (_ : Value) (wr : World) : Prop :=
  ∃ k li t M' f, PS toks ta tn tc w0 wr bp k li t M' X ∧ Chg M wb wr ∧ (∀ y ∈ M', y ∈ M ∨ wb.heap.size ≤ y) ∧ m = tn - k ∧ 2 * (tn - k) + 1 ≤ f ∧ runF toks tn f false k li t = R ∧ t.ands ≠ [] ∧ k0 < k

theorem Moves.on {toks : List Tok} {ta : Option Addr} {tn tc : Nat} {w0 wb w : World} {bp k : Nat} {li : List Lvl} {t : Lvl} {M M1 X : List Nat} {w' : World} (h : Moves toks ta tn tc w0 w bp k li t M1 X w') (hc : Chg M wb w) (hM : ∀ y ∈ M1, y ∈ M ∨ wb.heap.size ≤ y) : ∃ M', PS toks ta tn tc w0 w' bp k li t M' X ∧ Chg M wb w' ∧ ∀ y ∈ M', y ∈ M ∨ wb.heap.size ≤ y := by
  obtain ⟨M', h1, h2, h3⟩ := h
  refine ⟨M', h1, hc.trans h2 hM, fun y hy => ?_⟩
  rcases h3 y hy with h | h
  · exact hM y h
  · exact Or.inr (Nat.le_trans hc.size h)

theorem exprQ_mk {R : Part × Int × Nat} {ta : Option Addr} {tn tc : Nat} {w w2 W : World} {bp k : Nat} {M X : List Nat} {q : Part} {er : Int} {v : PartV} {vl : Value} (hcw : Chg M w w2) (hcW : Chg [w.heap.size] w2 W) (hb : PB w2 bp ta tn tc k vl) (hbp : bp < w.heap.size) (hR : R = (q, er, k)) (hv : PartR (mask W X) q v) :
    ExprQ R ta tn tc w bp M X (.returned (.tuple #[v.val, .int .i64 er])) W := by
  subst hR
  exact ⟨v, vl, rfl, hv, hcW.blk hb (by simp; omega), hcw.trans hcW (by simp)⟩

set_option maxRecDepth 100000 in
set_option maxHeartbeats 4000000 in
theorem expression_calls {toks : List Tok} {ta : Option Addr} {tn tc : Nat} {w0 w : World} {bp k : Nat} {li : List Lvl} {t : Lvl} {M X : List Nat} (h : PS toks ta tn tc w0 w bp k li t M X) (ho : HasOps w0) :
    Calls Tryz.prog 20 #[.pointer (some ⟨bp, 0, none⟩)] w (ExprQ (runF toks tn (2 * (tn - k) + 2) true k li t) ta tn tc w bp M X) := by
  obtain ⟨R, hR⟩ : ∃ R, R = runF toks tn (2 * (tn - k) + 2) true k li t := ⟨_, rfl⟩
  rw [← hR]
  have HS := Lib.hid h
  have HO := Lib.hid ho
  have HR := Lib.hid hR
  have HB := Lib.hid (show ∀ o, Ext w (w.alloc o) from fun o => (Ext.refl w).alloc o)
  clear h ho hR
  go_enter Tryz.func20, Tryz.ntmps20
  go_wp2_with fail
  have hBR := Lib.hid (alloc_new w (.cells #[.int .i64 0, .string ⟨#[]⟩, .slice none 0 0, .int .i64 0, .int .i64 0, .slice none 0 0, .int .i64 0, .int .i64 0] 56))
  have hEB := Lib.hid (HB.out (.cells #[.int .i64 0, .string ⟨#[]⟩, .slice none 0 0, .int .i64 0, .int .i64 0, .slice none 0 0, .int .i64 0, .int .i64 0] 56))
  have hML := Lib.hid HS.out.pot.2.2.2.2.1
  have hbw := HS.out.pot.2.2.2.2.2.2
  have hwb : (w.alloc (.cells #[.int .i64 0, .string ⟨#[]⟩, .slice none 0 0, .int .i64 0, .int .i64 0, .slice none 0 0, .int .i64 0, .int .i64 0] 56)).heap.size = w.heap.size + 1 := by simp
  have HWB := Lib.hid hwb
  clear hwb
  generalize w.alloc (.cells #[.int .i64 0, .string ⟨#[]⟩, .slice none 0 0, .int .i64 0, .int .i64 0, .slice none 0 0, .int .i64 0, .int .i64 0] 56) = wb at *
  go_loopg [3] (tn - k) (OuterI R toks ta tn tc w0 wb bp M (w.heap.size :: X))
  case atStart => exact ⟨k, li, t, M, _, HS.out.more hEB.out (by have := HWB.out; omega), Chg.refl _ _, fun y hy => Or.inl hy, rfl, Nat.le_refl _, HR.out.symm⟩
  case round =>
    clear HS HR HB
    obtain ⟨k1, l1, t1, M1, f1, hps, hc, hMM, hm, hf, hrun⟩ := hrel
    have HS := Lib.hid hps
    have HC := Lib.hid hc
    have HMM := Lib.hid hMM
    have HM := Lib.hid hm
    have HRUN := Lib.hid hrun
    have hkt := hps.pot.2.1
    clear hps hc hMM hm hrun
    go_wp2_with fail
    refine (prefix_calls HS.out HO.out).mono ?_
    rintro r w1 ⟨rfl, hmv⟩
    have hpg := prefixF_ge toks (tn - k1 + 1) k1 l1 t1
    obtain ⟨f, rfl⟩ : ∃ f, f1 = f + 1 := ⟨f1 - 1, by omega⟩
    have HRUN2 := Lib.hid (show (if (operandF toks (prefixF toks (tn - k1 + 1) k1 l1 t1).1).2.1 ≠ 0 then (⟨ex0, 0, 0⟩, (operandF toks (prefixF toks (tn - k1 + 1) k1 l1 t1).1).2.1, (operandF toks (prefixF toks (tn - k1 + 1) k1 l1 t1).1).2.2) else runF toks tn f false (operandF toks (prefixF toks (tn - k1 + 1) k1 l1 t1).1).2.2 (prefixF toks (tn - k1 + 1) k1 l1 t1).2.1 (withPart (prefixF toks (tn - k1 + 1) k1 l1 t1).2.2 (operandF toks (prefixF toks (tn - k1 + 1) k1 l1 t1).1).1)) = R from HRUN.out)
    clear HRUN
    generalize prefixF toks (tn - k1 + 1) k1 l1 t1 = A at *
    obtain ⟨k2, l2, t2⟩ := A
    obtain ⟨M2, hps2, hc2, hMM2⟩ := Moves.on (M1 := M1) (show Moves toks ta tn tc w0 _ bp k2 l2 t2 M1 (w.heap.size :: X) w1 from hmv) HC.out HMM.out
    have HS2 := Lib.hid hps2
    have HC2 := Lib.hid hc2
    have HMM2 := Lib.hid hMM2
    clear HS HC HMM hmv hps2 hc2 hMM2
    simp only at HRUN2 hpg
    go_wp2_with fail
    refine (operand_ps HS2.out HO.out).mono ?_
    rintro r w2 ⟨v, rfl, hpv, hps3, hc3⟩
    have hpt2 := HS2.out.pot
    have HC3 := Lib.hid (HC2.out.trans hc3 HMM2.out)
    have hB2 := HC3.out.blk hBR.out (fun h' => Nat.lt_irrefl _ (hML.out _ h'))
    have HOK := Lib.hid (operandF_ok toks k2)
    generalize operandF toks k2 = O at *
    obtain ⟨pp, er, k3⟩ := O
    simp only at hpv hps3 HRUN2
    have HV := Lib.hid hpv
    have HS3 := Lib.hid hps3
    obtain ⟨p0, p1, p2, p3, p4, p5, p6, p7, pf⟩ := blk8 hB2
    have hz2 := blk_lt hB2
    have HB2 := Lib.hid hB2
    clear hpv hps3 hc3 hB2 HS2 HC2
    by_cases her : er = 0
    · subst her
      obtain ⟨hsz, hdp, hkk⟩ := HOK.out rfl
      have HSZ := Lib.hid hsz
      have HDP := Lib.hid hdp
      have HR3 := Lib.hid (show runF toks tn f false k3 l2 (withPart t2 pp) = R by have := HRUN2.out; simpa using this)
      have HPT := Lib.hid hpt2
      clear HRUN2 hsz hdp hpt2 p0 p1 p2 p3 p4 p5 p6 p7 pf
      unfold PartV.val
      go_wp2_with fail
      refine (add_ps (HS3.out.ext ((Ext.refl w2).alloc _)) pp v (HV.out.mono (mask_ext _ ((Ext.refl w2).alloc _))) (by rw [HSZ.out, HDP.out]; exact Nat.le_refl _) (by have := HPT.out.1; rw [HSZ.out]; omega)).mono ?_
      rintro r w3 ⟨rfl, hmv⟩
      obtain ⟨M4, hps4, hc4, hMM4⟩ := hmv.on (HC3.out.alloc _) HMM2.out
      have HS4 := Lib.hid hps4
      have HC4 := Lib.hid hc4
      have HMM4 := Lib.hid hMM4
      clear hmv hps4 hc4 hMM4 HC3 HS3 HV HB2
      go_wp2_with fail
      go_loopg [3] (tn - k3) (InnerI R toks ta tn tc w0 wb bp M (w.heap.size :: X) k1)
      case atStart => exact ⟨k3, l2, withPart t2 pp, M4, f, HS4.out, HC4.out, HMM4.out, rfl, by omega, HR3.out, by simp [withPart], by omega⟩
      case round =>
        clear HS4 HC4 HMM4 HR3
        obtain ⟨k5, l5, t5, M5, f5, hps, hc, hMM, hm, hf5, hrun, hne5, hk15⟩ := hrel
        have HS := Lib.hid hps
        have HC := Lib.hid hc
        have HMM := Lib.hid hMM
        have HM5 := Lib.hid hm
        have hpt := hps.pot
        have HPT5 := Lib.hid hpt
        have hkt5 := hpt.2.1
        obtain ⟨f6, rfl⟩ : ∃ f6, f5 = f6 + 1 := ⟨f5 - 1, by omega⟩
        have HRUN := Lib.hid hrun
        have HNE := Lib.hid hne5
        clear hps hc hMM hm hpt hrun hne5
        go_wp2_with fail
        refine (another_ps HS.out HO.out HNE.out).mono ?_
        rintro r w4 ⟨rfl, hmv⟩
        cases h1 : acceptB toks k5 1 wAnd
        · cases h2 : acceptB toks k5 1 wOr
          · rw [h1, h2] at hmv
            simp only [Bool.or_self, Bool.false_eq_true, if_false] at hmv ⊢
            have HRUN6 := Lib.hid (show (match l5.getLast? with
                | none => (wholeF t5, 0, k5)
                | some t' => if acceptB toks k5 4 ⟨#[41]⟩ = true then runF toks tn f6 false (k5 + 1) l5.dropLast (withPart t' (wholeF t5)) else (⟨ex0, 0, 0⟩, 5, k5)) = R by
              have := HRUN.out
              rw [runF, if_neg (by simp [h1]), if_neg (by simp [h2])] at this
              exact this)
            obtain ⟨M6, hps6, hc6, hMM6⟩ := hmv.on HC.out HMM.out
            have HS6 := Lib.hid hps6
            have HC6 := Lib.hid hc6
            have HMM6 := Lib.hid hMM6
            clear hmv hps6 hc6 hMM6 h1 h2 HS HC HMM HRUN
            go_wp2_with fail
            refine (closed_ps HS6.out).mono ?_
            rintro r w7 ⟨v7, a7, cap7, M7, vl7, rfl, rfl, hpc7, hpv7, hc7, hM7, hbM7, hrest⟩
            have HC7 := Lib.hid (HC6.out.trans hc7 HMM6.out)
            have HP7 := Lib.hid hpc7
            have HV7 := Lib.hid hpv7
            have HMM7 := Lib.hid (fun y hy => HMM6.out y (hM7 y hy))
            have HREST := Lib.hid hrest
            have hb7 := HC7.out.blk hBR.out (fun h' => Nat.lt_irrefl _ (hML.out _ h'))
            obtain ⟨p0, p1, p2, p3, p4, p5, p6, p7, pf⟩ := blk8 hb7
            have hz7 := blk_lt hb7
            obtain ⟨c0, c1, c2, cf, hbw7⟩ := hpc7.cells
            clear hpc7 hpv7 hc7 hM7 hrest hb7 HS6 HC6 HMM6
            rcases hlast : l5.getLast? with _ | t6
            · have hl0 : l5 = [] := List.getLast?_eq_none_iff.1 hlast
              have HR7 := Lib.hid (show R = (wholeF t5, 0, k5) by rw [← HRUN6.out, hlast])
              have tl : ((l5.length : Int) == 0) = true := by simp [hl0]
              clear HRUN6 hlast hl0
              unfold PartV.val
              go_wp2_with fail
              refine bodyPost_ret (v := .tuple #[v7.val, .int .i64 0]) (by simp [results, Tryz.results20, go_sem, PartV.val, p0, p1, p2, p3, p4, p5, p6, p7, hz7]) rfl ?_
              refine exprQ_mk ((hEB.out.chg M).then HC7.out) ?_ HP7.out.hb hbw HR7.out ?_
              · refine Chg.alloc ?_ _
                repeat (with_reducible (refine Chg.setCell ?_ ?_ _))
                exact Chg.refl _ _
                all_goals (refine Or.inl ?_; simp)
              · refine HV7.out.mono (mask_sub_mask fun y hy hn => ⟨fun h => hn (by simp [h]), ?_⟩)
                refine Chg.block (N := [w.heap.size]) ?_ y hy (by simp; intro e; subst e; exact hn (by simp))
                refine Chg.alloc ?_ _
                repeat (with_reducible (refine Chg.setCell ?_ ?_ _))
                exact Chg.refl _ _
                all_goals (refine Or.inl ?_; simp)
            · have hl5 : l5 = l5.dropLast ++ [t6] := by
                obtain ⟨ys, rfl⟩ := List.getLast?_eq_some_iff.1 hlast
                simp
              have HL5 := Lib.hid hl5
              have hl0 : l5 ≠ [] := by intro e; simp [e] at hlast
              have tl : ((l5.length : Int) == 0) = false := by
                have : 0 < l5.length := List.length_pos_iff.2 hl0
                simp; omega
              have HRUN7 := Lib.hid (show (if acceptB toks k5 4 ⟨#[41]⟩ = true then runF toks tn f6 false (k5 + 1) l5.dropLast (withPart t6 (wholeF t5)) else (⟨ex0, 0, 0⟩, 5, k5)) = R by
                have := HRUN6.out
                rw [hlast] at this
                exact this)
              clear HRUN6 hlast hl5 hl0
              cases h3 : acceptB toks k5 4 ⟨#[41]⟩
              · have HR7 := Lib.hid (show R = (⟨ex0, 0, 0⟩, 5, k5) by rw [← HRUN7.out, if_neg (by simp [h3])])
                have H3 := Lib.hid h3
                clear h3 HRUN7
                unfold PartV.val
                go_wp2_with fail
                refine ((HP7.out.ext ((Ext.refl w7).alloc _)).acceptN H3.out).mono ?_
                rintro r w8 ⟨rfl, hc8, hp8⟩
                have HC8 := Lib.hid (HC7.out.trans (((Chg.refl [bp] w7).alloc _).then hc8) (by simpa using HMM7.out bp hbM7))
                have HP8 := Lib.hid hp8
                have hb8 := HC8.out.blk hBR.out (fun h' => Nat.lt_irrefl _ (hML.out _ h'))
                have hz8 := blk_lt hb8
                clear p0 p1 p2 p3 p4 p5 p6 p7 pf c0 c1 c2 cf
                obtain ⟨p0, p1, p2, p3, p4, p5, p6, p7, pf⟩ := blk8 hb8
                clear hc8 hp8 hb8
                go_wp2_with fail
                refine bodyPost_ret (v := .tuple #[(PartV.mk ⟨0, ⟨#[]⟩, none, 0, 0, 0, 0, none, 0, 0⟩ 0 0).val, .int .i64 5]) (by simp [results, Tryz.results20, go_sem, PartV.val, p0, p1, p2, p3, p4, p5, p6, p7]) rfl ?_
                refine exprQ_mk ((hEB.out.chg M).then HC8.out) ?_ HP8.out.hb hbw HR7.out ⟨rfl, rfl, isEx0 _⟩
                repeat (with_reducible (refine Chg.setCell ?_ ?_ _))
                exact Chg.refl _ _
                all_goals (refine Or.inl ?_; simp)
              · have HR7 := Lib.hid (show runF toks tn f6 false (k5 + 1) l5.dropLast (withPart t6 (wholeF t5)) = R by rw [← HRUN7.out, if_pos h3])
                have H3 := Lib.hid h3
                clear h3 HRUN7
                have HPS7 := Lib.hid (HREST.out l5.dropLast t6 HL5.out)
                unfold PartV.val
                go_wp2_with fail
                refine ((HPS7.out.ext ((Ext.refl w7).alloc _)).acceptY H3.out).mono ?_
                rintro r w8 ⟨rfl, hc8, hps8, hk8⟩
                have HC8 := Lib.hid (HC7.out.trans (((Chg.refl [bp] w7).alloc _).then hc8) (by simpa using HMM7.out bp hbM7))
                have hbx := hc8.blk (alloc_new w7 _) (by simp; omega)
                have HPS8 := Lib.hid hps8
                have HV8 : Hid (PartR (mask w8 ((w.heap.size :: X) ++ M7)) (wholeF t5) v7) := by
                  refine HV7.out.mono (mask_sub_mask fun y hy hn => ⟨hn, ?_⟩)
                  exact (((Chg.refl [bp] w7).alloc _).then hc8).block y hy (by simp; intro e; subst e; exact hn (List.mem_append_right _ hbM7))
                clear p0 p1 p2 p3 p4 p5 p6 p7 pf c0 c1 c2 cf
                obtain ⟨p0, p1, p2, p3, p4, p5, p6, p7, pf⟩ := blk8 hbx
                clear hc8 hps8 hbx
                go_wp2_with fail
                refine (add_ps HPS8.out (wholeF t5) v7 HV8.out (wholeF_tidy t5 HPT5.out.2.2.2.1) ?_).mono ?_
                · have h1 := HPT5.out.1
                  have h2 : potAll l5 = potAll (l5.dropLast ++ [t6]) := congrArg potAll HL5.out
                  have h3 := wholeF_size t5
                  have h4 : 0 < t5.ands.length := List.length_pos_iff.2 HNE.out
                  rw [potAll_snoc, h2] at h1
                  have h5 := sumPot_eq t5.ands
                  have h6 := sumPot_eq t5.ors
                  unfold Lvl.pot at h1
                  omega
                rintro r w9 ⟨rfl, hmv⟩
                obtain ⟨M9, hps9, hc9, hMM9⟩ := hmv.on HC8.out HMM7.out
                have HS9 := Lib.hid hps9
                have HC9 := Lib.hid hc9
                have HMM9 := Lib.hid hMM9
                clear hmv hps9 hc9 hMM9
                go_wp2_with fail
                go_roundg (tn - (k5 + 1))
                case measure => have := HM5.out; omega
                case rel => exact ⟨k5 + 1, l5.dropLast, _, M9, f6, HS9.out, HC9.out, HMM9.out, rfl, by omega, HR7.out, by simp [withPart], by omega⟩
          · have HR6 := Lib.hid (show runF toks tn f6 true (k5 + 1) l5 ⟨t5.nots, [], t5.ors ++ [joinedF 7 t5.ands]⟩ = R by have := HRUN.out; rw [runF, if_neg (by simp [h1]), if_pos h2] at this; exact this)
            rw [h1, h2] at hmv
            simp only [Bool.false_or, if_true, Bool.false_eq_true, if_false] at hmv ⊢
            obtain ⟨M6, hps6, hc6, hMM6⟩ := hmv.on HC.out HMM.out
            have HS6 := Lib.hid hps6
            have HC6 := Lib.hid hc6
            have HMM6 := Lib.hid hMM6
            have hk6 := hps6.pot.2.1
            clear hmv hps6 hc6 hMM6 h1 h2
            go_wp2_with fail
            go_roundg (tn - (k5 + 1))
            case measure => have := HM.out; omega
            case rel => exact ⟨k5 + 1, l5, _, M6, f6, HS6.out, HC6.out, HMM6.out, rfl, by omega, HR6.out⟩
        · have HR6 := Lib.hid (show runF toks tn f6 true (k5 + 1) l5 t5 = R by have := HRUN.out; rw [runF, if_pos h1] at this; exact this)
          rw [h1] at hmv
          simp only [Bool.true_or, if_true] at hmv ⊢
          obtain ⟨M6, hps6, hc6, hMM6⟩ := hmv.on HC.out HMM.out
          have HS6 := Lib.hid hps6
          have HC6 := Lib.hid hc6
          have HMM6 := Lib.hid hMM6
          have hk6 := hps6.pot.2.1
          clear hmv hps6 hc6 hMM6 h1
          go_wp2_with fail
          go_roundg (tn - (k5 + 1))
          case measure => have := HM.out; omega
          case rel => exact ⟨k5 + 1, l5, t5, M6, f6, HS6.out, HC6.out, HMM6.out, rfl, by omega, HR6.out⟩
    · have HR3 := Lib.hid (show R = (⟨ex0, 0, 0⟩, er, k3) by rw [← HRUN2.out, if_pos her])
      have t1 : (er == 0) = false := by simpa using her
      clear HRUN2 her hpt2
      unfold PartV.val
      go_wp2_with fail
      refine bodyPost_ret (v := .tuple #[(PartV.mk ⟨0, ⟨#[]⟩, none, 0, 0, 0, 0, none, 0, 0⟩ 0 0).val, .int .i64 er]) (by simp [results, Tryz.results20, go_sem, PartV.val, p0, p1, p2, p3, p4, p5, p6, p7, hz2]) rfl ?_
      obtain ⟨vl3, _, _, hI3, _⟩ := HS3.out
      refine exprQ_mk ((hEB.out.chg M).then HC3.out) ?_ hI3.pc.hb hbw HR3.out ⟨rfl, rfl, isEx0 _⟩
      refine Chg.alloc ?_ _
      repeat (with_reducible (refine Chg.setCell ?_ ?_ _))
      exact Chg.refl _ _
      all_goals (refine Or.inl ?_; simp)
end Go.Proofs.YtaepiiediblleaaGreatDoor

namespace Go.Proofs.YtaepiiediblleaaGreatDoor
open Go.RowKit

/-- What Tokens hands back: the expression, the next index, the index of an error, the error. -/
def tokensF (toks : List Tok) (i : Int) : Ex × Int × Int × Int :=
  if i < 0 ∨ (toks.length : Int) < i then (ex0, 0, 0, 1) else
  if (run toks true i.toNat [] lvl0).2.1 ≠ 0 then (ex0, 0, (run toks true i.toNat [] lvl0).2.2, (run toks true i.toNat [] lvl0).2.1) else
  if 300 < (run toks true i.toNat [] lvl0).1.size ∨ 16 < (run toks true i.toNat [] lvl0).1.depth then (ex0, 0, i, 4) else
  ((run toks true i.toNat [] lvl0).1.ex, (run toks true i.toNat [] lvl0).2.2, 0, 0)
def TokensQ (R : Ex × Int × Int × Int) (M : List Nat) (w : World) (e : Ending) (w' : World) : Prop :=
  ∃ x : ExV, e = .returned (.tuple #[x.val, .int .i64 R.2.1, .int .i64 R.2.2.1, .int .i64 R.2.2.2]) ∧ IsEx (mask w' M) R.1 x.val ∧ Ext w w'

def exV0 : ExV := ⟨0, ⟨#[]⟩, none, 0, 0, 0, 0, none, 0, 0⟩
theorem tokensQ_err {R : Ex × Int × Int × Int} {M : List Nat} {a b c : Int} {w w' : World} (h : R = (ex0, a, b, c)) (hx : Ext w w') : TokensQ R M w (.returned (.tuple #[exV0.val, .int .i64 a, .int .i64 b, .int .i64 c])) w' := by
  subst h; exact ⟨exV0, rfl, isEx0 _, hx⟩

theorem Chg.sub {N : List Nat} {w w' : World} (h : Chg N w w') : Sub (mask w N) (mask w' N) := mask_sub_mask fun k hk hn => ⟨hn, h.block k hk hn⟩
theorem mask_less {M N : List Nat} (w : World) (h : ∀ y ∈ M, y ∈ N) : Sub (mask w N) (mask w M) := mask_sub_mask fun k _ hn => ⟨fun h' => hn (h k h'), rfl⟩
/-- The parser, as Tokens makes it. -/
theorem start_ps {toks : List Tok} {ta : Option Addr} {tn tc k : Nat} {w : World} {c0 : Array Value} {t0 : TypeId} (ht : IsToks w toks ta tn tc) (htn : tn ≤ 1000000) (hk : k ≤ tn) (hsz : ∀ t ∈ toks, t.text.size ≤ 1000000000000000) (M : List Nat) (hM : ∀ y ∈ M, y < w.heap.size) :
    PS toks ta tn tc w (((w.alloc (.cells c0 t0)).alloc (.cells #[.int .i64 0, .slice none 0 0, .slice none 0 0] 51)).alloc (.cells #[.slice ta tn tc, .int .i64 k, .slice (some ⟨w.heap.size + 1, 0, none⟩) 1 1] 54)) (w.heap.size + 2) k [] lvl0
      [w.heap.size + 2, w.heap.size + 1] (w.heap.size :: M) := by
  have hx : Ext w (((w.alloc (.cells c0 t0)).alloc (.cells #[.int .i64 0, .slice none 0 0, .slice none 0 0] 51)).alloc (.cells #[.slice ta tn tc, .int .i64 k, .slice (some ⟨w.heap.size + 1, 0, none⟩) 1 1] 54)) := (((Ext.refl w).alloc _).alloc _).alloc _
  have hp := alloc_new ((w.alloc (.cells c0 t0)).alloc (.cells #[.int .i64 0, .slice none 0 0, .slice none 0 0] 51)) (.cells #[.slice ta tn tc, .int .i64 k, .slice (some ⟨w.heap.size + 1, 0, none⟩) 1 1] 54)
  have hl := blk_alloc (o' := .cells #[.slice ta tn tc, .int .i64 k, .slice (some ⟨w.heap.size + 1, 0, none⟩) 1 1] 54) (alloc_new (w.alloc (.cells c0 t0)) (.cells #[.int .i64 0, .slice none 0 0, .slice none 0 0] 51))
  have hs : (((w.alloc (.cells c0 t0)).alloc (.cells #[.int .i64 0, .slice none 0 0, .slice none 0 0] 51)).alloc (.cells #[.slice ta tn tc, .int .i64 k, .slice (some ⟨w.heap.size + 1, 0, none⟩) 1 1] 54)).heap.size = w.heap.size + 3 := by simp
  have e1 : (w.alloc (.cells c0 t0)).heap.size = w.heap.size + 1 := by simp
  have e2 : ((w.alloc (.cells c0 t0)).alloc (.cells #[.int .i64 0, .slice none 0 0, .slice none 0 0] 51)).heap.size = w.heap.size + 2 := by simp
  rw [e2] at hp
  rw [e1] at hl
  generalize (((w.alloc (.cells c0 t0)).alloc (.cells #[.int .i64 0, .slice none 0 0, .slice none 0 0] 51)).alloc (.cells #[.slice ta tn tc, .int .i64 k, .slice (some ⟨w.heap.size + 1, 0, none⟩) 1 1] 54)) = W at *
  have nilOwn : OwnParts W w.heap.size ((w.heap.size :: M) ++ [w.heap.size + 2, w.heap.size + 1]) [] (.slice none 0 0) := ⟨[], World.ownsRow_nil _ _ _ _, rfl, fun i h => by simp at h⟩
  refine ⟨.slice (some ⟨w.heap.size + 1, 0, none⟩) 1 1, [], lvlV0, ⟨⟨ht, hx, hp, by omega, hk, by omega, hsz⟩, ?_, rfl, ?_, ?_, ?_, ?_, ?_, ?_, ?_, ?_, htn⟩, rfl⟩
  · exact ⟨rfl, Or.inr ⟨w.heap.size + 1, 1, #[.int .i64 0, .slice none 0 0, .slice none 0 0], rfl, by omega, hl, by simp, by unfold maxLen; omega, rfl, rfl⟩⟩
  · intro i h1 h2
    obtain rfl : i = 0 := by simp at h1; exact h1
    exact ⟨rfl, nilOwn, nilOwn⟩
  · rfl
  · simp
  · intro x hx; exact List.mem_append_right _ hx
  · intro x hx
    rw [hs]
    rcases List.mem_append.1 hx with hx | hx
    · rcases List.mem_cons.1 hx with rfl | hx
      · omega
      · have := hM x hx; omega
    · simp at hx; omega
  · simp [potAll, Lvl.pot, lvl0, sumPot]
  · simp
  · intro l hl; simp at hl; subst hl; exact ⟨fun p hp => by simp [lvl0] at hp, fun p hp => by simp [lvl0] at hp⟩

set_option maxRecDepth 100000 in
set_option maxHeartbeats 2000000 in
theorem Tokens_calls (toks : List Tok) (ta : Option Addr) (tn tc : Nat) (i : Int) (w : World) (ht : IsToks w toks ta tn tc) (ho : HasOps w) (htn : tn ≤ 1000000) (hsz : ∀ t ∈ toks, t.text.size ≤ 1000000000000000) (M : List Nat) (hM : ∀ y ∈ M, y < w.heap.size) :
    Calls Tryz.prog 7 #[.slice ta tn tc, .int .i64 i] w (TokensQ (tokensF toks i) M w) := by
  have HT := Lib.hid ht
  have HO := Lib.hid ho
  have HZ := Lib.hid hsz
  have HN := Lib.hid ht.1
  have HMM := Lib.hid hM
  clear ht ho hsz hM
  by_cases h1 : i < 0
  · have HR := Lib.hid (show tokensF toks i = (ex0, 0, 0, 1) by rw [tokensF, if_pos (Or.inl h1)])
    generalize tokensF toks i = R at *
    have t1 : decide (i < 0) = true := by simpa using h1
    go_enter Tryz.func7, Tryz.ntmps7
    go_wp2_with fail
    refine bodyPost_ret (v := .tuple #[exV0.val, .int .i64 0, .int .i64 0, .int .i64 1]) (by simp [results, Tryz.results7, go_sem, exV0, ExV.val, exV]) rfl ?_
    exact tokensQ_err HR.out ((Ext.refl w).alloc _)
  by_cases h2 : (tn : Int) < i
  · have HR := Lib.hid (show tokensF toks i = (ex0, 0, 0, 1) by rw [tokensF, if_pos (Or.inr (by rw [← HN.out]; exact h2))])
    generalize tokensF toks i = R at *
    have t1 : decide (i < 0) = false := by simpa using h1
    have t2 : decide ((tn : Int) < i) = true := by simpa using h2
    go_enter Tryz.func7, Tryz.ntmps7
    go_wp2_with fail
    refine bodyPost_ret (v := .tuple #[exV0.val, .int .i64 0, .int .i64 0, .int .i64 1]) (by simp [results, Tryz.results7, go_sem, exV0, ExV.val, exV]) rfl ?_
    exact tokensQ_err HR.out ((Ext.refl w).alloc _)
  obtain ⟨k, rfl⟩ : ∃ k : Nat, i = (k : Int) := ⟨i.toNat, by omega⟩
  have hk : k ≤ tn := by omega
  have HR := Lib.hid (show tokensF toks k = if (run toks true k [] lvl0).2.1 ≠ 0 then (ex0, 0, ((run toks true k [] lvl0).2.2 : Int), (run toks true k [] lvl0).2.1) else
      if 300 < (run toks true k [] lvl0).1.size ∨ 16 < (run toks true k [] lvl0).1.depth then (ex0, 0, (k : Int), 4) else
      ((run toks true k [] lvl0).1.ex, ((run toks true k [] lvl0).2.2 : Int), 0, 0) by
    rw [tokensF, if_neg (by rw [← HN.out]; omega), Int.toNat_natCast])
  generalize tokensF toks k = R at *
  have t1 : decide ((k : Int) < 0) = false := by simp
  have t2 : decide ((tn : Int) < (k : Int)) = false := by simp; omega
  have t3 : decide (tn < k) = false := by simp; omega
  clear h1 h2
  have HP := Lib.hid (fun (c0 : Array Value) (t0 : TypeId) => start_ps (c0 := c0) (t0 := t0) HT.out htn hk HZ.out M HMM.out)
  have HE := Lib.hid (show ∀ a b c, Ext w (((w.alloc a).alloc b).alloc c) from fun a b c => (((Ext.refl w).alloc _).alloc _).alloc _)
  have HRU := Lib.hid (show runF toks tn (2 * (tn - k) + 2) true k [] lvl0 = run toks true k [] lvl0 by rw [HN.out]; rfl)
  go_enter Tryz.func7, Tryz.ntmps7
  go_wp2_with fail
  refine (expression_calls (HP.out _ _) HO.out).mono ?_
  rw [HRU.out]
  generalize run toks true k [] lvl0 = RR at *
  obtain ⟨q, er, k1⟩ := RR
  rintro r w1 ⟨v, vl, rfl, hv, hpb, hc⟩
  have hb0 := hc.blk (blk_alloc (o' := .cells #[.slice ta tn tc, .int .i64 k, .slice (some ⟨w.heap.size + 1, 0, none⟩) 1 1] 54) (blk_alloc (o' := .cells #[.int .i64 0, .slice none 0 0, .slice none 0 0] 51) (alloc_new w (.cells #[.int .i64 0, .string ⟨#[]⟩, .slice none 0 0, .int .i64 0, .int .i64 0, .slice none 0 0] 28)))) (by simp)
  have HX1 := Lib.hid (hc.ext (HE.out _ _ _) (by simp))
  have HV := Lib.hid hv
  unfold PB at hpb
  have hltp := blk_lt hpb
  have hlt0 := blk_lt hb0
  obtain ⟨c0, c1, c2, cf⟩ := blk3 hpb
  obtain ⟨b0, b1, b2, b3, b4, b5, bf⟩ := blk6 hb0
  clear hc hv hpb hb0
  simp only at HR HV c1
  by_cases her : er = 0
  · subst her
    simp only [ne_eq, not_true_eq_false, if_false] at HR
    unfold PartV.val
    go_wp2_with fail
    refine (beyond_calls _ _ _ _ _ _ _ _ _).mono ?_
    rintro r w2 ⟨rfl, hx2⟩
    have hC2 := Lib.hid (show Chg (w.heap.size :: M) w1 w2 from ((Chg.refl _ w1).alloc _).then (hx2.chg _))
    have hp2 := hx2.blk (alloc_new w1 (.cells #[.int .i64 v.x.op, .string v.x.name, .slice v.x.aw v.x.nw v.x.cw, .int .i64 v.x.lo, .int .i64 v.x.hi, .slice v.x.aa v.x.na v.x.ca, .int .i64 v.size, .int .i64 v.depth] 56))
    have hE2 : Ext w1 w2 := ((Ext.refl w1).alloc _).trans hx2
    have hz2 := hE2.size
    have hq2 := blk_lt hp2
    obtain ⟨p0, p1, p2, p3, p4, p5, p6, p7, pf⟩ := blk8 hp2
    replace b0 := hE2.cell b0
    replace b1 := hE2.cell b1
    replace b2 := hE2.cell b2
    replace b3 := hE2.cell b3
    replace b4 := hE2.cell b4
    replace b5 := hE2.cell b5
    replace c1 := hE2.cell c1
    have bf2 : ∀ j, w2.frozen? ⟨w.heap.size, j, none⟩ = false := fun j => by rw [World.frozen?_of_block (hE2.block _ hlt0)]; exact bf j
    have HX2 := Lib.hid (HX1.out.trans hE2)
    have hlt2 : w.heap.size < w2.heap.size := by omega
    clear hx2 hp2 hE2 bf cf c0 c2 HX1
    by_cases hbig : 300 < q.size ∨ 16 < q.depth
    · have HR1 := Lib.hid (show R = (ex0, 0, (k : Int), 4) by rw [HR.out, if_pos hbig])
      have tb : (decide (300 < (v.size : Int)) || decide (16 < (v.depth : Int))) = true := by have h1 := HV.out.1; have h2 := HV.out.2.1; rw [h1, h2]; simp; omega
      rw [tb]
      clear HR hbig tb
      go_wp2_with fail
      refine bodyPost_ret (v := .tuple #[exV0.val, .int .i64 0, .int .i64 k, .int .i64 4]) (by simp [results, Tryz.results7, go_sem, exV0, ExV.val, exV, b0, b1, b2, b3, b4, b5]) rfl ?_
      refine tokensQ_err HR1.out ?_
      repeat (with_reducible (refine Ext.setAbove ?_ ?_ _))
      exact HX2.out
      all_goals simp
    · have HR1 := Lib.hid (show R = (q.ex, (k1 : Int), 0, 0) by rw [HR.out, if_neg hbig])
      have tb : (decide (300 < (v.size : Int)) || decide (16 < (v.depth : Int))) = false := by have h1 := HV.out.1; have h2 := HV.out.2.1; rw [h1, h2]; simp; omega
      rw [tb]
      clear HR hbig tb
      go_wp2_with fail
      go_region
      all_goals
        go_wp2_with fail
        refine bodyPost_ret (v := .tuple #[v.x.val, .int .i64 k1, .int .i64 0, .int .i64 0]) (by simp [results, Tryz.results7, go_sem, ExV.val, exV, b0, b1, b2, b3, b4, b5]) rfl ?_
        rw [HR1.out]
        refine ⟨v.x, rfl, HV.out.2.2.mono ((Chg.sub ?_).trans (mask_less _ (fun y hy => List.mem_cons_of_mem _ hy))), ?_⟩
        · refine Chg.then hC2.out ?_
          repeat (with_reducible (first | refine Chg.setCell ?_ ?_ _ | refine Chg.drew ?_ | refine Chg.drewN ?_ _))
          exact Chg.refl _ _
          all_goals (refine Or.inl ?_; simp)
        · repeat (with_reducible (first | refine Ext.setAbove ?_ ?_ _ | refine Ext.drew ?_ | refine Ext.drewN ?_ _))
          exact HX2.out
          all_goals simp
  · have HR1 := Lib.hid (show R = (ex0, 0, (k1 : Int), er) by rw [HR.out, if_pos her])
    have te : (er == 0) = false := by simpa using her
    have te2 : (er != 0) = true := by simpa using her
    clear HR her
    unfold PartV.val
    go_wp2_with fail
    go_region
    all_goals
      go_wp2_with fail
      refine bodyPost_ret (v := .tuple #[exV0.val, .int .i64 0, .int .i64 k1, .int .i64 er]) (by simp [results, Tryz.results7, go_sem, exV0, ExV.val, exV, b0, b1, b2, b3, b4, b5, hlt0]) rfl ?_
      refine tokensQ_err HR1.out ?_
      repeat (with_reducible (first | refine Ext.setAbove ?_ ?_ _ | refine Ext.drew ?_ | refine Ext.drewN ?_ _ | refine Ext.alloc ?_ _))
      exact HX1.out
      all_goals simp
end Go.Proofs.YtaepiiediblleaaGreatDoor
