/-
  Texts of the claim, joined: Spec10, Exp1, RIdx, RSch, RNode, RNodes.
-/
import Derived.Test.YtfjlglefodndjaaDoorDo09
import Derived.Test.YtfjlglefodndjaaDoorDo04
import Derived.Test.YtfjlglefodndjaaDoorDo10
import Derived.Deep.DeepCutAuto
import Derived.StillTailTactics
namespace Go.Proofs.YtfjlglefodndjaaDoor

/-! What the reference of the checks computes, in plain words. -/
/-- The first error that is not 0 among f 0, .., f (n - 1), with its index. -/
def firstI (f : Nat → Int) : Nat → Nat × Int
  | 0 => (0, 0)
  | n + 1 => if (firstI f n).2 ≠ 0 then firstI f n else if f n ≠ 0 then (n, f n) else (0, 0)
theorem firstI_zero {f : Nat → Int} : (n : Nat) → (∀ j, j < n → f j = 0) → firstI f n = (0, 0)
  | 0, _ => rfl
  | n + 1, h => by rw [firstI, firstI_zero n fun j hj => h j (by omega), h n (by omega)]; simp
theorem firstI_hit {f : Nat → Int} {k : Nat} (hk : f k ≠ 0) (h0 : ∀ j, j < k → f j = 0) : (n : Nat) → k < n → firstI f n = (k, f k)
  | 0, h => by omega
  | n + 1, h => by
    by_cases e : k = n
    · subst e
      rw [firstI, firstI_zero k h0]; simp [hk]
    · rw [firstI, firstI_hit hk h0 n (by omega)]; simp [hk]
theorem firstI_congr {f g : Nat → Int} : (n : Nat) → (∀ j, j < n → f j = g j) → firstI f n = firstI g n
  | 0, _ => rfl
  | n + 1, h => by rw [firstI, firstI, firstI_congr n fun j hj => h j (by omega), h n (by omega)]

/-! Schemas. -/
def attrAt (s : List Attr) (x : ByteArray) : Option Nat := s.findIdx? fun a => decide (a.name = x)
def farB (n : Int) : Bool := !numberB n
def attrErr (a : Attr) : Int :=
  if a.kind = 1 then (if a.lo ≠ 0 ∨ a.hi ≠ 0 then 20 else if a.words.length = 0 then 19 else if 12 < a.words.length then 4 else if a.words.all nameB = false then 6 else if decide a.words.Nodup = false then 8 else 0)
  else if a.kind = 2 then (if 0 < a.words.length then 20 else if a.hi < a.lo ∨ farB a.lo = true ∨ farB a.hi = true then 1 else 0)
  else if a.kind = 3 then (if 0 < a.words.length ∨ a.lo ≠ 0 ∨ a.hi ≠ 0 then 20 else 0) else 11
def attr0 : Attr := ⟨⟨#[]⟩, 0, [], 0, 0⟩
def attrIErr (s : List Attr) (i : Nat) : Int :=
  if nameB (s.getD i attr0).name = false then 6 else if (s.take i).any (fun b => decide (b.name = (s.getD i attr0).name)) = true then 8 else attrErr (s.getD i attr0)
def schemaErr (s : List Attr) : Int := if s.length = 0 then 19 else if 6 < s.length then 4 else (firstI (attrIErr s) s.length).2

/-! Nodes. -/
def defAt (l : List Cla) (x : ByteArray) : Option Nat := l.findIdx? fun c => (c.kind == 1) && decide (c.name = x)
def nodeErr (s : List Attr) (l : List Cla) (op : Int) (name : ByteArray) (words : List ByteArray) (lo hi : Int) : Int :=
  if op = 3 then (match attrAt s name with | none => if (defAt l name).isSome then 0 else 7 | some i => if (s.getD i attr0).kind ≠ 3 then 9 else 0)
  else if op = 4 then (match attrAt s name with | none => 7 | some i => if (s.getD i attr0).kind ≠ 1 then 9 else if words.all (fun x => (s.getD i attr0).words.any fun y => decide (y = x)) = false then 7 else 0)
  else if op = 5 then (match attrAt s name with | none => 7 | some i => if (s.getD i attr0).kind ≠ 2 then 9 else if lo < (s.getD i attr0).lo ∨ (s.getD i attr0).hi < hi then 1 else 0)
  else 0
mutual
def nodesErr (s : List Attr) (l : List Cla) : Ex → Int
  | .mk op name words lo hi args => if nodeErr s l op name words lo hi ≠ 0 then nodeErr s l op name words lo hi else nodesErrL s l args
def nodesErrL (s : List Attr) (l : List Cla) : List Ex → Int
  | [] => 0
  | e :: r => if nodesErr s l e ≠ 0 then nodesErr s l e else nodesErrL s l r
end
theorem nodesErr_eq (s : List Attr) (l : List Cla) (e : Ex) : nodesErr s l e = if nodeErr s l e.op e.name e.words e.lo e.hi ≠ 0 then nodeErr s l e.op e.name e.words e.lo e.hi else nodesErrL s l e.args := by cases e; rw [nodesErr]; rfl
theorem nodesErrL_zero {s : List Attr} {l : List Cla} : (r : List Ex) → (∀ j (h : j < r.length), nodesErr s l r[j] = 0) → nodesErrL s l r = 0
  | [], _ => by rw [nodesErrL]
  | e :: r, h => by
    have h0 := h 0 (by simp)
    simp only [List.getElem_cons_zero] at h0
    rw [nodesErrL, h0]
    simp only [ne_eq, not_true_eq_false, if_false]
    exact nodesErrL_zero r fun j hj => by have := h (j + 1) (by simpa using hj); simpa using this
theorem nodesErrL_hit {s : List Attr} {l : List Cla} : (r : List Ex) → (k : Nat) → (hk : k < r.length) → nodesErr s l r[k] ≠ 0 → (∀ j (h : j < k), nodesErr s l (r[j]'(by omega)) = 0) → nodesErrL s l r = nodesErr s l r[k]
  | [], k, hk, _, _ => by simp at hk
  | e :: r, 0, _, h, _ => by simp only [List.getElem_cons_zero] at h ⊢; rw [nodesErrL, if_pos h]
  | e :: r, k + 1, hk, h, h0 => by
    have h1 := h0 0 (by omega)
    simp only [List.getElem_cons_zero] at h1
    rw [nodesErrL, h1]
    simp only [ne_eq, not_true_eq_false, if_false, List.getElem_cons_succ] at h ⊢
    exact nodesErrL_hit r k (by simpa using hk) h fun j hj => by have := h0 (j + 1) (by omega); simpa using this

/-! Expanded sizes, up to 2001. -/
mutual
def expE (D : ByteArray → Option Nat) : Ex → Nat
  | .mk op name _ _ _ args => min ((if op = 3 then (D name).getD 1 else 1) + expL D args) 2001
def expL (D : ByteArray → Option Nat) : List Ex → Nat
  | [] => 0
  | e :: r => expE D e + expL D r
end
theorem expE_eq (D : ByteArray → Option Nat) (e : Ex) : expE D e = min ((if e.op = 3 then (D e.name).getD 1 else 1) + expL D e.args) 2001 := by cases e; rw [expE]; rfl
theorem expL_take_succ (D : ByteArray → Option Nat) : (l : List Ex) → (k : Nat) → (hk : k < l.length) → expL D (l.take (k + 1)) = expL D (l.take k) + expE D l[k]
  | [], k, hk => by simp at hk
  | e :: r, 0, _ => by simp [expL]
  | e :: r, k + 1, hk => by
    have := expL_take_succ D r k (by simpa using hk)
    simp [expL] at this ⊢
    omega
theorem expL_take_le (D : ByteArray → Option Nat) : (l : List Ex) → (k : Nat) → expL D (l.take k) ≤ expL D l
  | [], k => by simp [expL]
  | e :: r, 0 => by simp [expL]
  | e :: r, k + 1 => by
    have := expL_take_le D r k
    simp [expL]; omega
theorem expE_le (D : ByteArray → Option Nat) (e : Ex) : expE D e ≤ 2001 := by rw [expE_eq]; omega
def cla0 : Cla := ⟨0, ⟨#[]⟩, .mk 0 ⟨#[]⟩ [] 0 0 [], [], 0⟩
/-- f - 1 definitions may be open within each other. -/
def expF (l : List Cla) : Nat → Ex → Nat
  | 0, _ => 2001
  | f + 1, e => expE (fun s => (defAt l s).map fun d => expF l f (l.getD d cla0).cond) e
def expanded (l : List Cla) (e : Ex) : Nat := expF l (l.length + 1) e
theorem expF_le (l : List Cla) (f : Nat) (e : Ex) : expF l f e ≤ 2001 := by cases f with | zero => simp [expF] | succ f => rw [expF]; exact expE_le _ e

/-! Write-backs and clauses. -/
def cntBacks : List Wb → Nat
  | [] => 0
  | .mk _ _ u :: r => 1 + min (cntBacks u) 41 + cntBacks r
def backsB : Nat → List Wb → Bool
  | _, [] => true
  | d, .mk n c u :: r => decide (d ≠ 0) && nameB n && refExprB c && backsB (d - 1) u && backsB d r
def mostOf (kind : Int) : Int := if kind = 5 ∨ kind = 6 ∨ kind = 7 ∨ kind = 10 then 1073741824 else if kind = 8 then 1000000 else 0
def clauseB (c : Cla) : Bool := decide (1 ≤ c.kind) && decide (c.kind ≤ 10) && nameB c.name && refExprB c.cond && (decide (c.unl.length = 0) || ((c.kind == 3) && decide (cntBacks c.unl ≤ 40) && backsB 16 c.unl)) &&
  ((decide (mostOf c.kind = 0) && (c.amount == 0)) || (decide (0 < mostOf c.kind) && decide (1 ≤ c.amount) && decide (c.amount ≤ mostOf c.kind)))
def backsErr (s : List Attr) (l : List Cla) : List Wb → Int
  | [] => 0
  | .mk _ c u :: r => if nodesErr s l c ≠ 0 then nodesErr s l c else if backsErr s l u ≠ 0 then backsErr s l u else backsErr s l r
def backsLarge (l : List Cla) : List Wb → Bool
  | [] => false
  | .mk _ c u :: r => decide (2000 < expanded l c) || backsLarge l u || backsLarge l r
def findAt (l : List Cla) (x : ByteArray) : Option Nat := l.findIdx? fun c => decide (c.name = x)
def claErr (s : List Attr) (l : List Cla) (i : Nat) : Int :=
  if clauseB (l.getD i cla0) = false then 5 else if (findAt l (l.getD i cla0).name).getD 0 < i then 8 else if (attrAt s (l.getD i cla0).name).isSome then 8 else
  if nodesErr s l (l.getD i cla0).cond ≠ 0 then nodesErr s l (l.getD i cla0).cond else backsErr s l (l.getD i cla0).unl
def claLarge (l : List Cla) (i : Nat) : Int := if 2000 < expanded l (l.getD i cla0).cond ∨ backsLarge l (l.getD i cla0).unl = true then 4 else 0
def Cla.dfn (c : Cla) : Dfn := ⟨c.kind == 1, c.name, refNames (namesE c.cond)⟩
/-- There is an order of the definitions. -/
def Sorts (l : List Dfn) : Prop := ∃ o, Topo l o
open Classical in
noncomputable def clausesErr (s : List Attr) (l : List Cla) : Nat × Int :=
  if schemaErr s ≠ 0 then (0, schemaErr s) else if 100 < l.length then (0, 4) else if (firstI (claErr s l) l.length).2 ≠ 0 then firstI (claErr s l) l.length else
  if ¬ Sorts (l.map Cla.dfn) then (0, 10) else firstI (claLarge l) l.length
end Go.Proofs.YtfjlglefodndjaaDoor

namespace Go.Proofs.YtfjlglefodndjaaDoor

/-! The plain law of the expanded sizes: sizes that are found in an order of the definitions are those that the reference counts. -/
mutual
/-- A name has no arguments. -/
def bareE : Ex → Bool
  | .mk op _ _ _ _ args => (op != 3 || args.isEmpty) && bareL args
def bareL : List Ex → Bool
  | [] => true
  | e :: r => bareE e && bareL r
end
mutual
/-- What the program counts. -/
def szE (D : ByteArray → Option Nat) : Ex → Nat
  | .mk op name _ _ _ args => match (if op = 3 then D name else none) with | some n => n | none => szL D 1 args
def szL (D : ByteArray → Option Nat) : Nat → List Ex → Nat
  | n, [] => n
  | n, e :: r => szL D (min (n + szE D e) 2001) r
end
theorem szE_eq' (D : ByteArray → Option Nat) (e : Ex) : szE D e = match (if e.op = 3 then D e.name else none) with | some n => n | none => szL D 1 e.args := by cases e; rw [szE]; rfl
theorem szL_snoc (D : ByteArray → Option Nat) : (l : List Ex) → (n : Nat) → (e : Ex) → szL D n (l ++ [e]) = min (szL D n l + szE D e) 2001
  | [], n, e => by simp [szL]
  | x :: r, n, e => by simp [szL, szL_snoc D r]
theorem szL_take_succ (D : ByteArray → Option Nat) (l : List Ex) (n k : Nat) (h : k < l.length) : szL D n (l.take (k + 1)) = min (szL D n (l.take k) + szE D l[k]) 2001 := by
  rw [List.take_succ_eq_append_getElem h, szL_snoc]
mutual
theorem szE_exp {D : ByteArray → Option Nat} (hD : ∀ s n, D s = some n → n ≤ 2001) : (e : Ex) → bareE e = true → szE D e = expE D e
  | .mk op name words lo hi args, h => by
    rw [bareE, Bool.and_eq_true] at h
    rw [szE, expE]
    have hl := szL_exp hD args h.2
    by_cases h3 : op = 3
    · have ha : args = [] := by
        have := h.1
        rw [h3] at this
        simpa using this
      subst ha
      simp only [if_pos h3]
      cases hd : D name with
      | none => simp [szL, expL]
      | some n => have := hD name n hd; simp [expL]; omega
    · simp only [if_neg h3]
      exact hl 1 (by omega)
theorem szL_exp {D : ByteArray → Option Nat} (hD : ∀ s n, D s = some n → n ≤ 2001) : (l : List Ex) → bareL l = true → ∀ n, n ≤ 2001 → szL D n l = min (n + expL D l) 2001
  | [], _, n, hn => by simp [szL, expL]; omega
  | e :: r, h, n, hn => by
    rw [bareL, Bool.and_eq_true] at h
    rw [szL, expL, szL_exp hD r h.2 _ (by omega), szE_exp hD e h.1]
    omega
end
mutual
theorem expE_congr {D D' : ByteArray → Option Nat} : (e : Ex) → (∀ s ∈ namesE e, D s = D' s) → expE D e = expE D' e
  | .mk op name words lo hi args, h => by
    rw [expE, expE]
    rw [namesE] at h
    rw [expL_congr args fun s hs => h s (List.mem_append_right _ hs)]
    by_cases h3 : op = 3
    · rw [if_pos h3, if_pos h3, h name (List.mem_append_left _ (by simp [h3]))]
    · rw [if_neg h3, if_neg h3]
theorem expL_congr {D D' : ByteArray → Option Nat} : (l : List Ex) → (∀ s ∈ namesL l, D s = D' s) → expL D l = expL D' l
  | [], _ => by rw [expL, expL]
  | e :: r, h => by
    rw [namesL] at h
    rw [expL, expL, expE_congr e fun s hs => h s (List.mem_append_left _ hs), expL_congr r fun s hs => h s (List.mem_append_right _ hs)]
end
theorem findIdx_map {α β : Type} (f : α → β) (p : β → Bool) (l : List α) : (l.map f).findIdx? p = l.findIdx? (fun x => p (f x)) := by
  rw [List.findIdx?_map]; rfl
theorem firstAt_dfn (l : List Cla) (s : ByteArray) : firstAt (l.map Cla.dfn) s = defAt l s := by
  unfold firstAt defAt
  rw [findIdx_map]
  rfl
theorem getD_cla {l : List Cla} {i : Nat} (h : i < l.length) : l.getD i cla0 = l[i] := by simp [h]
theorem isDef_dfn {l : List Cla} {i : Nat} (h : i < l.length) : isDef (l.map Cla.dfn) i = (l[i].kind == 1) := by
  unfold isDef
  simp [h, Cla.dfn]
theorem usesAt_dfn {l : List Cla} {i : Nat} (h : i < l.length) : usesAt (l.map Cla.dfn) i = refNames (namesE l[i].cond) := by
  unfold usesAt
  simp [h, Cla.dfn]
theorem nameAt_dfn {l : List Cla} {i : Nat} (h : i < l.length) : nameAt (l.map Cla.dfn) i = l[i].name := by
  unfold nameAt
  simp [h, Cla.dfn]
theorem defAt_lt {l : List Cla} {s : ByteArray} {d : Nat} (h : defAt l s = some d) : d < l.length := by
  unfold defAt at h
  rw [List.findIdx?_eq_some_iff_getElem] at h
  exact h.1
theorem defAt_name {l : List Cla} {s : ByteArray} {d : Nat} (h : defAt l s = some d) : (l.getD d cla0).name = s ∧ (l.getD d cla0).kind = 1 := by
  have hd := defAt_lt h
  unfold defAt at h
  rw [List.findIdx?_eq_some_iff_getElem] at h
  obtain ⟨_, h1, _⟩ := h
  simp only [Bool.and_eq_true, beq_iff_eq, decide_eq_true_eq] at h1
  rw [getD_cla hd]
  exact ⟨h1.2, h1.1⟩
theorem Topo.lt {l : List Dfn} {o : List Nat} (h : Topo l o) {i : Nat} (hi : i ∈ o) : i < l.length := isDef_lt ((h.all i).1 hi)
theorem Topo.len {l : List Dfn} {o : List Nat} (h : Topo l o) : o.length ≤ l.length := by
  have := nodup_le o (List.range l.length) h.nodup fun x hx => List.mem_range.2 (h.lt hx)
  simpa using this
/-- A definition's size does not depend on how many more may be open. -/
theorem expF_stable {l : List Cla} {o : List Nat} (h : Topo (l.map Cla.dfn) o) : ∀ (q d : Nat), o[q]? = some d → ∀ f g, q < f → q < g → expF l f (l.getD d cla0).cond = expF l g (l.getD d cla0).cond := by
  intro q
  induction q using Nat.strongRecOn with
  | ind q ih =>
    intro d hd f g hf hg
    obtain ⟨f, rfl⟩ : ∃ k, f = k + 1 := ⟨f - 1, by omega⟩
    obtain ⟨g, rfl⟩ : ∃ k, g = k + 1 := ⟨g - 1, by omega⟩
    rw [expF, expF]
    refine expE_congr _ fun s hs => ?_
    have hdl : d < l.length := by simpa using h.lt (List.mem_of_getElem? hd)
    cases hda : defAt l s with
    | none => rfl
    | some d' =>
      have h1 := h.after q d hd s (by rw [usesAt_dfn hdl, refNames_mem]; rwa [getD_cla hdl] at hs) d' (by rw [firstAt_dfn]; exact hda)
      obtain ⟨q', hq'⟩ := List.mem_iff_getElem?.1 h1
      have hlt : q' < q := by
        rcases Nat.lt_or_ge q' q with h' | h'
        · exact h'
        · rw [List.getElem?_eq_none (by simp; omega)] at hq'; cases hq'
      rw [List.getElem?_take, if_pos hlt] at hq'
      simp only [Option.map_some, Option.some.injEq]
      exact ih q' hlt d' hq' f g (by omega) (by omega)
/-- The sizes that are found one after the other. -/
def sizesF (l : List Cla) (o : List Nat) : ByteArray → Option Nat := o.foldl (fun D i s => if s = (l.getD i cla0).name then some (szE D (l.getD i cla0).cond) else D s) (fun _ => none)
theorem sizesF_snoc (l : List Cla) (o : List Nat) (i : Nat) (s : ByteArray) : sizesF l (o ++ [i]) s = if s = (l.getD i cla0).name then some (szE (sizesF l o) (l.getD i cla0).cond) else sizesF l o s := by simp [sizesF]
theorem szE_bound {D : ByteArray → Option Nat} (hD : ∀ s n, D s = some n → n ≤ 2001) (e : Ex) (h : bareE e = true) : szE D e ≤ 2001 := by rw [szE_exp hD e h]; exact expE_le D e
theorem sizesF_spec {l : List Cla} {o : List Nat} (h : Topo (l.map Cla.dfn) o) (hu : ∀ i ∈ o, defAt l (l.getD i cla0).name = some i) (hb : ∀ i ∈ o, bareE (l.getD i cla0).cond = true) :
    ∀ p, p ≤ o.length → ∀ s, sizesF l (o.take p) s = match defAt l s with | some d => if d ∈ o.take p then some (expF l l.length (l.getD d cla0).cond) else none | none => none := by
  have hol : o.length ≤ l.length := by simpa using h.len
  intro p
  induction p with
  | zero =>
    intro _ s
    simp only [List.take_zero, List.not_mem_nil, if_false]
    cases defAt l s <;> rfl
  | succ p ih =>
    intro hp s
    have hp' : p < o.length := by omega
    have IH := ih (by omega)
    have hD : ∀ s n, sizesF l (o.take p) s = some n → n ≤ 2001 := by
      intro s n hn
      rw [IH s] at hn
      cases hd : defAt l s with
      | none => rw [hd] at hn; cases hn
      | some d =>
        rw [hd] at hn
        simp only at hn
        split at hn
        · cases hn; exact expF_le _ _ _
        · cases hn
    have him : o[p] ∈ o := List.getElem_mem hp'
    have hil : o[p] < l.length := by simpa using h.lt him
    rw [List.take_succ_eq_append_getElem hp', sizesF_snoc]
    have key : szE (sizesF l (o.take p)) (l.getD o[p] cla0).cond = expF l l.length (l.getD o[p] cla0).cond := by
      rw [szE_exp hD _ (hb _ him), expF_stable h p o[p] (List.getElem?_eq_getElem hp') l.length (l.length + 1) (by omega) (by omega), expF]
      refine expE_congr _ fun t ht => ?_
      rw [IH t]
      cases hda : defAt l t with
      | none => rfl
      | some d =>
        have h1 := h.after p o[p] (List.getElem?_eq_getElem hp') t (by rw [usesAt_dfn hil, refNames_mem]; rwa [getD_cla hil] at ht) d (by rw [firstAt_dfn]; exact hda)
        simp [h1]
    by_cases hs : s = (l.getD o[p] cla0).name
    · rw [if_pos hs, key, hs, hu _ him]
      simp only [List.mem_append, List.mem_singleton, or_true, if_true]
    · rw [if_neg hs, IH s]
      cases hd : defAt l s with
      | none => rfl
      | some d =>
        have hne : d ≠ o[p] := fun e => hs (by rw [← e]; exact (defAt_name hd).1.symm)
        simp only [List.mem_append, List.mem_singleton, hne, or_false]
/-- With all sizes found, the program's count is the reference's. -/
theorem sizes_exp {l : List Cla} {o : List Nat} (h : Topo (l.map Cla.dfn) o) (hu : ∀ i ∈ o, defAt l (l.getD i cla0).name = some i) (hb : ∀ i ∈ o, bareE (l.getD i cla0).cond = true) (e : Ex) (he : bareE e = true) : szE (sizesF l o) e = expanded l e := by
  have hs := sizesF_spec h hu hb o.length (Nat.le_refl _)
  rw [List.take_length] at hs
  have hD : ∀ s n, sizesF l o s = some n → n ≤ 2001 := by
    intro s n hn
    rw [hs s] at hn
    cases hd : defAt l s with
    | none => rw [hd] at hn; cases hn
    | some d =>
      rw [hd] at hn
      simp only at hn
      split at hn
      · cases hn; exact expF_le _ _ _
      · cases hn
  rw [szE_exp hD e he, expanded, expF]
  refine expE_congr _ fun t ht => ?_
  rw [hs t]
  cases hda : defAt l t with
  | none => rfl
  | some d =>
    have hdl := defAt_lt hda
    have : d ∈ o := (h.all d).2 (by rw [isDef_dfn hdl, ← getD_cla hdl, (defAt_name hda).2]; rfl)
    simp [this]
end Go.Proofs.YtfjlglefodndjaaDoor

namespace Go.Proofs.YtfjlglefodndjaaDoor
open Go.RowKit

/-! The reference's look-ups. -/
theorem IsSchema.parts {w : World} {l : List Attr} {v : Value} (h : IsSchema w l v) : ∃ a n c, v = .agg #[.slice a n c] ∧ n = l.length ∧ n ≤ c ∧ OkAddr a c ∧ ∀ i (h : i < l.length), ∃ b off, a = some ⟨b, off, none⟩ ∧ AttrAt w l[i] b (off + i * 5) := h
theorem IsSchema.ext {w w' : World} {l : List Attr} {v : Value} (h : IsSchema w l v) (he : Ext w w') : IsSchema w' l v := h.mono he.sub
def optV (o : Option Nat) : Value := .tuple #[.int .i64 (o.getD 0 : Nat), .bool o.isSome]
theorem find_hit {α : Type} {p : α → Bool} {l : List α} {k : Nat} (hk : k < l.length) (h1 : p l[k] = true) (h2 : ∀ j (h : j < l.length), j < k → p l[j] = false) : l.findIdx? p = some k := by
  rw [List.findIdx?_eq_some_iff_getElem]
  exact ⟨hk, h1, fun j hj => by rw [h2 j (by omega) hj]; simp⟩
theorem find_miss {α : Type} {p : α → Bool} {l : List α} (h : ∀ j (h : j < l.length), p l[j] = false) : l.findIdx? p = none := by
  rw [List.findIdx?_eq_none_iff]
  intro x hx
  obtain ⟨i, hi, rfl⟩ := List.mem_iff_getElem.1 hx
  simp [h i hi]
theorem blk1 {w : World} {b : Nat} {v0 : Value} {t : TypeId} (h : w.heap[b]? = some (.cells #[v0] t (0, 0))) : w.cell? ⟨b, 0, none⟩ = some v0 ∧ (∀ j, w.frozen? ⟨b, j, none⟩ = false) := ⟨blk_cell h 0, fun j => blk_free h j⟩
theorem dec_of_beq {a b : ByteArray} {u : Bool} (h : (a.toList == b.toList) = u) : decide (a = b) = u := by rw [← toList_beq]; exact h
end Go.Proofs.YtfjlglefodndjaaDoor

namespace Go.Proofs.YtfjlglefodndjaaDoor
open Go.RowKit

theorem blk5b {w : World} {b : Nat} {v0 v1 v2 v3 v4 : Value} {t : TypeId} (h : w.heap[b]? = some (.cells #[v0, v1, v2, v3, v4] t (0, 0))) :
    w.cell? ⟨b, 0, none⟩ = some v0 ∧ w.cell? ⟨b, 1, none⟩ = some v1 ∧ w.cell? ⟨b, 2, none⟩ = some v2 ∧ w.cell? ⟨b, 3, none⟩ = some v3 ∧ w.cell? ⟨b, 4, none⟩ = some v4 ∧ (∀ j, w.frozen? ⟨b, j, none⟩ = false) :=
  ⟨blk_cell h 0, blk_cell h 1, blk_cell h 2, blk_cell h 3, blk_cell h 4, fun j => blk_free h j⟩
/-- Lengths that no counter passes. -/
def Attr.fits (a : Attr) : Prop := a.name.size ≤ 1000000000000000 ∧ a.words.length ≤ 1000000000000000 ∧ ∀ x ∈ a.words, x.size ≤ 1000000000000000
theorem givesE_of {k : IntKind} {a b : Int} {w w' : World} (h : a = b) (hx : Ext w w') : GivesE (.int k b) w (.returned (.int k a)) w' := by subst h; exact ⟨rfl, hx⟩
/-- What the loop over the attributes keeps. -/
def SchI (s : List Attr) (n : Nat) (a : Option Addr) (c : Nat) (w : World) (t : Value) (wr : World) : Prop := ∃ k : Nat, t = .int .i64 k ∧ k ≤ n ∧ (∀ j, j < k → attrIErr s j = 0) ∧ wr.heap[w.heap.size]? = some (.cells #[.slice a n c] 36 (0, 0)) ∧ Ext w wr
def SchJ (s : List Attr) (k : Nat) (wa : World) (t : Value) (wr : World) : Prop := ∃ m : Nat, t = .int .i64 m ∧ m ≤ k ∧ (∀ j (h : j < s.length), j < m → decide (s[j].name = (s.getD k attr0).name) = false) ∧ (∃ q, wr = wa.drewN q)
theorem getD_attr {s : List Attr} {i : Nat} (h : i < s.length) : s.getD i attr0 = s[i] := by simp [h]
end Go.Proofs.YtfjlglefodndjaaDoor

namespace Go.Proofs.YtfjlglefodndjaaDoor
open Go.RowKit

theorem alloc_atR {w : World} {o : Obj} {n : Nat} (h : n = w.heap.size) : (w.alloc o).heap[n]? = some o := by subst h; exact alloc_new w o
theorem optV_none : optV none = .tuple #[.int .i64 0, .bool false] := rfl
theorem optV_some (i : Nat) : optV (some i) = .tuple #[.int .i64 i, .bool true] := rfl
theorem attrAt_lt {s : List Attr} {x : ByteArray} {i : Nat} (h : attrAt s x = some i) : i < s.length := by
  unfold attrAt at h
  rw [List.findIdx?_eq_some_iff_getElem] at h
  exact h.1
/-- The i-th attribute's cells. -/
theorem IsSchema.cells {w : World} {s : List Attr} {a : Option Addr} {n c : Nat} (h : IsSchema w s (.agg #[.slice a n c])) {i : Nat} (hi : i < s.length) : ∃ b off aw nw cw, a = some ⟨b, off, none⟩ ∧ w.cell? ⟨b, off + i * 5, none⟩ = some (.string s[i].name) ∧ w.cell? ⟨b, off + i * 5 + 1, none⟩ = some (.int .i64 s[i].kind) ∧
    w.cell? ⟨b, off + i * 5 + 2, none⟩ = some (.slice aw nw cw) ∧ w.cell? ⟨b, off + i * 5 + 3, none⟩ = some (.int .i64 s[i].lo) ∧ w.cell? ⟨b, off + i * 5 + 4, none⟩ = some (.int .i64 s[i].hi) ∧ IsStrs w s[i].words aw nw cw := by
  obtain ⟨a', n', c', e', _, _, _, hat⟩ := h.parts
  simp only [Value.agg.injEq, Array.mk.injEq, List.cons.injEq, Value.slice.injEq, and_true] at e'
  obtain ⟨rfl, rfl, rfl⟩ := e'
  obtain ⟨b, off, rfl, aw, nw, cw, h0, h1, h2, h3, h4, h5⟩ := hat i hi
  exact ⟨b, off, aw, nw, cw, rfl, h0, h1, h2, h3, h4, h5⟩
theorem IsSchema.slice {w : World} {s : List Attr} {v : Value} (h : IsSchema w s v) : ∃ a n c, v = .agg #[.slice a n c] ∧ n = s.length := by
  obtain ⟨a, n, c, rfl, hn, _⟩ := h.parts
  exact ⟨a, n, c, rfl, hn⟩
end Go.Proofs.YtfjlglefodndjaaDoor

namespace Go.Proofs.YtfjlglefodndjaaDoor
open Go.RowKit

end Go.Proofs.YtfjlglefodndjaaDoor
