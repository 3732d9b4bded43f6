/-
  Texts of the claim, joined: Slim, Ref2, Ref3, Ref4, Names1, Ord1.
-/
import Derived.Test.YtfjlglefodndjaaDoorDo01
import Derived.Test.YtfjlglefodndjaaDoorDo09
import Derived.Test.YtfjlglefodndjaaDoorDo06
import Derived.Test.YtfjlglefodndjaaDoorDo02
import Derived.Maps.OwnSet
import Derived.Sort.KeysCollected
import Derived.Test.YtfjlglefodndjaaDoorProg
namespace Go.Proofs.YtfjlglefodndjaaDoor

/-! Expressions of any size, each with a bounded number of arguments. -/
mutual
def Ex.slim : Ex → Prop
  | .mk _ _ _ _ _ args => args.length ≤ 1000000000000000 ∧ slimAll args
def slimAll : List Ex → Prop
  | [] => True
  | e :: r => e.slim ∧ slimAll r
end
theorem slimAll_iff : (l : List Ex) → (slimAll l ↔ ∀ x ∈ l, x.slim)
  | [] => by simp [slimAll]
  | e :: r => by rw [slimAll, slimAll_iff r]; simp
theorem slim_parts {e : Ex} (h : e.slim) : e.args.length ≤ 1000000000000000 ∧ ∀ x ∈ e.args, x.slim := by
  cases e; unfold Ex.slim at h; exact ⟨h.1, (slimAll_iff _).1 h.2⟩
theorem slim_mk {op lo hi : Int} {name : ByteArray} {words : List ByteArray} {args : List Ex} (h1 : args.length ≤ 1000000000000000) (h2 : ∀ x ∈ args, x.slim) : (Ex.mk op name words lo hi args).slim := by
  unfold Ex.slim; exact ⟨h1, (slimAll_iff _).2 h2⟩
mutual
theorem slim_of_size : (e : Ex) → e.size ≤ 1000000000000000 → e.slim
  | .mk op name words lo hi args, h => by
    rw [Ex.size] at h
    have := length_le_sizes args
    unfold Ex.slim
    exact ⟨by omega, slimAll_of_size args (by omega)⟩
theorem slimAll_of_size : (l : List Ex) → sizes l ≤ 1000000000000000 → slimAll l
  | [], _ => by unfold slimAll; trivial
  | e :: r, h => by
    rw [sizes] at h
    unfold slimAll
    exact ⟨slim_of_size e (by omega), slimAll_of_size r (by omega)⟩
end
end Go.Proofs.YtfjlglefodndjaaDoor

namespace Go.Proofs.YtfjlglefodndjaaDoor
open Go.RowKit

theorem size_pos (e : Ex) : 1 ≤ e.size := by rw [e.size_eq]; omega

/-- Size of the reference: at most 301. -/
def refSize (e : Ex) : Nat := min e.size 301
def refSizes : List Ex → Nat
  | [] => 0
  | e :: r => refSize e + refSizes r
theorem refSizes_le (l : List Ex) : refSizes l ≤ sizes l ∧ l.length ≤ refSizes l ∧ min (1 + refSizes l) 301 = min (1 + sizes l) 301 := by
  induction l with
  | nil => simp [refSizes, sizes]
  | cons e r ih => have := size_pos e; simp only [refSizes, sizes, refSize, List.length_cons]; omega
theorem refSizes_take_succ (l : List Ex) (k : Nat) (hk : k < l.length) : refSizes (l.take (k + 1)) = refSizes (l.take k) + refSize l[k] := by
  induction l generalizing k with
  | nil => simp at hk
  | cons e r ih =>
    cases k with
    | zero => simp [refSizes]
    | succ k => have := ih k (by simpa using hk); simp only [List.take_succ_cons, refSizes, this, List.getElem_cons_succ]; omega
theorem refSize_of {e : Ex} {k : Nat} (hs : k = e.args.length ∨ 300 < 1 + refSizes (e.args.take k)) : min (1 + refSizes (e.args.take k)) 301 = refSize e := by
  have h1 := e.size_eq
  have h2 := refSizes_le (e.args.take k)
  have h3 := sizes_take_le e.args k
  have h4 := refSizes_le e.args
  unfold refSize
  rcases hs with hs | hs
  · rw [hs, List.take_length]; omega
  · omega

end Go.Proofs.YtfjlglefodndjaaDoor

namespace Go.Proofs.YtfjlglefodndjaaDoor
open Go.RowKit

/-- The reference's look at one node; na, nw: the numbers of arguments and of words. -/
def refNode (op : Int) (name : ByteArray) (words : List ByteArray) (lo hi : Int) (na nw : Nat) : Bool :=
  decide (1 ≤ op ∧ op ≤ 8) && (if op == 3 || op == 4 || op == 5 then nameB name else name.toList.isEmpty) && (if op == 4 then decide (1 ≤ nw) && decide (nw ≤ 12) && words.all nameB && decide words.Nodup else decide (nw = 0)) &&
  (if op == 5 then numberB lo && numberB hi && decide (lo ≤ hi) else (lo == 0) && (hi == 0)) && (if op == 6 then decide (na = 1) else if op == 7 || op == 8 then decide (2 ≤ na) else decide (na = 0))
def refNodeB (e : Ex) : Bool := refNode e.op e.name e.words e.lo e.hi e.args.length e.words.length

theorem int_beq0 (n : Nat) : ((n : Int) == 0) = decide (n = 0) := by rw [Bool.eq_iff_iff]; simp
theorem int_beq1 (n : Nat) : ((n : Int) == 1) = decide (n = 1) := by rw [Bool.eq_iff_iff]; simp; omega
end Go.Proofs.YtfjlglefodndjaaDoor

namespace Go.Proofs.YtfjlglefodndjaaDoor
open Go.RowKit

mutual
def nodesB : Ex → Bool
  | .mk op name words lo hi args => refNodeB (.mk op name words lo hi args) && nodesAll args
def nodesAll : List Ex → Bool
  | [] => true
  | e :: r => nodesB e && nodesAll r
end
theorem nodesB_eq (e : Ex) : nodesB e = (refNodeB e && nodesAll e.args) := by cases e; rw [nodesB]; rfl
theorem nodesAll_iff (l : List Ex) : nodesAll l = true ↔ ∀ j (h : j < l.length), nodesB l[j] = true := by
  induction l with
  | nil => simp [nodesAll]
  | cons e r ih =>
    rw [nodesAll, Bool.and_eq_true, ih]
    constructor
    · rintro ⟨h1, h2⟩ j hj
      cases j with
      | zero => exact h1
      | succ j => exact h2 j (by simpa using hj)
    · intro h
      exact ⟨h 0 (by simp), fun j hj => h (j + 1) (by simpa using hj)⟩
mutual
def Ex.few : Ex → Prop
  | .mk _ _ words _ _ args => words.length ≤ 1000000000000000 ∧ fewAll args
def fewAll : List Ex → Prop
  | [] => True
  | e :: r => e.few ∧ fewAll r
end
theorem fewAll_at : (l : List Ex) → fewAll l → (k : Nat) → (hk : k < l.length) → l[k].few
  | [], _, k, hk => by simp at hk
  | e :: r, h, 0, _ => by unfold fewAll at h; exact h.1
  | e :: r, h, k + 1, hk => by unfold fewAll at h; simpa using fewAll_at r h.2 k (by simpa using hk)
theorem few_parts {e : Ex} (h : e.few) : e.words.length ≤ 1000000000000000 ∧ fewAll e.args := by
  cases e; unfold Ex.few at h; exact h

def refExprB (e : Ex) : Bool := !decide (16 < e.depth) && decide (refSize e ≤ 300) && nodesB e
end Go.Proofs.YtfjlglefodndjaaDoor

namespace Go.Proofs.YtfjlglefodndjaaDoor
open Go.RowKit Go.Maps

mutual
/-- The names that are used, as they are met. -/
def namesE : Ex → List ByteArray
  | .mk op name _ _ _ args => (if op = 3 then [name] else []) ++ namesL args
def namesL : List Ex → List ByteArray
  | [] => []
  | e :: r => namesE e ++ namesL r
end
theorem namesE_eq (e : Ex) : namesE e = (if e.op = 3 then [e.name] else []) ++ namesL e.args := by cases e; rw [namesE]; rfl
theorem namesL_snoc (l : List Ex) (e : Ex) : namesL (l ++ [e]) = namesL l ++ namesE e := by
  induction l with
  | nil => simp [namesL]
  | cons a r ih => simp [namesL, ih]
theorem namesL_take (l : List Ex) (k : Nat) (h : k < l.length) : namesL (l.take (k + 1)) = namesL (l.take k) ++ namesE l[k] := by
  rw [List.take_succ_eq_append_getElem h, namesL_snoc]

/-- A map that is the set of these names. -/
def SetIs (D : DataW Unit) (l : List ByteArray) : Prop := ∃ es, D = .map es ∧ (∀ p ∈ es, ∃ s, p.1 = .string s) ∧ (strKeys D).Nodup ∧ ∀ s, s ∈ strKeys D ↔ ∃ x ∈ l, x.data.toList = s
theorem setIs_nil : SetIs (.map []) [] := ⟨[], rfl, by simp, by simp [strKeys], by simp [strKeys]⟩
theorem insert_perm {H : Type} (x : Lit × DataW H) : (l : List (Lit × DataW H)) → (DataW.insert x l).Perm (x :: l)
  | [] => List.Perm.refl _
  | y :: r => by
    rw [DataW.insert]
    split
    · exact List.Perm.refl _
    · exact ((insert_perm x r).cons y).trans (List.Perm.swap x y r)
theorem SetIs.put {D : DataW Unit} {l : List ByteArray} (h : SetIs D l) (x : ByteArray) (d : DataW Unit) : SetIs (D.put (.string x.data.toList) d) (l ++ [x]) := by
  obtain ⟨es, rfl, hs, hn, hm⟩ := h
  have hp := insert_perm ((.string x.data.toList, d) : Lit × DataW Unit) (es.filter fun p => !p.1.sameKey (.string x.data.toList))
  have hk : (strKeys (DataW.put (.map es) (.string x.data.toList) d)).Perm (x.data.toList :: strKeys (H := Unit) (.map (es.filter fun p => !p.1.sameKey (.string x.data.toList)))) := by
    simp only [DataW.put, strKeys]
    exact hp.map _
  have hf : ∀ s, s ∈ strKeys (H := Unit) (.map (es.filter fun p => !p.1.sameKey (.string x.data.toList))) ↔ s ∈ strKeys (H := Unit) (.map es) ∧ s ≠ x.data.toList := by
    intro s
    simp only [strKeys, List.mem_map, List.mem_filter]
    constructor
    · rintro ⟨p, ⟨h1, h2⟩, rfl⟩
      obtain ⟨t, ht⟩ := hs p h1
      refine ⟨⟨p, h1, rfl⟩, fun e => ?_⟩
      rw [ht] at h2 e
      simp only [strOf] at e
      subst e
      simp [Lit.sameKey] at h2
    · rintro ⟨⟨p, h1, rfl⟩, h2⟩
      obtain ⟨t, ht⟩ := hs p h1
      refine ⟨p, ⟨h1, ?_⟩, rfl⟩
      rw [ht] at h2 ⊢
      simp only [strOf] at h2
      simpa [Lit.sameKey] using h2
  refine ⟨_, rfl, fun p hp' => ?_, ?_, fun s => ?_⟩
  · have := hp.mem_iff.1 hp'
    rcases List.mem_cons.1 this with rfl | h1
    · exact ⟨_, rfl⟩
    · exact hs p (List.mem_filter.1 h1).1
  · rw [hk.nodup_iff, List.nodup_cons]
    refine ⟨fun h => ((hf _).1 h).2 rfl, ?_⟩
    have : (strKeys (H := Unit) (.map (es.filter fun p => !p.1.sameKey (.string x.data.toList)))).Sublist (strKeys (H := Unit) (.map es)) := by
      simp only [strKeys]
      exact (List.filter_sublist).map _
    exact hn.sublist this
  · rw [hk.mem_iff, List.mem_cons, hf, hm]
    constructor
    · rintro (rfl | ⟨⟨y, h1, h2⟩, _⟩)
      · exact ⟨x, by simp, rfl⟩
      · exact ⟨y, by simp [h1], h2⟩
    · rintro ⟨y, h1, rfl⟩
      rcases List.mem_append.1 h1 with h1 | h1
      · by_cases e : y.data.toList = x.data.toList
        · exact Or.inl e
        · exact Or.inr ⟨⟨y, h1, rfl⟩, e⟩
      · rw [List.mem_singleton.1 h1]; exact Or.inl rfl

/-- The reference's put: a string into an ascending list. -/
def putL (s : ByteArray) : List ByteArray → List ByteArray
  | [] => [s]
  | x :: r => if s.toList < x.toList then s :: x :: r else if s.toList = x.toList then x :: r else x :: putL s r
def refNames (l : List ByteArray) : List ByteArray := l.foldl (fun l s => putL s l) []
def Up (l : List ByteArray) : Prop := l.Pairwise (fun a b => a.toList < b.toList)
theorem lt_or {a b : List UInt8} (h1 : ¬ a < b) (h2 : a ≠ b) : b < a := by
  by_cases h : b < a
  · exact h
  · exact absurd (List.le_antisymm (List.not_lt.1 h) (List.not_lt.1 h1)) h2
theorem putL_mem (s y : ByteArray) : (l : List ByteArray) → (y ∈ putL s l ↔ y = s ∨ y ∈ l)
  | [] => by simp [putL]
  | x :: r => by
    rw [putL]
    split
    · simp
    · split
      · rename_i h1 h2
        have := toList_inj h2
        subst this
        simp
      · simp only [List.mem_cons, putL_mem s y r]
        constructor
        · rintro (h | h | h)
          · exact Or.inr (Or.inl h)
          · exact Or.inl h
          · exact Or.inr (Or.inr h)
        · rintro (h | h | h)
          · exact Or.inr (Or.inl h)
          · exact Or.inl h
          · exact Or.inr (Or.inr h)
theorem putL_up (s : ByteArray) : (l : List ByteArray) → Up l → Up (putL s l)
  | [], _ => by simp [putL, Up]
  | x :: r, h => by
    obtain ⟨h1, h2⟩ := List.pairwise_cons.1 h
    rw [putL]
    split
    · rename_i hlt
      refine List.pairwise_cons.2 ⟨fun y hy => ?_, h⟩
      rcases List.mem_cons.1 hy with rfl | hy
      · exact hlt
      · exact List.lt_trans hlt (h1 y hy)
    · split
      · exact h
      · rename_i n1 n2
        refine List.pairwise_cons.2 ⟨fun y hy => ?_, putL_up s r h2⟩
        rcases (putL_mem s y r).1 hy with rfl | hy
        · exact lt_or n1 n2
        · exact h1 y hy
theorem fold_up (m : List ByteArray) : ∀ l, Up l → Up (m.foldl (fun l s => putL s l) l) := by
  induction m with
  | nil => intro l h; exact h
  | cons a r ih => intro l h; exact ih _ (putL_up a l h)
theorem fold_mem (m : List ByteArray) : ∀ l y, y ∈ m.foldl (fun l s => putL s l) l ↔ y ∈ m ∨ y ∈ l := by
  induction m with
  | nil => intro l y; simp
  | cons a r ih =>
    intro l y
    rw [List.foldl_cons, ih, putL_mem, List.mem_cons]
    constructor
    · rintro (h | h | h)
      · exact Or.inl (Or.inr h)
      · exact Or.inl (Or.inl h)
      · exact Or.inr h
    · rintro ((h | h) | h)
      · exact Or.inr (Or.inl h)
      · exact Or.inl h
      · exact Or.inr (Or.inr h)
theorem refNames_up (l : List ByteArray) : Up (refNames l) := fold_up l [] (by simp [Up])
theorem refNames_mem (l : List ByteArray) (y : ByteArray) : y ∈ refNames l ↔ y ∈ l := by rw [refNames, fold_mem]; simp
theorem putL_len (s : ByteArray) : (l : List ByteArray) → (putL s l).length ≤ l.length + 1
  | [] => by simp [putL]
  | x :: r => by
    have := putL_len s r
    rw [putL]
    split
    · simp
    · split <;> simp <;> omega
theorem fold_len (m : List ByteArray) : ∀ l : List ByteArray, (m.foldl (fun l s => putL s l) l).length ≤ m.length + l.length := by
  induction m with
  | nil => intro l; simp
  | cons a r ih => intro l; have := ih (putL a l); have := putL_len a l; simp only [List.foldl_cons, List.length_cons]; omega
/-- What the program's Names hands back is what the reference's does. -/
theorem names_same {D : DataW Unit} {l : List ByteArray} {ss : List (List UInt8)} (h : SetIs D l) (hp : ss.Perm (strKeys D)) : (ss.mergeSort (fun x y => decide (x ≤ y))) = (refNames l).map (·.data.toList) := by
  obtain ⟨es, rfl, hs, hn, hm⟩ := h
  have tr : ∀ a b c : List UInt8, decide (a ≤ b) = true → decide (b ≤ c) = true → decide (a ≤ c) = true := fun a b c h1 h2 => by simp only [decide_eq_true_eq] at *; exact List.le_trans h1 h2
  have tto : ∀ a b : List UInt8, (decide (a ≤ b) || decide (b ≤ a)) = true := fun a b => by simp only [Bool.or_eq_true, decide_eq_true_eq]; exact List.le_total a b
  have hu := refNames_up l
  have eL : ∀ x : ByteArray, x.toList = x.data.toList := fun x => ByteArray.toList_eq x
  have hup : ((refNames l).map (·.data.toList)).Pairwise (fun a b => a < b) := by
    refine List.pairwise_map.2 (hu.imp fun {a b} h => ?_)
    rwa [eL, eL] at h
  have hnd : ((refNames l).map (·.data.toList)).Nodup := hup.imp fun {a b} h e => by subst e; exact List.lt_irrefl _ h
  have hperm : ((refNames l).map (·.data.toList)).Perm (strKeys (H := Unit) (.map es)) := by
    refine (List.perm_ext_iff_of_nodup hnd hn).2 fun s => ?_
    rw [hm, List.mem_map]
    constructor
    · rintro ⟨x, hx, rfl⟩; exact ⟨x, (refNames_mem l x).1 hx, rfl⟩
    · rintro ⟨x, hx, rfl⟩; exact ⟨x, (refNames_mem l x).2 hx, rfl⟩
  refine List.Perm.eq_of_pairwise (le := fun a b => decide (a ≤ b) = true) (fun a b _ _ h1 h2 => ?_) (List.pairwise_mergeSort tr tto ss) (hup.imp fun {a b} h => ?_) (((List.mergeSort_perm ss _).trans hp).trans hperm.symm)
  · simp only [decide_eq_true_eq] at h1 h2; exact List.le_antisymm h1 h2
  · simp only [decide_eq_true_eq]; exact List.le_of_lt h
end Go.Proofs.YtfjlglefodndjaaDoor

namespace Go.Proofs.YtfjlglefodndjaaDoor

/-! The plain law of check.Order: definitions in an order in which each comes after those that it uses. -/
/-- What Order looks at in a clause: whether it defines, its name, the names that it uses. -/
structure Dfn where
  is : Bool
  name : ByteArray
  uses : List ByteArray
def firstAt (l : List Dfn) (s : ByteArray) : Option Nat := l.findIdx? fun d => d.is && decide (d.name = s)
def isDef (l : List Dfn) (i : Nat) : Bool := match l[i]? with | some d => d.is | none => false
def usesAt (l : List Dfn) (i : Nat) : List ByteArray := match l[i]? with | some d => d.uses | none => []
def nameAt (l : List Dfn) (i : Nat) : ByteArray := match l[i]? with | some d => d.name | none => ⟨#[]⟩
/-- The names that i still waits for when the definitions of o are done. -/
def missL (l : List Dfn) (o : List Nat) (i : Nat) : List ByteArray := (usesAt l i).filter fun s => match firstAt l s with | some d => decide (d ∉ o) | none => false
def usersOf (l : List Dfn) (s : ByteArray) : List Nat := (List.range l.length).filter fun i => isDef l i && (usesAt l i).any fun t => decide (t = s)
def countOf (l : List Dfn) : Nat := ((List.range l.length).filter (isDef l)).length
def After (l : List Dfn) (o : List Nat) : Prop := ∀ p i, o[p]? = some i → ∀ s ∈ usesAt l i, ∀ d, firstAt l s = some d → d ∈ o.take p
structure Topo (l : List Dfn) (o : List Nat) : Prop where
  nodup : o.Nodup
  all : ∀ i, i ∈ o ↔ isDef l i = true
  after : After l o
structure OInv (l : List Dfn) (o R : List Nat) : Prop where
  nodup : (o ++ R).Nodup
  ready : ∀ i, i ∈ o ++ R ↔ (isDef l i = true ∧ missL l o i = [])
  after : After l o

theorem mem_miss {l : List Dfn} {o : List Nat} {i : Nat} {s : ByteArray} : s ∈ missL l o i ↔ s ∈ usesAt l i ∧ ∃ d, firstAt l s = some d ∧ d ∉ o := by
  unfold missL
  rw [List.mem_filter]
  refine and_congr_right fun _ => ?_
  cases h : firstAt l s <;> simp
theorem miss_nil {l : List Dfn} {o : List Nat} {i : Nat} : missL l o i = [] ↔ ∀ s ∈ usesAt l i, ∀ d, firstAt l s = some d → d ∈ o := by
  rw [List.eq_nil_iff_forall_not_mem]
  constructor
  · intro h s hs d hd
    by_cases hm : d ∈ o
    · exact hm
    · exact absurd (mem_miss.2 ⟨hs, d, hd, hm⟩) (h s)
  · intro h s hs
    obtain ⟨h1, d, h2, h3⟩ := mem_miss.1 hs
    exact h3 (h s h1 d h2)
theorem isDef_lt {l : List Dfn} {i : Nat} (h : isDef l i = true) : i < l.length := by
  unfold isDef at h
  rcases Nat.lt_or_ge i l.length with h' | h'
  · exact h'
  · rw [List.getElem?_eq_none h'] at h; cases h
theorem first_def {l : List Dfn} {s : ByteArray} {d : Nat} (h : firstAt l s = some d) : isDef l d = true ∧ nameAt l d = s := by
  unfold firstAt at h
  rw [List.findIdx?_eq_some_iff_getElem] at h
  obtain ⟨hd, h1, _⟩ := h
  simp only [Bool.and_eq_true, decide_eq_true_eq] at h1
  unfold isDef nameAt
  rw [List.getElem?_eq_getElem hd]
  exact h1
theorem OInv.start (l : List Dfn) : OInv l [] ((List.range l.length).filter fun i => isDef l i && (missL l [] i).isEmpty) where
  nodup := List.nodup_range.filter _
  ready i := by
    simp only [List.nil_append, List.mem_filter, List.mem_range, Bool.and_eq_true, List.isEmpty_iff]
    exact ⟨fun h => h.2, fun h => ⟨isDef_lt h.1, h⟩⟩
  after p i h := by simp at h
theorem After.snoc {l : List Dfn} {o : List Nat} {i : Nat} (h : After l o) (hm : missL l o i = []) : After l (o ++ [i]) := by
  intro p j hj s hs d hd
  rcases Nat.lt_trichotomy p o.length with hp | hp | hp
  · rw [List.getElem?_append_left hp] at hj
    rw [List.take_append_of_le_length (by omega)]
    exact h p j hj s hs d hd
  · subst hp
    simp at hj
    subst hj
    rw [List.take_left']
    · exact miss_nil.1 hm s hs d hd
    · rfl
  · rw [List.getElem?_eq_none (by simp; omega)] at hj
    cases hj
/-- A definition that is not the first of its name is taken: nothing waits for it. -/
theorem OInv.other {l : List Dfn} {o R R' : List Nat} {i : Nat} (h : OInv l o R) (hR : R.Perm (i :: R')) (hn : ∀ s, firstAt l s ≠ some i) : OInv l (o ++ [i]) R' where
  nodup := by
    have h1 := (List.Perm.append_left o hR).nodup_iff.1 h.nodup
    simpa using h1
  ready j := by
    have hm : missL l (o ++ [i]) j = [] ↔ missL l o j = [] := by
      rw [miss_nil, miss_nil]
      constructor
      · intro h1 s hs d hd
        have := h1 s hs d hd
        simp only [List.mem_append, List.mem_singleton] at this
        rcases this with h2 | rfl
        · exact h2
        · exact absurd hd (hn s)
      · intro h1 s hs d hd
        simp [h1 s hs d hd]
    rw [hm, ← h.ready j]
    have := (List.Perm.append_left o hR).mem_iff (a := j)
    rw [this]
    simp
  after := by
    have hi : i ∈ o ++ R := by
      rw [(List.Perm.append_left o hR).mem_iff]; simp
    exact h.after.snoc ((h.ready i).1 hi).2
/-- Those that wait for i alone. -/
def freed (l : List Dfn) (o : List Nat) (i : Nat) : List Nat := (usersOf l (nameAt l i)).filter fun u => (missL l (o ++ [i]) u).isEmpty
theorem OInv.first {l : List Dfn} {o R R' : List Nat} {i : Nat} (h : OInv l o R) (hR : R.Perm (i :: R')) (hf : firstAt l (nameAt l i) = some i) : OInv l (o ++ [i]) (R' ++ freed l o i) := by
  have hi : i ∈ o ++ R := by
    rw [(List.Perm.append_left o hR).mem_iff]; simp
  have hnd := (List.Perm.append_left o hR).nodup_iff.1 h.nodup
  have hio : i ∉ o := fun hio => by
    have := List.nodup_append.1 hnd
    exact this.2.2 i hio i (by simp) rfl
  have hfm : ∀ u, u ∈ freed l o i ↔ (isDef l u = true ∧ nameAt l i ∈ usesAt l u ∧ missL l (o ++ [i]) u = []) := by
    intro u
    unfold freed usersOf
    simp only [List.mem_filter, List.mem_range, Bool.and_eq_true, List.any_eq_true, decide_eq_true_eq, List.isEmpty_iff, exists_eq_right]
    exact ⟨fun ⟨⟨_, h1, h2⟩, h3⟩ => ⟨h1, h2, h3⟩, fun ⟨h1, h2, h3⟩ => ⟨⟨isDef_lt h1, h1, h2⟩, h3⟩⟩
  have hnot : ∀ u ∈ freed l o i, u ∉ o ++ R := by
    intro u hu hm
    have h1 := (hfm u).1 hu
    have h2 := miss_nil.1 ((h.ready u).1 hm).2 _ h1.2.1 _ hf
    exact hio h2
  refine ⟨?_, ?_, h.after.snoc ((h.ready i).1 hi).2⟩
  · have h1 : (o ++ [i] ++ R').Nodup := by simpa using hnd
    rw [← List.append_assoc]
    refine List.nodup_append.2 ⟨h1, ?_, ?_⟩
    · unfold freed usersOf
      exact (List.nodup_range.filter _).filter _
    · rintro a ha b hb rfl
      refine hnot a hb ?_
      rw [(List.Perm.append_left o hR).mem_iff]
      simpa using ha
  · intro j
    have hmem : j ∈ o ++ R ↔ j ∈ o ++ [i] ++ R' := by
      rw [(List.Perm.append_left o hR).mem_iff]; simp
    rw [← List.append_assoc, List.mem_append, ← hmem, hfm, h.ready j]
    constructor
    · rintro (⟨h1, h2⟩ | ⟨h1, _, h3⟩)
      · exact ⟨h1, miss_nil.2 fun s hs d hd => by simp [miss_nil.1 h2 s hs d hd]⟩
      · exact ⟨h1, h3⟩
    · rintro ⟨h1, h2⟩
      by_cases hu : nameAt l i ∈ usesAt l j
      · exact Or.inr ⟨h1, hu, h2⟩
      · refine Or.inl ⟨h1, miss_nil.2 fun s hs d hd => ?_⟩
        have h3 := miss_nil.1 h2 s hs d hd
        simp only [List.mem_append, List.mem_singleton] at h3
        rcases h3 with h3 | rfl
        · exact h3
        · exact absurd hs ((first_def hd).2 ▸ hu)
theorem nodup_le : (a b : List Nat) → a.Nodup → (∀ x ∈ a, x ∈ b) → a.length ≤ b.length
  | [], b, _, _ => by simp
  | x :: a, b, h, hs => by
    rw [List.nodup_cons] at h
    have hx : x ∈ b := hs x (by simp)
    have h1 := nodup_le a (b.erase x) h.2 fun y hy => by
      have hne : y ≠ x := fun e => h.1 (e ▸ hy)
      exact (List.mem_erase_of_ne hne).2 (hs y (by simp [hy]))
    rw [List.length_erase_of_mem hx] at h1
    have := List.length_pos_of_mem hx
    simp only [List.length_cons]
    omega
theorem nodup_full {a b : List Nat} (h : a.Nodup) (hs : ∀ x ∈ a, x ∈ b) (hl : b.length ≤ a.length) : ∀ x ∈ b, x ∈ a := by
  intro x hx
  by_cases hm : x ∈ a
  · exact hm
  · have h1 := nodup_le (x :: a) b (List.nodup_cons.2 ⟨hm, h⟩) (by simpa using ⟨hx, hs⟩)
    simp only [List.length_cons] at h1
    omega
theorem mem_defs {l : List Dfn} {i : Nat} : i ∈ (List.range l.length).filter (isDef l) ↔ isDef l i = true := by
  simp only [List.mem_filter, List.mem_range]
  exact ⟨fun h => h.2, fun h => ⟨isDef_lt h, h⟩⟩
theorem OInv.le {l : List Dfn} {o R : List Nat} (h : OInv l o R) : (o ++ R).length ≤ countOf l :=
  nodup_le _ _ h.nodup fun i hi => mem_defs.2 ((h.ready i).1 hi).1
theorem OInv.done {l : List Dfn} {o : List Nat} (h : OInv l o []) (hc : countOf l ≤ o.length) : Topo l o where
  nodup := by simpa using h.nodup
  all i := by
    have h1 : o.Nodup := by simpa using h.nodup
    have h2 : ∀ x ∈ o, x ∈ (List.range l.length).filter (isDef l) := fun x hx => mem_defs.2 ((h.ready x).1 (by simpa using hx)).1
    have h3 := nodup_full h1 h2 hc
    exact ⟨fun hi => mem_defs.1 (h2 i hi), fun hi => h3 i (mem_defs.2 hi)⟩
  after := h.after
theorem OInv.none {l : List Dfn} {o : List Nat} (h : OInv l o []) (hc : o.length < countOf l) : ¬ ∃ q, Topo l q := by
  rintro ⟨q, hq⟩
  have key : ∀ (p i : Nat), q[p]? = some i → i ∈ o := by
    intro p
    induction p using Nat.strongRecOn with
    | ind p ih =>
      intro i hi
      have h1 : isDef l i = true := (hq.all i).1 (List.mem_of_getElem? hi)
      have h2 : missL l o i = [] := miss_nil.2 fun s hs d hd => by
        obtain ⟨k, hk⟩ := List.mem_iff_getElem?.1 (hq.after p i hi s hs d hd)
        have hkp : k < p := by
          rcases Nat.lt_or_ge k p with h' | h'
          · exact h'
          · rw [List.getElem?_eq_none (by simp; omega)] at hk; cases hk
        rw [List.getElem?_take, if_pos hkp] at hk
        exact ih k hkp d hk
      have := (h.ready i).2 ⟨h1, h2⟩
      simpa using this
  have h3 := nodup_le _ o (List.nodup_range.filter (isDef l)) fun i hi => by
    have := (hq.all i).2 (mem_defs.1 hi)
    obtain ⟨p, hp⟩ := List.mem_iff_getElem?.1 this
    exact key p i hp
  unfold countOf at hc
  exact absurd h3 (by omega)
end Go.Proofs.YtfjlglefodndjaaDoor
