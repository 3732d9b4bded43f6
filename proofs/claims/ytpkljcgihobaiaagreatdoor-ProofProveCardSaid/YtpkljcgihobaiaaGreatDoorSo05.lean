/-
  Texts of the claim, joined: Ord1, Spec10, Exp1, Val11, Plain1, Fmt, OkTree, Fmt2.
-/
import Derived.Test.YtpkljcgihobaiaaGreatDoorSo04
namespace Go.Proofs.YtpkljcgihobaiaaGreatDoor
set_option maxRecDepth 100000
set_option maxHeartbeats 32000000
structure Dfn where
 is : Bool
 name : BA
 uses : ZB
def firstAt (l : List Dfn) (s : BA) : Option Nat := l.findIdx? fun d => d.is && decide (d.name = s)
def isDef (l : List Dfn) (i : Nat) : Bool := match l[i]? with | some d => d.is | none => false
def usesAt (l : List Dfn) (i : Nat) : ZB := match l[i]? with | some d => d.uses | none => []
def nameAt (l : List Dfn) (i : Nat) : BA := match l[i]? with | some d => d.name | none => ⟨#[]⟩
def missL (l : List Dfn) (o : ZN) (i : Nat) : ZB := (usesAt l i).filter fun s => match firstAt l s with | some d => decide (d ∉ o) | none => false
def usersOf (l : List Dfn) (s : BA) : ZN := (List.range l.length).filter fun i => isDef l i && (usesAt l i).any fun t => decide (t = s)
def countOf (l : List Dfn) : Nat := ((List.range l.length).filter (isDef l)).length
def After (l : List Dfn) (o : ZN) : Prop := ∀ p i, o[p]? = some i -> ∀ s ∈ usesAt l i, ∀ d, firstAt l s = some d -> d ∈ o.take p
structure Topo (l : List Dfn) (o : ZN) : Prop where
 nodup : o.Nodup
 all : ∀ i, i ∈ o ↔ isDef l i = true
 after : After l o
structure OInv (l : List Dfn) (o R : ZN) : Prop where
 nodup : (o ++ R).Nodup
 ready : ∀ i, i ∈ o ++ R ↔ (isDef l i = true /\ missL l o i = [])
 after : After l o
theorem mem_miss {l : List Dfn} {o : ZN} {i : Nat} {s : BA} : s ∈ missL l o i ↔ s ∈ usesAt l i /\ ∃ d, firstAt l s = some d /\ d ∉ o := by
 unfold missL
 rw [List.mem_filter]
 refine and_congr_right fun _ => ?_
 cases h : firstAt l s <;> simp
theorem miss_nil {l : List Dfn} {o : ZN} {i : Nat} : missL l o i = [] ↔ ∀ s ∈ usesAt l i, ∀ d, firstAt l s = some d -> d ∈ o := by
 rw [List.eq_nil_iff_forall_not_mem]
 constructor
 ·intro h s hs d hd
  by_cases hm : d ∈ o
  ·exact hm
  exact absurd (mem_miss.2 ⟨hs, d, hd, hm⟩) (h s)
 intro h s hs
 obtain ⟨h1, d, h2, h3⟩ := mem_miss.1 hs
 exact h3 (h s h1 d h2)
theorem isDef_lt {l : List Dfn} {i : Nat} (h : isDef l i = true) : i < l.length := by
 unfold isDef at h
 rcases Nat.lt_or_ge i l.length with h' | h'
 ·exact h'
 rw [List.getElem?_eq_none h'] at h; cases h
theorem first_def {l : List Dfn} {s : BA} {d : Nat} (h : firstAt l s = some d) : isDef l d = true /\ nameAt l d = s := by
 unfold firstAt at h
 rw [List.findIdx?_eq_some_iff_getElem] at h
 obtain ⟨hd, h1, _⟩ := h
 simp only [Bool.and_eq_true, decide_eq_true_eq] at h1
 unfold isDef nameAt
 rw [List.getElem?_eq_getElem hd]
 exact h1
theorem OInv.start (l : List Dfn) : OInv l [] ((List.range l.length).filter fun i => isDef l i && (missL l [] i).isEmpty) where
 nodup := List.nodup_range.filter _
 ready i := by
  simp only [List.nil_append, List.mem_filter, List.mem_range, Bool.and_eq_true, List.isEmpty_iff]
  exact ⟨fun h => h.2, fun h => ⟨isDef_lt h.1, h⟩⟩
 after p i h := by simp at h
theorem After.snoc {l : List Dfn} {o : ZN} {i : Nat} (h : After l o) (hm : missL l o i = []) : After l (o ++ [i]) := by
 intro p j hj s hs d hd
 rcases Nat.lt_trichotomy p o.length with hp | hp | hp
 ·rw [List.getElem?_append_left hp] at hj
  rw [List.take_append_of_le_length (by omega)]
  exact h p j hj s hs d hd
 ·subst hp
  simp at hj
  subst hj
  rw [List.take_left']
  ·exact miss_nil.1 hm s hs d hd
  rfl
 rw [List.getElem?_eq_none (by simp; omega)] at hj
 cases hj
theorem OInv.other {l : List Dfn} {o R R' : ZN} {i : Nat} (h : OInv l o R) (hR : R.Perm (i :: R')) (hn : ∀ s, firstAt l s ≠ some i) : OInv l (o ++ [i]) R' where
 nodup := by
  have h1 := (List.Perm.append_left o hR).nodup_iff.1 h.nodup
  simpa using h1
 ready j := by
  have hm : missL l (o ++ [i]) j = [] ↔ missL l o j = [] := by
   rw [miss_nil, miss_nil]
   constructor
   ·intro h1 s hs d hd
    have := h1 s hs d hd
    simp only [List.mem_append, List.mem_singleton] at this
    rcases this with h2 | rfl
    ·exact h2
    exact absurd hd (hn s)
   intro h1 s hs d hd
   simp [h1 s hs d hd]
  rw [hm, <- h.ready j]
  have := (List.Perm.append_left o hR).mem_iff (a := j)
  rw [this]
  simp
 after := by
  have hi : i ∈ o ++ R := by
   rw [(List.Perm.append_left o hR).mem_iff]; simp
  exact h.after.snoc ((h.ready i).1 hi).2
def freed (l : List Dfn) (o : ZN) (i : Nat) : ZN := (usersOf l (nameAt l i)).filter fun u => (missL l (o ++ [i]) u).isEmpty
theorem OInv.first {l : List Dfn} {o R R' : ZN} {i : Nat} (h : OInv l o R) (hR : R.Perm (i :: R')) (hf : firstAt l (nameAt l i) = some i) : OInv l (o ++ [i]) (R' ++ freed l o i) := by
 have hi : i ∈ o ++ R := by
  rw [(List.Perm.append_left o hR).mem_iff]; simp
 have hnd := (List.Perm.append_left o hR).nodup_iff.1 h.nodup
 have hio : i ∉ o := fun hio => by
  have := List.nodup_append.1 hnd
  exact this.2.2 i hio i (by simp) rfl
 have hfm : ∀ u, u ∈ freed l o i ↔ (isDef l u = true /\ nameAt l i ∈ usesAt l u /\ missL l (o ++ [i]) u = []) := by
  intro u
  unfold freed usersOf
  simp only [List.mem_filter, List.mem_range, Bool.and_eq_true, List.any_eq_true, decide_eq_true_eq, List.isEmpty_iff, exists_eq_right]
  exact ⟨fun ⟨⟨_, h1, h2⟩, h3⟩ => ⟨h1, h2, h3⟩, fun ⟨h1, h2, h3⟩ => ⟨⟨isDef_lt h1, h1, h2⟩, h3⟩⟩
 have hnot : ∀ u ∈ freed l o i, u ∉ o ++ R := by
  intro u hu hm
  have h1 := (hfm u).1 hu
  have h2 := miss_nil.1 ((h.ready u).1 hm).2 _ h1.2.1 _ hf
  exact hio h2
 refine ⟨?_, ?_, h.after.snoc ((h.ready i).1 hi).2⟩
 ·have h1 : (o ++ [i] ++ R').Nodup := by simpa using hnd
  rw [<- List.append_assoc]
  refine List.nodup_append.2 ⟨h1, ?_, ?_⟩
  ·unfold freed usersOf
   exact (List.nodup_range.filter _).filter _
  rintro a ha b hb rfl
  refine hnot a hb ?_
  rw [(List.Perm.append_left o hR).mem_iff]
  simpa using ha
 intro j
 have hmem : j ∈ o ++ R ↔ j ∈ o ++ [i] ++ R' := by
  rw [(List.Perm.append_left o hR).mem_iff]; simp
 rw [<- List.append_assoc, List.mem_append, <- hmem, hfm, h.ready j]
 constructor
 ·rintro (⟨h1, h2⟩ | ⟨h1, _, h3⟩)
  ·exact ⟨h1, miss_nil.2 fun s hs d hd => by simp [miss_nil.1 h2 s hs d hd]⟩
  exact ⟨h1, h3⟩
 rintro ⟨h1, h2⟩
 by_cases hu : nameAt l i ∈ usesAt l j
 ·exact Or.inr ⟨h1, hu, h2⟩
 refine Or.inl ⟨h1, miss_nil.2 fun s hs d hd => ?_⟩
 have h3 := miss_nil.1 h2 s hs d hd
 simp only [List.mem_append, List.mem_singleton] at h3
 rcases h3 with h3 | rfl
 ·exact h3
 exact absurd hs ((first_def hd).2 ▸ hu)
theorem nodup_le : (a b : ZN) -> a.Nodup -> (∀ x ∈ a, x ∈ b) -> a.length <= b.length
 | [], b, _, _ => by simp
 | x :: a, b, h, hs => by
  rw [List.nodup_cons] at h
  have hx : x ∈ b := hs x (by simp)
  have h1 := nodup_le a (b.erase x) h.2 fun y hy => by
   have hne : y ≠ x := fun e => h.1 (e ▸ hy)
   exact (List.mem_erase_of_ne hne).2 (hs y (by simp [hy]))
  rw [List.length_erase_of_mem hx] at h1
  have := List.length_pos_of_mem hx
  simp only [List.length_cons]
  omega
theorem nodup_full {a b : ZN} (h : a.Nodup) (hs : ∀ x ∈ a, x ∈ b) (hl : b.length <= a.length) : ∀ x ∈ b, x ∈ a := by
 intro x hx
 by_cases hm : x ∈ a
 ·exact hm
 have h1 := nodup_le (x :: a) b (List.nodup_cons.2 ⟨hm, h⟩) (by simpa using ⟨hx, hs⟩)
 simp only [List.length_cons] at h1
 omega
theorem mem_defs {l : List Dfn} {i : Nat} : i ∈ (List.range l.length).filter (isDef l) ↔ isDef l i = true := by
 simp only [List.mem_filter, List.mem_range]
 exact ⟨fun h => h.2, fun h => ⟨isDef_lt h, h⟩⟩
theorem OInv.le {l : List Dfn} {o R : ZN} (h : OInv l o R) : (o ++ R).length <= countOf l :=
 nodup_le _ _ h.nodup fun i hi => mem_defs.2 ((h.ready i).1 hi).1
theorem OInv.done {l : List Dfn} {o : ZN} (h : OInv l o []) (hc : countOf l <= o.length) : Topo l o where
 nodup := by simpa using h.nodup
 all i := by
  have h1 : o.Nodup := by simpa using h.nodup
  have h2 : ∀ x ∈ o, x ∈ (List.range l.length).filter (isDef l) := fun x hx => mem_defs.2 ((h.ready x).1 (by simpa using hx)).1
  have h3 := nodup_full h1 h2 hc
  exact ⟨fun hi => mem_defs.1 (h2 i hi), fun hi => h3 i (mem_defs.2 hi)⟩
 after := h.after
theorem OInv.none {l : List Dfn} {o : ZN} (h : OInv l o []) (hc : o.length < countOf l) : ¬ ∃ q, Topo l q := by
 rintro ⟨q, hq⟩
 have key : ∀ (p i : Nat), q[p]? = some i -> i ∈ o := by
  intro p
  induction p using Nat.strongRecOn with
  | ind p ih =>
   intro i hi
   have h1 : isDef l i = true := (hq.all i).1 (List.mem_of_getElem? hi)
   have h2 : missL l o i = [] := miss_nil.2 fun s hs d hd => by
    obtain ⟨k, hk⟩ := List.mem_iff_getElem?.1 (hq.after p i hi s hs d hd)
    have hkp : k < p := by
     rcases Nat.lt_or_ge k p with h' | h'
     ·exact h'
     rw [List.getElem?_eq_none (by simp; omega)] at hk; cases hk
    rw [List.getElem?_take, if_pos hkp] at hk
    exact ih k hkp d hk
   have := (h.ready i).2 ⟨h1, h2⟩
   simpa using this
 have h3 := nodup_le _ o (List.nodup_range.filter (isDef l)) fun i hi => by
  have := (hq.all i).2 (mem_defs.1 hi)
  obtain ⟨p, hp⟩ := List.mem_iff_getElem?.1 this
  exact key p i hp
 unfold countOf at hc
 exact absurd h3 (by omega)
def firstI (f : Nat -> Int) : Nat -> Nat × Int
 | 0 => (0, 0)
 | n + 1 => if (firstI f n).2 ≠ 0 then firstI f n else if f n ≠ 0 then (n, f n) else (0, 0)
theorem firstI_zero {f : Nat -> Int} : (n : Nat) -> (∀ j, j < n -> f j = 0) -> firstI f n = (0, 0)
 | 0, _ => rfl
 | n + 1, h => by rw [firstI, firstI_zero n fun j hj => h j (by omega), h n (by omega)]; simp
theorem firstI_hit {f : Nat -> Int} {k : Nat} (hk : f k ≠ 0) (h0 : ∀ j, j < k -> f j = 0) : (n : Nat) -> k < n -> firstI f n = (k, f k)
 | 0, h => by omega
 | n + 1, h => by
  by_cases e : k = n
  ·subst e
   rw [firstI, firstI_zero k h0]; simp [hk]
  rw [firstI, firstI_hit hk h0 n (by omega)]; simp [hk]
def attrAt (s : List Attr) (x : BA) : Option Nat := s.findIdx? fun a => decide (a.name = x)
def farB (n : Int) : Bool := !numberB n
def attrErr (a : Attr) : Int :=
 if a.kind = 1 then (if a.lo ≠ 0 \/ a.hi ≠ 0 then 20 else if a.words.length = 0 then 19 else if 12 < a.words.length then 4 else if a.words.all nameB = false then 6 else if decide a.words.Nodup = false then 8 else 0)
 else if a.kind = 2 then (if 0 < a.words.length then 20 else if a.hi < a.lo \/ farB a.lo = true \/ farB a.hi = true then 1 else 0)
 else if a.kind = 3 then (if 0 < a.words.length \/ a.lo ≠ 0 \/ a.hi ≠ 0 then 20 else 0) else 11
def attr0 : Attr := ⟨⟨#[]⟩, 0, [], 0, 0⟩
def attrIErr (s : List Attr) (i : Nat) : Int :=
 if nameB (s.getD i attr0).name = false then 6 else if (s.take i).any (fun b => decide (b.name = (s.getD i attr0).name)) = true then 8 else attrErr (s.getD i attr0)
def schemaErr (s : List Attr) : Int := if s.length = 0 then 19 else if 6 < s.length then 4 else (firstI (attrIErr s) s.length).2
def defAt (l : List Cla) (x : BA) : Option Nat := l.findIdx? fun c => (c.kind == 1) && decide (c.name = x)
def nodeErr (s : List Attr) (l : List Cla) (op : Int) (name : BA) (words : ZB) (lo hi : Int) : Int :=
 if op = 3 then (match attrAt s name with | none => if (defAt l name).isSome then 0 else 7 | some i => if (s.getD i attr0).kind ≠ 3 then 9 else 0)
 else if op = 4 then (match attrAt s name with | none => 7 | some i => if (s.getD i attr0).kind ≠ 1 then 9 else if words.all (fun x => (s.getD i attr0).words.any fun y => decide (y = x)) = false then 7 else 0)
 else if op = 5 then (match attrAt s name with | none => 7 | some i => if (s.getD i attr0).kind ≠ 2 then 9 else if lo < (s.getD i attr0).lo \/ (s.getD i attr0).hi < hi then 1 else 0)
 else 0
mutual
def nodesErr (s : List Attr) (l : List Cla) : Ex -> Int
 | .mk op name words lo hi args => if nodeErr s l op name words lo hi ≠ 0 then nodeErr s l op name words lo hi else nodesErrL s l args
def nodesErrL (s : List Attr) (l : List Cla) : List Ex -> Int
 | [] => 0
 | e :: r => if nodesErr s l e ≠ 0 then nodesErr s l e else nodesErrL s l r
end
theorem nodesErr_eq (s : List Attr) (l : List Cla) (e : Ex) : nodesErr s l e = if nodeErr s l e.op e.name e.words e.lo e.hi ≠ 0 then nodeErr s l e.op e.name e.words e.lo e.hi else nodesErrL s l e.args := by cases e; rw [nodesErr]; rfl
theorem nodesErrL_zero {s : List Attr} {l : List Cla} : (r : List Ex) -> (∀ j (h : j < r.length), nodesErr s l r[j] = 0) -> nodesErrL s l r = 0
 | [], _ => by rw [nodesErrL]
 | e :: r, h => by
  have h0 := h 0 (by simp)
  simp only [List.getElem_cons_zero] at h0
  rw [nodesErrL, h0]
  simp only [ne_eq, not_true_eq_false, if_false]
  exact nodesErrL_zero r fun j hj => by have := h (j + 1) (by simpa using hj); simpa using this
theorem nodesErrL_hit {s : List Attr} {l : List Cla} : (r : List Ex) -> (k : Nat) -> (hk : k < r.length) -> nodesErr s l r[k] ≠ 0 -> (∀ j (h : j < k), nodesErr s l (r[j]'(by omega)) = 0) -> nodesErrL s l r = nodesErr s l r[k]
 | [], k, hk, _, _ => by simp at hk
 | e :: r, 0, _, h, _ => by simp only [List.getElem_cons_zero] at h ⊢; rw [nodesErrL, if_pos h]
 | e :: r, k + 1, hk, h, h0 => by
  have h1 := h0 0 (by omega)
  simp only [List.getElem_cons_zero] at h1
  rw [nodesErrL, h1]
  simp only [ne_eq, not_true_eq_false, if_false, List.getElem_cons_succ] at h ⊢
  exact nodesErrL_hit r k (by simpa using hk) h fun j hj => by have := h0 (j + 1) (by omega); simpa using this
mutual
def expE (D : BA -> Option Nat) : Ex -> Nat
 | .mk op name _ _ _ args => min ((if op = 3 then (D name).getD 1 else 1) + expL D args) 2001
def expL (D : BA -> Option Nat) : List Ex -> Nat
 | [] => 0
 | e :: r => expE D e + expL D r
end
theorem expE_eq (D : BA -> Option Nat) (e : Ex) : expE D e = min ((if e.op = 3 then (D e.name).getD 1 else 1) + expL D e.args) 2001 := by cases e; rw [expE]; rfl
theorem expL_take_succ (D : BA -> Option Nat) : (l : List Ex) -> (k : Nat) -> (hk : k < l.length) -> expL D (l.take (k + 1)) = expL D (l.take k) + expE D l[k]
 | [], k, hk => by simp at hk
 | e :: r, 0, _ => by simp [expL]
 | e :: r, k + 1, hk => by
  have := expL_take_succ D r k (by simpa using hk)
  simp [expL] at this ⊢
  omega
theorem expL_take_le (D : BA -> Option Nat) : (l : List Ex) -> (k : Nat) -> expL D (l.take k) <= expL D l
 | [], k => by simp [expL]
 | e :: r, 0 => by simp [expL]
 | e :: r, k + 1 => by
  have := expL_take_le D r k
  simp [expL]; omega
theorem expE_le (D : BA -> Option Nat) (e : Ex) : expE D e <= 2001 := by rw [expE_eq]; omega
def cla0 : Cla := ⟨0, ⟨#[]⟩, .mk 0 ⟨#[]⟩ [] 0 0 [], [], 0⟩
def expF (l : List Cla) : Nat -> Ex -> Nat
 | 0, _ => 2001
 | f + 1, e => expE (fun s => (defAt l s).map fun d => expF l f (l.getD d cla0).cond) e
def expanded (l : List Cla) (e : Ex) : Nat := expF l (l.length + 1) e
theorem expF_le (l : List Cla) (f : Nat) (e : Ex) : expF l f e <= 2001 := by cases f with | zero => simp [expF] | succ f => rw [expF]; exact expE_le _ e
def cntBacks : List Wb -> Nat
 | [] => 0
 | .mk _ _ u :: r => 1 + min (cntBacks u) 41 + cntBacks r
def backsB : Nat -> List Wb -> Bool
 | _, [] => true
 | d, .mk n c u :: r => decide (d ≠ 0) && nameB n && refExprB c && backsB (d - 1) u && backsB d r
def mostOf (kind : Int) : Int := if kind = 5 \/ kind = 6 \/ kind = 7 \/ kind = 10 then 1073741824 else if kind = 8 then 1000000 else 0
def clauseB (c : Cla) : Bool := decide (1 <= c.kind) && decide (c.kind <= 10) && nameB c.name && refExprB c.cond && (decide (c.unl.length = 0) || ((c.kind == 3) && decide (cntBacks c.unl <= 40) && backsB 16 c.unl)) &&
 ((decide (mostOf c.kind = 0) && (c.amount == 0)) || (decide (0 < mostOf c.kind) && decide (1 <= c.amount) && decide (c.amount <= mostOf c.kind)))
def backsErr (s : List Attr) (l : List Cla) : List Wb -> Int
 | [] => 0
 | .mk _ c u :: r => if nodesErr s l c ≠ 0 then nodesErr s l c else if backsErr s l u ≠ 0 then backsErr s l u else backsErr s l r
def backsLarge (l : List Cla) : List Wb -> Bool
 | [] => false
 | .mk _ c u :: r => decide (2000 < expanded l c) || backsLarge l u || backsLarge l r
def findAt (l : List Cla) (x : BA) : Option Nat := l.findIdx? fun c => decide (c.name = x)
def claErr (s : List Attr) (l : List Cla) (i : Nat) : Int :=
 if clauseB (l.getD i cla0) = false then 5 else if (findAt l (l.getD i cla0).name).getD 0 < i then 8 else if (attrAt s (l.getD i cla0).name).isSome then 8 else
 if nodesErr s l (l.getD i cla0).cond ≠ 0 then nodesErr s l (l.getD i cla0).cond else backsErr s l (l.getD i cla0).unl
def claLarge (l : List Cla) (i : Nat) : Int := if 2000 < expanded l (l.getD i cla0).cond \/ backsLarge l (l.getD i cla0).unl = true then 4 else 0
def Cla.dfn (c : Cla) : Dfn := ⟨c.kind == 1, c.name, refNames (namesE c.cond)⟩
def Sorts (l : List Dfn) : Prop := ∃ o, Topo l o
open Classical in
noncomputable def clausesErr (s : List Attr) (l : List Cla) : Nat × Int :=
 if schemaErr s ≠ 0 then (0, schemaErr s) else if 100 < l.length then (0, 4) else if (firstI (claErr s l) l.length).2 ≠ 0 then firstI (claErr s l) l.length else
 if ¬ Sorts (l.map Cla.dfn) then (0, 10) else firstI (claLarge l) l.length
mutual
def bareE : Ex -> Bool
 | .mk op _ _ _ _ args => (op != 3 || args.isEmpty) && bareL args
def bareL : List Ex -> Bool
 | [] => true
 | e :: r => bareE e && bareL r
end
mutual
def szE (D : BA -> Option Nat) : Ex -> Nat
 | .mk op name _ _ _ args => match (if op = 3 then D name else none) with | some n => n | none => szL D 1 args
def szL (D : BA -> Option Nat) : Nat -> List Ex -> Nat
 | n, [] => n
 | n, e :: r => szL D (min (n + szE D e) 2001) r
end
theorem szE_eq' (D : BA -> Option Nat) (e : Ex) : szE D e = match (if e.op = 3 then D e.name else none) with | some n => n | none => szL D 1 e.args := by cases e; rw [szE]; rfl
theorem szL_snoc (D : BA -> Option Nat) : (l : List Ex) -> (n : Nat) -> (e : Ex) -> szL D n (l ++ [e]) = min (szL D n l + szE D e) 2001
 | [], n, e => by simp [szL]
 | x :: r, n, e => by simp [szL, szL_snoc D r]
theorem szL_take_succ (D : BA -> Option Nat) (l : List Ex) (n k : Nat) (h : k < l.length) : szL D n (l.take (k + 1)) = min (szL D n (l.take k) + szE D l[k]) 2001 := by
 rw [List.take_succ_eq_append_getElem h, szL_snoc]
mutual
theorem szE_exp {D : BA -> Option Nat} (hD : ∀ s n, D s = some n -> n <= 2001) : (e : Ex) -> bareE e = true -> szE D e = expE D e
 | .mk op name words lo hi args, h => by
  rw [bareE, Bool.and_eq_true] at h
  rw [szE, expE]
  have hl := szL_exp hD args h.2
  by_cases h3 : op = 3
  ·have ha : args = [] := by
    have := h.1
    rw [h3] at this
    simpa using this
   subst ha
   simp only [if_pos h3]
   cases hd : D name with
   | none => simp [szL, expL]
   | some n => have := hD name n hd; simp [expL]; omega
  simp only [if_neg h3]
  exact hl 1 (by omega)
theorem szL_exp {D : BA -> Option Nat} (hD : ∀ s n, D s = some n -> n <= 2001) : (l : List Ex) -> bareL l = true -> ∀ n, n <= 2001 -> szL D n l = min (n + expL D l) 2001
 | [], _, n, hn => by simp [szL, expL]; omega
 | e :: r, h, n, hn => by
  rw [bareL, Bool.and_eq_true] at h
  rw [szL, expL, szL_exp hD r h.2 _ (by omega), szE_exp hD e h.1]
  omega
end
mutual
theorem expE_congr {D D' : BA -> Option Nat} : (e : Ex) -> (∀ s ∈ namesE e, D s = D' s) -> expE D e = expE D' e
 | .mk op name words lo hi args, h => by
  rw [expE, expE]
  rw [namesE] at h
  rw [expL_congr args fun s hs => h s (List.mem_append_right _ hs)]
  by_cases h3 : op = 3
  ·rw [if_pos h3, if_pos h3, h name (List.mem_append_left _ (by simp [h3]))]
  rw [if_neg h3, if_neg h3]
theorem expL_congr {D D' : BA -> Option Nat} : (l : List Ex) -> (∀ s ∈ namesL l, D s = D' s) -> expL D l = expL D' l
 | [], _ => by rw [expL, expL]
 | e :: r, h => by
  rw [namesL] at h
  rw [expL, expL, expE_congr e fun s hs => h s (List.mem_append_left _ hs), expL_congr r fun s hs => h s (List.mem_append_right _ hs)]
end
theorem findIdx_map {α β : Type} (f : α -> β) (p : β -> Bool) (l : List α) : (l.map f).findIdx? p = l.findIdx? (fun x => p (f x)) := by
 rw [List.findIdx?_map]; rfl
theorem firstAt_dfn (l : List Cla) (s : BA) : firstAt (l.map Cla.dfn) s = defAt l s := by
 unfold firstAt defAt
 rw [findIdx_map]
 rfl
theorem getD_cla {l : List Cla} {i : Nat} (h : i < l.length) : l.getD i cla0 = l[i] := by simp [h]
theorem isDef_dfn {l : List Cla} {i : Nat} (h : i < l.length) : isDef (l.map Cla.dfn) i = (l[i].kind == 1) := by
 unfold isDef
 simp [h, Cla.dfn]
theorem usesAt_dfn {l : List Cla} {i : Nat} (h : i < l.length) : usesAt (l.map Cla.dfn) i = refNames (namesE l[i].cond) := by
 unfold usesAt
 simp [h, Cla.dfn]
theorem defAt_lt {l : List Cla} {s : BA} {d : Nat} (h : defAt l s = some d) : d < l.length := by
 unfold defAt at h
 rw [List.findIdx?_eq_some_iff_getElem] at h
 exact h.1
theorem defAt_name {l : List Cla} {s : BA} {d : Nat} (h : defAt l s = some d) : (l.getD d cla0).name = s /\ (l.getD d cla0).kind = 1 := by
 have hd := defAt_lt h
 unfold defAt at h
 rw [List.findIdx?_eq_some_iff_getElem] at h
 obtain ⟨_, h1, _⟩ := h
 simp only [Bool.and_eq_true, beq_iff_eq, decide_eq_true_eq] at h1
 rw [getD_cla hd]
 exact ⟨h1.2, h1.1⟩
theorem Topo.lt {l : List Dfn} {o : ZN} (h : Topo l o) {i : Nat} (hi : i ∈ o) : i < l.length := isDef_lt ((h.all i).1 hi)
theorem Topo.len {l : List Dfn} {o : ZN} (h : Topo l o) : o.length <= l.length := by
 have := nodup_le o (List.range l.length) h.nodup fun x hx => List.mem_range.2 (h.lt hx)
 simpa using this
theorem expF_stable {l : List Cla} {o : ZN} (h : Topo (l.map Cla.dfn) o) : ∀ (q d : Nat), o[q]? = some d -> ∀ f g, q < f -> q < g -> expF l f (l.getD d cla0).cond = expF l g (l.getD d cla0).cond := by
 intro q
 induction q using Nat.strongRecOn with
 | ind q ih =>
  intro d hd f g hf hg
  obtain ⟨f, rfl⟩ : ∃ k, f = k + 1 := ⟨f - 1, by omega⟩
  obtain ⟨g, rfl⟩ : ∃ k, g = k + 1 := ⟨g - 1, by omega⟩
  rw [expF, expF]
  refine expE_congr _ fun s hs => ?_
  have hdl : d < l.length := by simpa using h.lt (List.mem_of_getElem? hd)
  cases hda : defAt l s with
  | none => rfl
  | some d' =>
   have h1 := h.after q d hd s (by rw [usesAt_dfn hdl, refNames_mem]; rwa [getD_cla hdl] at hs) d' (by rw [firstAt_dfn]; exact hda)
   obtain ⟨q', hq'⟩ := List.mem_iff_getElem?.1 h1
   have hlt : q' < q := by
    rcases Nat.lt_or_ge q' q with h' | h'
    ·exact h'
    rw [List.getElem?_eq_none (by simp; omega)] at hq'; cases hq'
   rw [List.getElem?_take, if_pos hlt] at hq'
   simp only [Option.map_some, Option.some.injEq]
   exact ih q' hlt d' hq' f g (by omega) (by omega)
def sizesF (l : List Cla) (o : ZN) : BA -> Option Nat := o.foldl (fun D i s => if s = (l.getD i cla0).name then some (szE D (l.getD i cla0).cond) else D s) (fun _ => none)
theorem sizesF_snoc (l : List Cla) (o : ZN) (i : Nat) (s : BA) : sizesF l (o ++ [i]) s = if s = (l.getD i cla0).name then some (szE (sizesF l o) (l.getD i cla0).cond) else sizesF l o s := by simp [sizesF]
theorem sizesF_spec {l : List Cla} {o : ZN} (h : Topo (l.map Cla.dfn) o) (hu : ∀ i ∈ o, defAt l (l.getD i cla0).name = some i) (hb : ∀ i ∈ o, bareE (l.getD i cla0).cond = true) :
  ∀ p, p <= o.length -> ∀ s, sizesF l (o.take p) s = match defAt l s with | some d => if d ∈ o.take p then some (expF l l.length (l.getD d cla0).cond) else none | none => none := by
 have hol : o.length <= l.length := by simpa using h.len
 intro p
 induction p with
 | zero =>
  intro _ s
  simp only [List.take_zero, List.not_mem_nil, if_false]
  cases defAt l s <;> rfl
 | succ p ih =>
  intro hp s
  have hp' : p < o.length := by omega
  have IH := ih (by omega)
  have hD : ∀ s n, sizesF l (o.take p) s = some n -> n <= 2001 := by
   intro s n hn
   rw [IH s] at hn
   cases hd : defAt l s with
   | none => rw [hd] at hn; cases hn
   | some d =>
    rw [hd] at hn
    simp only at hn
    split at hn
    ·cases hn; exact expF_le _ _ _
    cases hn
  have him : o[p] ∈ o := List.getElem_mem hp'
  have hil : o[p] < l.length := by simpa using h.lt him
  rw [List.take_succ_eq_append_getElem hp', sizesF_snoc]
  have key : szE (sizesF l (o.take p)) (l.getD o[p] cla0).cond = expF l l.length (l.getD o[p] cla0).cond := by
   rw [szE_exp hD _ (hb _ him), expF_stable h p o[p] (List.getElem?_eq_getElem hp') l.length (l.length + 1) (by omega) (by omega), expF]
   refine expE_congr _ fun t ht => ?_
   rw [IH t]
   cases hda : defAt l t with
   | none => rfl
   | some d =>
    have h1 := h.after p o[p] (List.getElem?_eq_getElem hp') t (by rw [usesAt_dfn hil, refNames_mem]; rwa [getD_cla hil] at ht) d (by rw [firstAt_dfn]; exact hda)
    simp [h1]
  by_cases hs : s = (l.getD o[p] cla0).name
  ·rw [if_pos hs, key, hs, hu _ him]
   simp only [List.mem_append, List.mem_singleton, or_true, if_true]
  rw [if_neg hs, IH s]
  cases hd : defAt l s with
  | none => rfl
  | some d =>
   have hne : d ≠ o[p] := fun e => hs (by rw [<- e]; exact (defAt_name hd).1.symm)
   simp only [List.mem_append, List.mem_singleton, hne, or_false]
theorem sizes_exp {l : List Cla} {o : ZN} (h : Topo (l.map Cla.dfn) o) (hu : ∀ i ∈ o, defAt l (l.getD i cla0).name = some i) (hb : ∀ i ∈ o, bareE (l.getD i cla0).cond = true) (e : Ex) (he : bareE e = true) : szE (sizesF l o) e = expanded l e := by
 have hs := sizesF_spec h hu hb o.length (Nat.le_refl _)
 rw [List.take_length] at hs
 have hD : ∀ s n, sizesF l o s = some n -> n <= 2001 := by
  intro s n hn
  rw [hs s] at hn
  cases hd : defAt l s with
  | none => rw [hd] at hn; cases hn
  | some d =>
   rw [hd] at hn
   simp only at hn
   split at hn
   ·cases hn; exact expF_le _ _ _
   cases hn
 rw [szE_exp hD e he, expanded, expF]
 refine expE_congr _ fun t ht => ?_
 rw [hs t]
 cases hda : defAt l t with
 | none => rfl
 | some d =>
  have hdl := defAt_lt hda
  have : d ∈ o := (h.all d).2 (by rw [isDef_dfn hdl, <- getD_cla hdl, (defAt_name hda).2]; rfl)
  simp [this]
def domB (a : Attr) : Int × Int := if a.kind = 1 then (0, (a.words.length : Int) - 1) else if a.kind = 2 then (a.lo, a.hi) else (0, 1)
def factsAll : List Attr -> ZI -> Bool
 | [], [] => true
 | a :: r, v :: q => decide ((domB a).1 <= v) && decide (v <= (domB a).2) && factsAll r q
 | _, _ => false
def factsB (s : List Attr) (f : ZI) : Bool := decide (schemaErr s = 0) && factsAll s f
theorem factsAll_len : {s : List Attr} -> {f : ZI} -> factsAll s f = true -> f.length = s.length
 | [], [], _ => rfl
 | a :: r, v :: q, h => by
  simp only [factsAll, Bool.and_eq_true] at h
  simp [factsAll_len h.2]
 | [], v :: q, h => by simp [factsAll] at h
 | a :: r, [], h => by simp [factsAll] at h
theorem factsAll_at : {s : List Attr} -> {f : ZI} -> factsAll s f = true -> (i : Nat) -> (hi : i < s.length) -> (hj : i < f.length) -> (domB s[i]).1 <= f[i] /\ f[i] <= (domB s[i]).2
 | a :: r, v :: q, h, 0, _, _ => by
  simp only [factsAll, Bool.and_eq_true, decide_eq_true_eq] at h
  simpa using h.1
 | a :: r, v :: q, h, i + 1, hi, hj => by
  simp only [factsAll, Bool.and_eq_true] at h
  simpa using factsAll_at h.2 i (by simpa using hi) (by simpa using hj)
theorem factsAll_of : {s : List Attr} -> {f : ZI} -> f.length = s.length -> (∀ i (hi : i < s.length) (hj : i < f.length), (domB s[i]).1 <= f[i] /\ f[i] <= (domB s[i]).2) -> factsAll s f = true
 | [], [], _, _ => rfl
 | a :: r, v :: q, h, h2 => by
  have h0 := h2 0 (by simp) (by simp)
  simp only [List.getElem_cons_zero] at h0
  simp only [factsAll, Bool.and_eq_true, decide_eq_true_eq]
  exact ⟨h0, factsAll_of (by simpa using h) fun i hi hj => by have := h2 (i + 1) (by simpa using hi) (by simpa using hj); simpa using this⟩
 | [], v :: q, h, _ => by simp at h
 | a :: r, [], h, _ => by simp at h
def factV (s : List Attr) (f : ZI) (op : Int) (name : BA) (words : ZB) (lo hi : Int) : Bool :=
 if op = 1 then true else if op = 2 then false else
 match attrAt s name with
 | none => false
 | some i => if op = 4 then words.any (fun x => decide (x = (s.getD i attr0).words.getD (f.getD i 0).toNat ⟨#[]⟩)) else if op = 5 then decide (lo <= f.getD i 0) && decide (f.getD i 0 <= hi) else decide (f.getD i 0 = 1)
mutual
def valE (s : List Attr) (f : ZI) (D : BA -> Option Bool) : Ex -> Bool
 | .mk op name words lo hi args => if op = 6 then !(valHd s f D args) else if op = 7 then valAll s f D args else if op = 8 then valAny s f D args else if op = 3 then (D name).getD (factV s f op name words lo hi) else factV s f op name words lo hi
def valHd (s : List Attr) (f : ZI) (D : BA -> Option Bool) : List Ex -> Bool
 | [] => false
 | e :: _ => valE s f D e
def valAll (s : List Attr) (f : ZI) (D : BA -> Option Bool) : List Ex -> Bool
 | [] => true
 | e :: r => valE s f D e && valAll s f D r
def valAny (s : List Attr) (f : ZI) (D : BA -> Option Bool) : List Ex -> Bool
 | [] => false
 | e :: r => valE s f D e || valAny s f D r
end
theorem valAll_iff {s : List Attr} {f : ZI} {D : BA -> Option Bool} : (l : List Ex) -> valAll s f D l = l.all (valE s f D)
 | [] => by rw [valAll]; rfl
 | e :: r => by rw [valAll, valAll_iff r]; rfl
theorem valAny_iff {s : List Attr} {f : ZI} {D : BA -> Option Bool} : (l : List Ex) -> valAny s f D l = l.any (valE s f D)
 | [] => by rw [valAny]; rfl
 | e :: r => by rw [valAny, valAny_iff r]; rfl
def valF (s : List Attr) (l : List Cla) (f : ZI) : Nat -> Ex -> Bool
 | 0, _ => false
 | k + 1, e => valE s f (fun x => (defAt l x).map fun d => valF s l f k (l.getD d cla0).cond) e
def val (s : List Attr) (l : List Cla) (f : ZI) (e : Ex) : Bool := valF s l f (l.length + 1) e
mutual
def pNodes : Ex -> Bool
 | .mk op name words lo hi args => nodeB (.mk op name words lo hi args) && pNodesAll args
def pNodesAll : List Ex -> Bool
 | [] => true
 | e :: r => pNodes e && pNodesAll r
end
mutual
theorem validF_spec : (e : Ex) -> (d n : Int) -> n <= 300 -> d <= 17 -> ((validF e d n).1 = true ↔ (d + e.depth <= 17 /\ n + e.size <= 300 /\ pNodes e = true)) /\ ((validF e d n).1 = true -> (validF e d n).2 = n + e.size)
 | .mk op name words lo hi args, d, n, hn, hd => by
  have hs : (Ex.mk op name words lo hi args).size = 1 + sizes args := by simp [Ex.size]
  have hp : (Ex.mk op name words lo hi args).depth = depths args + 1 := by simp [Ex.depth]
  rw [validF, hs, hp, pNodes]
  by_cases hc : 300 < n + 1 \/ 16 < d \/ nodeB (.mk op name words lo hi args) = false
  ·rw [if_pos hc]
   refine ⟨⟨fun h => by simp at h, fun ⟨h1, h2, h3⟩ => ?_⟩, fun h => by simp at h⟩
   rcases hc with hc | hc | hc
   ·omega
   ·omega
   rw [hc] at h3; simp at h3
  rw [if_neg hc]
  have hnb : nodeB (.mk op name words lo hi args) = true := by
   cases hh : nodeB (.mk op name words lo hi args)
   ·exact absurd (Or.inr (Or.inr hh)) hc
   rfl
  obtain ⟨h1, h2⟩ := validsF_spec args (d + 1) (n + 1) (by omega) (by omega)
  rw [hnb, Bool.true_and]
  refine ⟨h1.trans ⟨fun ⟨a, b, c⟩ => ⟨by omega, by omega, c⟩, fun ⟨a, b, c⟩ => ⟨by omega, by omega, c⟩⟩, fun h => by have := h2 h; omega⟩
theorem validsF_spec : (l : List Ex) -> (d n : Int) -> n <= 300 -> d <= 17 -> ((validsF l d n).1 = true ↔ (d + depths l <= 17 /\ n + sizes l <= 300 /\ pNodesAll l = true)) /\ ((validsF l d n).1 = true -> (validsF l d n).2 = n + sizes l)
 | [], d, n, hn, hd => by simp [validsF, depths, sizes, pNodesAll]; omega
 | e :: r, d, n, hn, hd => by
  obtain ⟨h1, h2⟩ := validF_spec e d n hn hd
  rw [validsF, depths, sizes, pNodesAll]
  by_cases hv : (validF e d n).1 = true
  ·rw [if_pos hv]
   have e2 := h2 hv
   obtain ⟨a1, a2, a3⟩ := h1.1 hv
   obtain ⟨h3, h4⟩ := validsF_spec r d (validF e d n).2 (by omega) hd
   refine ⟨h3.trans ⟨fun ⟨a, b, c⟩ => ⟨by omega, by omega, by rw [a3, c]; rfl⟩, fun ⟨a, b, c⟩ => ⟨by omega, by omega, by rw [a3] at c; simpa using c⟩⟩, fun h => by have := h4 h; omega⟩
  rw [if_neg hv]
  refine ⟨⟨fun h => by simp at h, fun ⟨a, b, c⟩ => absurd (h1.2 ⟨by omega, by omega, ?_⟩) hv⟩, fun h => by simp at h⟩
  rw [Bool.and_eq_true] at c; exact c.1
end
theorem nodeB_ref (e : Ex) (h : e.args.length <= 300) : nodeB e = refNodeB e := by
 obtain ⟨op, name, words, lo, hi, args⟩ := e
 simp only [nodeB, refNodeB, refNode, Ex.op, Ex.name, Ex.words, Ex.lo, Ex.hi, Ex.args, wordsB] at *
 by_cases h1 : 1 <= op /\ op <= 8
 ·have hk : op = 1 \/ op = 2 \/ op = 3 \/ op = 4 \/ op = 5 \/ op = 6 \/ op = 7 \/ op = 8 := by omega
  have hw : words.isEmpty = decide (words.length = 0) := by cases words <;> simp
  have hw2 : (words.length != 0) = decide (1 <= words.length) := by cases words <;> simp
  rw [hw, hw2]
  rcases hk with rfl | rfl | rfl | rfl | rfl | rfl | rfl | rfl
  all_goals
   simp only [show ((1 : Int).toNat) = 1 from rfl, show ((2 : Int).toNat) = 2 from rfl, show ((3 : Int).toNat) = 3 from rfl, show ((4 : Int).toNat) = 4 from rfl, show ((5 : Int).toNat) = 5 from rfl, show ((6 : Int).toNat) = 6 from rfl, show ((7 : Int).toNat) = 7 from rfl, show ((8 : Int).toNat) = 8 from rfl, opLeast, opMost, opNamed]
   rw [Bool.eq_iff_iff]
   simp
   try grind
 simp [h1]
mutual
theorem pNodes_ref : (e : Ex) -> e.size <= 300 -> pNodes e = nodesB e
 | .mk op name words lo hi args, h => by
  have hs : (Ex.mk op name words lo hi args).size = 1 + sizes args := by simp [Ex.size]
  have hl := length_le_sizes args
  rw [pNodes, nodesB, nodeB_ref _ (by simp only [Ex.args]; omega), pNodesAll_ref args (by omega)]
theorem pNodesAll_ref : (l : List Ex) -> sizes l <= 300 -> pNodesAll l = nodesAll l
 | [], _ => by simp [pNodesAll, nodesAll]
 | e :: r, h => by
  rw [sizes] at h
  rw [pNodesAll, nodesAll, pNodes_ref e (by omega), pNodesAll_ref r (by omega)]
end
theorem validB_ref (e : Ex) : validB e = refExprB e := by
 unfold validB refExprB
 have h := (validF_spec e 1 0 (by omega) (by omega)).1
 have e1 : refSize e <= 300 ↔ e.size <= 300 := by unfold refSize; omega
 rw [Bool.eq_iff_iff, h, Bool.and_eq_true, Bool.and_eq_true]
 constructor
 ·rintro ⟨a, b, c⟩
  refine ⟨⟨?_, ?_⟩, by rw [<- pNodes_ref e (by omega)]; exact c⟩
  ·rw [decide_eq_false (by omega)]; rfl
  rw [decide_eq_true_eq, e1]; omega
 rintro ⟨⟨a, b⟩, c⟩
 have a2 : ¬ 16 < e.depth := fun h => by rw [decide_eq_true h] at a; cases a
 have b2 := e1.1 (of_decide_eq_true b)
 exact ⟨by omega, by omega, by rw [pNodes_ref e (by omega)]; exact c⟩
def nameT (s : BA) : Tok := ⟨1, s, 0, 0⟩
def markT (c : UInt8) : Tok := ⟨4, ⟨#[c]⟩, 0, 0⟩
def numT (n : Int) : Tok := ⟨2, ⟨#[]⟩, n, 0⟩
def wTo : BA := ⟨#[116, 111]⟩
def listedT : ZB -> List Tok
 | [] => []
 | [s] => [nameT s]
 | s :: r => nameT s :: markT 44 :: listedT r
def paren (op aop : Int) : Bool := aop == 8 || (aop == 7 && op != 8)
mutual
def tokE : Ex -> List Tok
 | .mk op name words lo hi args =>
  if op = 1 then [nameT wTrue] else if op = 2 then [nameT wFalse] else if op = 3 then [nameT name] else
  if op = 4 then [nameT name, nameT wIn, markT 40] ++ listedT words ++ [markT 41] else
  if op = 5 then [nameT name, nameT wFrom, numT lo, nameT wTo, numT hi] else
  (if op = 6 then [nameT wNot] else []) ++ tokArgs op args
def tokArgs (op : Int) : List Ex -> List Tok
 | [] => []
 | a :: r => (if paren op a.op then [markT 40] ++ tokE a ++ [markT 41] else tokE a) ++ tokMore op r
def tokMore (op : Int) : List Ex -> List Tok
 | [] => []
 | a :: r => [nameT (if op = 7 then wAnd else wOr)] ++ (if paren op a.op then [markT 40] ++ tokE a ++ [markT 41] else tokE a) ++ tokMore op r
end
def okNode (e : Ex) : Prop :=
 (e.op = 1 /\ e.name = ⟨#[]⟩ /\ e.words = [] /\ e.lo = 0 /\ e.hi = 0 /\ e.args = []) \/ (e.op = 2 /\ e.name = ⟨#[]⟩ /\ e.words = [] /\ e.lo = 0 /\ e.hi = 0 /\ e.args = []) \/
 (e.op = 3 /\ nameB e.name = true /\ e.words = [] /\ e.lo = 0 /\ e.hi = 0 /\ e.args = []) \/ (e.op = 4 /\ nameB e.name = true /\ wordsB e.words = true /\ e.lo = 0 /\ e.hi = 0 /\ e.args = []) \/
 (e.op = 5 /\ nameB e.name = true /\ e.words = [] /\ numberB e.lo = true /\ numberB e.hi = true /\ e.lo <= e.hi /\ e.args = []) \/
 (e.op = 6 /\ e.name = ⟨#[]⟩ /\ e.words = [] /\ e.lo = 0 /\ e.hi = 0 /\ e.args.length = 1) \/
 ((e.op = 7 \/ e.op = 8) /\ e.name = ⟨#[]⟩ /\ e.words = [] /\ e.lo = 0 /\ e.hi = 0 /\ 2 <= e.args.length)
mutual
def okTree : Ex -> Prop
 | .mk op name words lo hi args => okNode (.mk op name words lo hi args) /\ okTrees args
def okTrees : List Ex -> Prop
 | [] => True
 | e :: r => okTree e /\ okTrees r
end
theorem refNode_ok (e : Ex) : refNodeB e = true ↔ okNode e := by
 obtain ⟨op, name, words, lo, hi, args⟩ := e
 have hw : words = [] ↔ words.length = 0 := by cases words <;> simp
 have ha : args = [] ↔ args.length = 0 := by cases args <;> simp
 have hnm : name = ⟨#[]⟩ ↔ name.toList.isEmpty = true := by
  rw [List.isEmpty_iff, ByteArray.toList_eq]
  constructor
  ·rintro rfl; rfl
  intro h
  apply ByteArray.ext
  simpa using h
 simp only [refNodeB, refNode, okNode, Ex.op, Ex.name, Ex.words, Ex.lo, Ex.hi, Ex.args, wordsB, hw, ha, hnm]
 by_cases h1 : 1 <= op /\ op <= 8
 ·have hk : op = 1 \/ op = 2 \/ op = 3 \/ op = 4 \/ op = 5 \/ op = 6 \/ op = 7 \/ op = 8 := by omega
  rcases hk with rfl | rfl | rfl | rfl | rfl | rfl | rfl | rfl
  all_goals
   simp
   try grind
 simp [h1]
 omega
mutual
theorem nodes_ok : (e : Ex) -> (nodesB e = true ↔ okTree e)
 | .mk op name words lo hi args => by
  rw [nodesB, okTree, Bool.and_eq_true, refNode_ok, nodesAll_ok args]
theorem nodesAll_ok : (l : List Ex) -> (nodesAll l = true ↔ okTrees l)
 | [] => by simp [nodesAll, okTrees]
 | e :: r => by rw [nodesAll, okTrees, Bool.and_eq_true, nodes_ok e, nodesAll_ok r]
end
theorem okTrees_mem {l : List Ex} (h : okTrees l) : ∀ x ∈ l, okTree x := by
 induction l with
 | nil => intro x hx; simp at hx
 | cons e r ih =>
  unfold okTrees at h
  intro x hx
  rcases List.mem_cons.1 hx with rfl | hx
  ·exact h.1
  exact ih h.2 x hx
end Go.Proofs.YtpkljcgihobaiaaGreatDoor
