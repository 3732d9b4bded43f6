/-
  Texts of the claim, joined: Exp2, MapAt, Heap1, Heap2, Grow.
-/
import Derived.Test.YtfjlglefodndjaaGreatDoorCe09
import Derived.Test.YtfjlglefodndjaaGreatDoorCe03
import Derived.StringKeys
import Derived.Maps.OwnSet
import Derived.Maps.Range
import Derived.Lib.Builder
import Derived.Test.YtfjlglefodndjaaGreatDoorCe01
import Derived.Deep.DeepCutAuto
import Derived.Orders
namespace Go.Proofs.YtfjlglefodndjaaGreatDoor

/-! The plain law of check.Expanded: the definitions that an expression reaches suffice; if they depend on themselves, the count is 2001. -/
mutual
theorem expE_ge {D : ByteArray → Option Nat} {s : ByteArray} {n : Nat} (hn : D s = some n) : (e : Ex) → s ∈ namesE e → min n 2001 ≤ expE D e
  | .mk op name words lo hi args, h => by
    rw [namesE, List.mem_append] at h
    rw [expE]
    rcases h with h | h
    · by_cases h3 : op = 3
      · rw [if_pos h3] at h
        have : s = name := by simpa using h
        subst this
        rw [if_pos h3, hn]
        simp only [Option.getD_some]
        omega
      · rw [if_neg h3] at h; simp at h
    · have := expL_ge hn args h
      omega
theorem expL_ge {D : ByteArray → Option Nat} {s : ByteArray} {n : Nat} (hn : D s = some n) : (l : List Ex) → s ∈ namesL l → min n 2001 ≤ expL D l
  | [], h => by rw [namesL] at h; simp at h
  | e :: r, h => by
    rw [namesL, List.mem_append] at h
    rw [expL]
    rcases h with h | h
    · have := expE_ge hn e h; omega
    · have := expL_ge hn r h; omega
end
theorem expF_ge {l : List Cla} {e : Ex} {s : ByteArray} {d : Nat} (hs : s ∈ namesE e) (hd : defAt l s = some d) {f : Nat} (h : expF l f (l.getD d cla0).cond = 2001) : expF l (f + 1) e = 2001 := by
  have h1 := expF_le l (f + 1) e
  rw [expF] at h1 ⊢
  have := expE_ge (D := fun s => (defAt l s).map fun d => expF l f (l.getD d cla0).cond) (n := 2001) (by rw [hd]; simp only [Option.map_some]; rw [h]) e hs
  omega
/-- The definition d is reached from e. -/
inductive Reach (l : List Cla) (e : Ex) : Nat → Prop
  | base {s : ByteArray} {d : Nat} : s ∈ namesE e → defAt l s = some d → Reach l e d
  | step {d d' : Nat} {s : ByteArray} : Reach l e d → s ∈ namesE (l.getD d cla0).cond → defAt l s = some d' → Reach l e d'
theorem Reach.large {l : List Cla} {e : Ex} {d : Nat} (h : Reach l e d) : (∀ f, expF l f (l.getD d cla0).cond = 2001) → ∀ f, expF l f e = 2001 := by
  induction h with
  | base hs hd =>
    intro h f
    cases f with
    | zero => rfl
    | succ f => exact expF_ge hs hd (h f)
  | step _ hs hd ih =>
    intro h
    refine ih fun f => ?_
    cases f with
    | zero => rfl
    | succ f => exact expF_ge hs hd (h f)
/-- u are the definitions of l that e reaches. -/
structure Used (l : List Cla) (e : Ex) (u : List Cla) : Prop where
  defs : ∀ c ∈ u, c.kind = 1 ∧ ∃ d, defAt l c.name = some d ∧ c.cond = (l.getD d cla0).cond ∧ Reach l e d
  names : (u.map (·.name)).Nodup
  top : ∀ s ∈ namesE e, ∀ d, defAt l s = some d → s ∈ u.map (·.name)
  closed : ∀ c ∈ u, ∀ s ∈ namesE c.cond, ∀ d, defAt l s = some d → s ∈ u.map (·.name)
theorem Used.defAt {l : List Cla} {e : Ex} {u : List Cla} (h : Used l e u) {i : Nat} (hi : i < u.length) : defAt u u[i].name = some i := by
  unfold Proofs.YtfjlglefodndjaaGreatDoor.defAt
  rw [List.findIdx?_eq_some_iff_getElem]
  refine ⟨hi, ?_, fun j hj => ?_⟩
  · have := (h.defs u[i] (List.getElem_mem hi)).1
    simp [this]
  · have hne : u[j].name ≠ u[i].name := by
      have := (List.pairwise_iff_getElem.1 h.names) j i (by simp; omega) (by simpa using hi) hj
      simpa using this
    simp [hne]
theorem Used.at {l : List Cla} {e : Ex} {u : List Cla} (h : Used l e u) {s : ByteArray} (hm : s ∈ u.map (·.name)) : ∃ i d, i < u.length ∧ Proofs.YtfjlglefodndjaaGreatDoor.defAt u s = some i ∧ Proofs.YtfjlglefodndjaaGreatDoor.defAt l s = some d ∧ (u.getD i cla0).cond = (l.getD d cla0).cond := by
  obtain ⟨c, hc, rfl⟩ := List.mem_map.1 hm
  obtain ⟨i, hi, rfl⟩ := List.mem_iff_getElem.1 hc
  obtain ⟨_, d, h1, h2, _⟩ := h.defs _ hc
  exact ⟨i, d, hi, h.defAt hi, h1, by rw [getD_cla hi]; exact h2⟩
theorem Used.only {l : List Cla} {e : Ex} {u : List Cla} (h : Used l e u) {s : ByteArray} (hn : Proofs.YtfjlglefodndjaaGreatDoor.defAt l s = none) : Proofs.YtfjlglefodndjaaGreatDoor.defAt u s = none := by
  cases hd : Proofs.YtfjlglefodndjaaGreatDoor.defAt u s with
  | none => rfl
  | some i =>
    have hi := defAt_lt hd
    have h1 := (defAt_name hd).1
    rw [getD_cla hi] at h1
    obtain ⟨_, d, h2, _⟩ := h.defs _ (List.getElem_mem hi)
    rw [h1, hn] at h2
    cases h2
/-- Within what is reached, both lists give the same counts. -/
theorem Used.same {l : List Cla} {e : Ex} {u : List Cla} (h : Used l e u) : ∀ f x, (∀ s ∈ namesE x, ∀ d, Proofs.YtfjlglefodndjaaGreatDoor.defAt l s = some d → s ∈ u.map (·.name)) → expF u f x = expF l f x := by
  intro f
  induction f with
  | zero => intro x _; rfl
  | succ f ih =>
    intro x hx
    rw [expF, expF]
    refine expE_congr _ fun s hs => ?_
    cases hd : Proofs.YtfjlglefodndjaaGreatDoor.defAt l s with
    | none => rw [h.only hd]; rfl
    | some d =>
      obtain ⟨i, d', hi, h1, h2, h3⟩ := h.at (hx s hs d hd)
      rw [hd] at h2
      cases h2
      rw [h1]
      simp only [Option.map_some, h3, Option.some.injEq]
      refine ih _ fun t ht d2 hd2 => ?_
      rw [← h3, getD_cla hi] at ht
      exact h.closed _ (List.getElem_mem hi) t ht d2 hd2
theorem Used.len {l : List Cla} {e : Ex} {u : List Cla} (h : Used l e u) : u.length ≤ l.length := by
  have key := nodup_le (u.map fun c => (Proofs.YtfjlglefodndjaaGreatDoor.defAt l c.name).getD 0) (List.range l.length) ?_ ?_
  · simpa using key
  · rw [List.Nodup, List.pairwise_map]
    have h1 := h.names
    rw [List.Nodup, List.pairwise_map] at h1
    refine h1.imp_of_mem fun {a b} ha hb hne he => ?_
    obtain ⟨_, d, h2, _⟩ := h.defs a ha
    obtain ⟨_, d', h3, _⟩ := h.defs b hb
    rw [h2, h3] at he
    simp only [Option.getD_some] at he
    subst he
    exact hne ((defAt_name h2).1.symm.trans (defAt_name h3).1)
  · intro x hx
    obtain ⟨c, hc, rfl⟩ := List.mem_map.1 hx
    obtain ⟨_, d, h2, _⟩ := h.defs c hc
    rw [h2]
    exact List.mem_range.2 (defAt_lt h2)
theorem Used.good {l : List Cla} {e : Ex} {u : List Cla} (h : Used l e u) {o : List Nat} (ht : Topo (u.map Cla.dfn) o) (hb : ∀ c ∈ u, bareE c.cond = true) (he : bareE e = true) : szE (sizesF u o) e = expanded l e := by
  have hlt : ∀ i ∈ o, i < u.length := fun i hi => by simpa using ht.lt hi
  rw [sizes_exp ht (fun i hi => by rw [getD_cla (hlt i hi)]; exact h.defAt (hlt i hi)) (fun i hi => by rw [getD_cla (hlt i hi)]; exact hb _ (List.getElem_mem _)) e he]
  unfold expanded
  rw [← h.same (l.length + 1) e h.top, expF, expF]
  refine expE_congr _ fun s hs => ?_
  cases hd : Proofs.YtfjlglefodndjaaGreatDoor.defAt u s with
  | none => rfl
  | some i =>
    have hi := defAt_lt hd
    have hio : i ∈ o := (ht.all i).2 (by rw [isDef_dfn hi, (h.defs _ (List.getElem_mem hi)).1]; rfl)
    obtain ⟨q, hq⟩ := List.mem_iff_getElem?.1 hio
    have hql : q < o.length := (List.getElem?_eq_some_iff.1 hq).1
    have h1 := ht.len
    have h2 := h.len
    simp only [List.length_map] at h1
    simp only [Option.map_some, Option.some.injEq]
    exact expF_stable ht q i hq _ _ (by omega) (by omega)
theorem Used.cyclic {l : List Cla} {e : Ex} {u : List Cla} (h : Used l e u) {o : List Nat} (ho : OInv (u.map Cla.dfn) o []) (hc : o.length < countOf (u.map Cla.dfn)) : expanded l e = 2001 := by
  have hbad : ∀ f i, (hi : i < u.length) → i ∉ o → expF u f u[i].cond = 2001 := by
    intro f
    induction f with
    | zero => intro i _ _; rfl
    | succ f ih =>
      intro i hi hio
      have hdef : isDef (u.map Cla.dfn) i = true := by rw [isDef_dfn hi, (h.defs _ (List.getElem_mem hi)).1]; rfl
      have hm : missL (u.map Cla.dfn) o i ≠ [] := fun hm => hio (by have := (ho.ready i).2 ⟨hdef, hm⟩; simpa using this)
      obtain ⟨s, hs⟩ := List.exists_mem_of_ne_nil _ hm
      obtain ⟨h1, d, h2, h3⟩ := mem_miss.1 hs
      rw [usesAt_dfn hi, refNames_mem] at h1
      rw [firstAt_dfn] at h2
      have hdl := defAt_lt h2
      refine expF_ge h1 h2 ?_
      rw [getD_cla hdl]
      exact ih d hdl h3
  obtain ⟨i, hi, hio⟩ : ∃ i, i < u.length ∧ i ∉ o := by
    refine Classical.byContradiction fun hn => ?_
    have := nodup_le _ o (List.nodup_range.filter (isDef (u.map Cla.dfn))) fun i hi => Classical.byContradiction fun hio => hn ⟨i, by simpa using isDef_lt (mem_defs.1 hi), hio⟩
    unfold countOf at hc
    omega
  obtain ⟨_, d, h1, h2, h3⟩ := h.defs _ (List.getElem_mem hi)
  refine h3.large (fun f => ?_) _
  rw [← h2, ← h.same f u[i].cond (h.closed _ (List.getElem_mem hi))]
  exact hbad f i hi hio
end Go.Proofs.YtfjlglefodndjaaGreatDoor

namespace Go.Proofs.YtfjlglefodndjaaGreatDoor
open Go.RowKit Go.Maps

/-! A map in memory as a function of its keys, whatever its elements are: each element is kept as the Go value itself. -/
def heldE (v : Value) : Option (DataW Value × List MemPlace) := some (.held v, [])
/-- The data D holds f. -/
def HoldsF (D : DataW Value) (f : Lit → Option Value) : Prop := ∀ x, WideAt.IsKeyLit x → Maps.has D x = (f x).isSome ∧ ∀ v, f x = some v → ∀ z, D.atKey x z = .held v
/-- Block b is a map with keys of type k, of at most n entries, that holds f. -/
def MapAt (w : World) (k : TypeId) (b n : Nat) (f : Lit → Option Value) : Prop := ∃ D : DataW Value, w.ownsMap Tryz.prog k heldE b n D ∧ HoldsF D f
open Classical in
noncomputable def setF (f : Lit → Option Value) (x : Lit) (v : Option Value) : Lit → Option Value := fun y => if y = x then v else f y
theorem setF_same (f : Lit → Option Value) (x : Lit) (v : Option Value) : setF f x v x = v := by simp [setF]
theorem setF_other (f : Lit → Option Value) {x y : Lit} (v : Option Value) (h : y ≠ x) : setF f x v y = f y := by simp [setF, h]
theorem MapAt.made (w : World) (k : TypeId) : MapAt (w.alloc (.map #[] 0)) k w.heap.size 0 (fun _ => none) :=
  ⟨.map [], World.ownsMap_made w _ k heldE, fun x _ => ⟨rfl, fun v h => by cases h⟩⟩
theorem MapAt.lt {w : World} {k : TypeId} {b n : Nat} {f : Lit → Option Value} (h : MapAt w k b n f) : b < w.heap.size := by obtain ⟨D, h, _⟩ := h; exact h.lt
theorem MapAt.more {w : World} {k : TypeId} {b n n' : Nat} {f : Lit → Option Value} (h : MapAt w k b n f) (hn : n ≤ n') : MapAt w k b n' f := by obtain ⟨D, h, hs⟩ := h; exact ⟨D, h.mono hn, hs⟩
theorem MapAt.chg {w w' : World} {k : TypeId} {b n : Nat} {f : Lit → Option Value} {N : List Nat} (h : MapAt w k b n f) (hc : Chg N w w') (hn : b ∉ N) : MapAt w' k b n f := by
  have hlt := h.lt
  obtain ⟨D, ⟨es, clock, hb, r⟩, hs⟩ := h
  exact ⟨D, ⟨es, clock, (hc.block b hlt hn).trans hb, r⟩, hs⟩
theorem MapAt.ext {w w' : World} {k : TypeId} {b n : Nat} {f : Lit → Option Value} (h : MapAt w k b n f) (he : Ext w w') : MapAt w' k b n f := h.chg (he.chg []) (by simp)
theorem MapAt.congr {w : World} {k : TypeId} {b n : Nat} {f g : Lit → Option Value} (h : MapAt w k b n f) (e : ∀ x, f x = g x) : MapAt w k b n g := by rw [show g = f from funext fun x => (e x).symm]; exact h
theorem grown_one {w w' : World} {b : Nat} (h : w.grownBy w' (some b)) : Chg [b] w w' := ⟨h.os, h.tape, h.output, h.size, fun k hk hn => h.block k hk (fun e => hn (by simp at e; simp [e]))⟩
theorem HoldsF.at {D : DataW Value} {f : Lit → Option Value} (h : HoldsF D f) {x : Lit} (hx : WideAt.IsKeyLit x) {v z : Value} (hv : DataW.held v = D.atKey x (.held z)) : v = (f x).getD z := by
  obtain ⟨h1, h2⟩ := h x hx
  cases hf : f x with
  | none =>
    rw [hf] at h1
    rw [atKey_of_not_has h1] at hv
    simpa using hv
  | some u =>
    rw [h2 u hf] at hv
    simpa using hv
theorem HoldsF.put {D : DataW Value} {f : Lit → Option Value} (h : HoldsF D f) (hD : IsMap D) {x : Lit} (hx : WideAt.IsKeyLit x) (v : Value) : HoldsF (D.put x (.held v)) (setF f x (some v)) := by
  intro y hy
  by_cases e : y = x
  · subst e
    rw [setF_same]
    refine ⟨by rw [has_put_same hD hx]; rfl, fun u hu z => ?_⟩
    rw [atKey_put_same hD hx]
    cases hu; rfl
  · rw [setF_other _ _ e]
    refine ⟨by rw [has_put_other e]; exact (h y hy).1, fun u hu z => ?_⟩
    rw [atKey_put_other e]
    exact (h y hy).2 u hu z
theorem HoldsF.del {D : DataW Value} {f : Lit → Option Value} (h : HoldsF D f) {x : Lit} (hx : WideAt.IsKeyLit x) : HoldsF (D.del x) (setF f x none) := by
  intro y hy
  by_cases e : y = x
  · subst e
    rw [setF_same]
    exact ⟨by rw [has_del_same]; rfl, fun u hu => by cases hu⟩
  · rw [setF_other _ _ e]
    refine ⟨by rw [has_del_other e]; exact (h y hy).1, fun u hu z => ?_⟩
    rw [atKey_del_other e]
    exact (h y hy).2 u hu z
/-- An empty map has size 0, and only that. -/
theorem HoldsF.size {D : DataW Value} {f : Lit → Option Value} (h : HoldsF D f) {es : List (Lit × DataW Value)} (hD : D = .map es) (hk : ∀ p ∈ es, WideAt.IsKeyLit p.1) : Maps.size D = 0 ↔ ∀ x, WideAt.IsKeyLit x → f x = none := by
  subst hD
  rw [size_eq]
  constructor
  · intro h0 x hx
    have := (h x hx).1
    rw [List.eq_nil_of_length_eq_zero h0] at this
    cases hf : f x with
    | none => rfl
    | some u => rw [hf] at this; simp [has_eq] at this
  · intro h0
    cases es with
    | nil => rfl
    | cons p r =>
      have hp := hk p (by simp)
      have := (h p.1 hp).1
      rw [h0 p.1 hp, has_eq] at this
      simp [WideAt.sameKey_self hp] at this
section
variable (w : World) {ops : Array Oper} {rest : List Oper} {o : Oper} {a : Act} {Q : Exit → Act → World → Prop}
theorem wpList_map_ok (hg : o.guard = none) (m x : Operand) (t : TypeId) (hop : o.op = Op.lookup t m x true) (k e : TypeId) (K : Keyed Tryz.prog k) (ht : Tryz.prog.underlying t = some (.map k e)) {z : Value} (hz : (zeroValue e).run Tryz.prog w = .ok z w) (b n : Nat) (f : Lit → Option Value)
    (hm : a.eval m = .map (some b)) (hmap : MapAt w k b n f) (key : Value) (kl : Lit) (hx : a.eval x = key) (hkey : keyOf Tryz.prog k key = some kl) (hkl : WideAt.IsKeyLit kl)
    (hK : wpList Tryz.prog ops Q rest (a.put o.dst (.tuple #[(f kl).getD z, .bool (f kl).isSome])) w) : wpList Tryz.prog ops Q (o :: rest) a w := by
  obtain ⟨D, hown, hf⟩ := hmap
  refine wpList_lookup_own_ok w hg m x t hop k e K ht heldE hz (.held z) [] rfl b n D hm hown key kl hx hkey fun v ps hv => ?_
  have e1 : DataW.held v = D.atKey kl (.held z) := by
    simp only [heldE, Option.some.injEq, Prod.mk.injEq] at hv
    exact hv.1
  rw [hf.at hkl e1, (hf kl hkl).1]
  exact hK
theorem wpList_map_get (hg : o.guard = none) (m x : Operand) (t : TypeId) (hop : o.op = Op.lookup t m x false) (k e : TypeId) (K : Keyed Tryz.prog k) (ht : Tryz.prog.underlying t = some (.map k e)) {z : Value} (hz : (zeroValue e).run Tryz.prog w = .ok z w) (b n : Nat) (f : Lit → Option Value)
    (hm : a.eval m = .map (some b)) (hmap : MapAt w k b n f) (key : Value) (kl : Lit) (hx : a.eval x = key) (hkey : keyOf Tryz.prog k key = some kl) (hkl : WideAt.IsKeyLit kl)
    (hK : wpList Tryz.prog ops Q rest (a.put o.dst ((f kl).getD z)) w) : wpList Tryz.prog ops Q (o :: rest) a w := by
  obtain ⟨D, hown, hf⟩ := hmap
  refine wpList_plain hg fun K' hK' => ?_
  obtain ⟨v, ps, hrun, hv⟩ := hown.lookup K ht hz (zd := .held z) (zp := []) rfl hkey
  have e1 : DataW.held v = D.atKey kl (.held z) := by
    simp only [heldE, Option.some.injEq, Prod.mk.injEq] at hv
    exact hv.1
  rw [← hf.at hkl e1] at hK
  unfold Oper.wp
  simp [execOp, hop, hm, hx, hrun, Result.andThen]
  exact hK' _ _ hK
theorem wpList_map_put (hg : o.guard = none) (m x v : Operand) (t : TypeId) (hop : o.op = Op.mapUpdate t m x v) (k e : TypeId) (K : Keyed Tryz.prog k) (ht : Tryz.prog.underlying t = some (.map k e)) (b n : Nat) (f : Lit → Option Value)
    (hm : a.eval m = .map (some b)) (hmap : MapAt w k b n f) (hn : n < maxLen) (key val : Value) (kl : Lit) (hx : a.eval x = key) (hv : a.eval v = val) (hkey : keyOf Tryz.prog k key = some kl) (hkl : WideAt.IsKeyLit kl)
    (hK : ∀ w', MapAt w' k b (n + 1) (setF f kl (some val)) → Chg [b] w w' → wpList Tryz.prog ops Q rest (a.put o.dst undef) w') : wpList Tryz.prog ops Q (o :: rest) a w := by
  obtain ⟨D, hown, hf⟩ := hmap
  refine wpList_mapUpdate_own w hg m x v t hop k e K ht heldE b n D hm hown hn key val kl hx hv hkey (.held val) [] rfl fun w' h1 h2 => ?_
  exact hK w' ⟨_, h1, hf.put hown.isMap hkl val⟩ (grown_one h2)
theorem wpList_map_del (hg : o.guard = none) (m x : Operand) (t k : TypeId) (hop : o.op = Op.call { callee := Callee.builtin Builtin.delete, args := #[m, x], argTypes := #[t, k] }) (e : TypeId) (K : Keyed Tryz.prog k) (ht : Tryz.prog.underlying t = some (.map k e)) (b n : Nat) (f : Lit → Option Value)
    (hm : a.eval m = .map (some b)) (hmap : MapAt w k b n f) (key : Value) (kl : Lit) (hx : a.eval x = key) (hkey : keyOf Tryz.prog k key = some kl) (hkl : WideAt.IsKeyLit kl)
    (hK : ∀ w', MapAt w' k b n (setF f kl none) → Chg [b] w w' → wpList Tryz.prog ops Q rest (a.put o.dst (.tuple #[])) w') : wpList Tryz.prog ops Q (o :: rest) a w := by
  obtain ⟨D, hown, hf⟩ := hmap
  refine wpList_delete_own w hg m x t k hop e K ht heldE b n D hm hown key kl hx hkey fun w' h1 h2 => ?_
  exact hK w' ⟨_, h1, hf.del hkl⟩ (grown_one h2.grown)
theorem wpList_map_len (hg : o.guard = none) (m : Operand) (t : TypeId) (hop : o.op = Op.call { callee := Callee.builtin Builtin.len, args := #[m], argTypes := #[t] }) (k e : TypeId) (K : Keyed Tryz.prog k) (ht : Tryz.prog.underlying t = some (.map k e)) (b n : Nat) (f : Lit → Option Value)
    (hm : a.eval m = .map (some b)) (hmap : MapAt w k b n f)
    (hK : ∀ s : Nat, s ≤ n → (s = 0 ↔ ∀ x, WideAt.IsKeyLit x → f x = none) → wpList Tryz.prog ops Q rest (a.put o.dst (.int .i64 s)) w) : wpList Tryz.prog ops Q (o :: rest) a w := by
  obtain ⟨D, hown, hf⟩ := hmap
  refine wpList_len_own w hg m t hop k e ht heldE b n D hm hown ?_
  obtain ⟨es, hes, _, hk⟩ := hown.entries K
  exact hK _ hown.size_le (hf.size hes hk)
end
end Go.Proofs.YtfjlglefodndjaaGreatDoor

namespace Go.Proofs.YtfjlglefodndjaaGreatDoor
open Go.RowKit

/-- A pile of integers in a block of its own (number b, from B on; one cell: a slice whose row the pile owns): T the block's type, e the elements' type. -/
def PileAt (T e : TypeId) (B b : Nat) (xs : List Int) (w : World) : Prop :=
  B ≤ b ∧ ∃ v, w.heap[b]? = some (.cells #[v] T (0, 0)) ∧ w.ownsRow B e 1 v xs.length (xs.map fun z => Value.int .i64 z) ∧ v.ownBlock ≠ some b
theorem PileAt.fresh (T e : TypeId) (w : World) : PileAt T e w.heap.size w.heap.size [] (w.alloc (.cells #[.slice none 0 0] T)) :=
  ⟨Nat.le_refl _, .slice none 0 0, heap_alloc_new w _, World.ownsRow_nil _ _ _ _, by simp [Value.ownBlock]⟩
theorem PileAt.lt {T e : TypeId} {B b : Nat} {xs : List Int} {w : World} (h : PileAt T e B b xs w) : b < w.heap.size := by
  obtain ⟨_, v, hb, _⟩ := h
  rcases Nat.lt_or_ge b w.heap.size with h' | h'
  · exact h'
  · simp [Array.getElem?_eq_none h'] at hb
theorem PileAt.ext {T e : TypeId} {B b : Nat} {xs : List Int} {w w' : World} (h : PileAt T e B b xs w) (hx : Ext w w') : PileAt T e B b xs w' := by
  have hlt := h.lt
  obtain ⟨hB, v, hb, hown, hne⟩ := h
  refine ⟨hB, v, (hx.block b hlt).trans hb, hown.kept (row := none) ⟨hx.os, hx.tape, hx.output, hx.size, fun k hk _ => hx.block k hk⟩ ?_, hne⟩
  rcases hown.2 with ⟨hv, _⟩ | ⟨g, cap, cur, hv, _⟩
  · exact Or.inl (by rw [hv]; rfl)
  · exact Or.inr (by rw [hv]; simp [Value.ownBlock])
/-- What a pile's slice is: nil, or a row of its own with these cells. -/
theorem PileAt.parts {T e : TypeId} {B b : Nat} {xs : List Int} {w : World} (h : PileAt T e B b xs w) : B ≤ b ∧ ((xs = [] ∧ w.heap[b]? = some (.cells #[.slice none 0 0] T (0, 0))) ∨
    ∃ g cap cur, w.heap[b]? = some (.cells #[.slice (some ⟨g, 0, none⟩) xs.length cap] T (0, 0)) ∧ B ≤ g ∧ g ≠ b ∧ w.heap[g]? = some (.cells cur e (0, 0)) ∧ xs.length ≤ cap ∧ cap ≤ maxLen ∧ cur.size = cap ∧ cur.toList.take xs.length = xs.map fun z => Value.int .i64 z) := by
  obtain ⟨hB, v, hb, hown, hne⟩ := h
  refine ⟨hB, ?_⟩
  rcases hown.2 with ⟨rfl, h0⟩ | ⟨g, cap, cur, rfl, hg1, hg2, hg3, hg4, hg5, hg6⟩
  · exact Or.inl ⟨List.eq_nil_of_length_eq_zero h0, hb⟩
  · refine Or.inr ⟨g, cap, cur, hb, hg1, fun e => hne (by simp [Value.ownBlock, e]), hg2, hg3, hg4, ?_, ?_⟩
    · simpa using hg5
    · simpa using hg6
/-- One element is overwritten. -/
theorem pile_set {T e : TypeId} {B b g cap : Nat} {cur : Array Value} {xs : List Int} {w : World} (hB : B ≤ b) (hb : w.heap[b]? = some (.cells #[.slice (some ⟨g, 0, none⟩) xs.length cap] T (0, 0))) (hg1 : B ≤ g) (hgb : g ≠ b) (hg : w.heap[g]? = some (.cells cur e (0, 0)))
    (h1 : xs.length ≤ cap) (h2 : cap ≤ maxLen) (h3 : cur.size = cap) (h4 : cur.toList.take xs.length = xs.map fun z => Value.int .i64 z) {i : Nat} (z : Int) :
    PileAt T e B b (xs.set i z) (w.setCell ⟨g, i, none⟩ (.int .i64 z)) ∧ Chg [g] w (w.setCell ⟨g, i, none⟩ (.int .i64 z)) := by
  refine ⟨⟨hB, .slice (some ⟨g, 0, none⟩) xs.length cap, ?_, ⟨?_, .inr ⟨g, cap, cur.setIfInBounds i (.int .i64 z), ?_, hg1, ?_, ?_, h2, ?_, ?_⟩⟩, ?_⟩, (Chg.refl _ _).setCell (Or.inl (by simp)) _⟩
  · rw [Below.heap_setCell _ _ _ _ (by simpa using fun h => hgb h.symm)]; exact hb
  · simp
  · simp
  · simp [World.setCell, Array.getElem?_modify, hg]
  · simpa using h1
  · simpa using h3
  · simp only [Array.toList_setIfInBounds, List.length_set, Nat.mul_one]
    rw [List.take_set, h4, List.map_set]
  · simp [Value.ownBlock, hgb]
/-- What a walk reads of a pile. -/
theorem pile_cell {e : TypeId} {g : Nat} {cur : Array Value} {xs : List Int} {w : World} (hg : w.heap[g]? = some (.cells cur e (0, 0))) (h4 : cur.toList.take xs.length = xs.map fun z => Value.int .i64 z) {i : Nat} (hi : i < xs.length) : w.cell? ⟨g, i, none⟩ = some (.int .i64 xs[i]) ∧ w.frozen? ⟨g, i, none⟩ = false := by
  have h5 : (cur.toList.take xs.length)[i]? = some (.int .i64 xs[i]) := by rw [h4]; simp [hi]
  rw [List.getElem?_take, if_pos hi] at h5
  refine ⟨?_, Lib.frozen_of_heap hg i⟩
  rw [Lib.cell_of_heap hg]
  simpa using h5
/-- The last element is taken away. -/
theorem pile_less {T e : TypeId} {B b g cap : Nat} {cur : Array Value} {xs : List Int} {w : World} (hB : B ≤ b) (hb : w.heap[b]? = some (.cells #[.slice (some ⟨g, 0, none⟩) xs.length cap] T (0, 0))) (hg1 : B ≤ g) (hgb : g ≠ b) (hg : w.heap[g]? = some (.cells cur e (0, 0)))
    (h1 : xs.length ≤ cap) (h2 : cap ≤ maxLen) (h3 : cur.size = cap) (h4 : cur.toList.take xs.length = xs.map fun z => Value.int .i64 z) :
    PileAt T e B b xs.dropLast (w.setCell ⟨b, 0, none⟩ (.slice (some ⟨g, 0, none⟩) (xs.length - 1) cap)) ∧ Chg [b] w (w.setCell ⟨b, 0, none⟩ (.slice (some ⟨g, 0, none⟩) (xs.length - 1) cap)) := by
  refine ⟨⟨hB, .slice (some ⟨g, 0, none⟩) (xs.length - 1) cap, ?_, ⟨?_, .inr ⟨g, cap, cur, ?_, hg1, ?_, ?_, h2, ?_, ?_⟩⟩, ?_⟩, (Chg.refl _ _).setCell (Or.inl (by simp)) _⟩
  · simp [World.setCell, Array.getElem?_modify, hb]
  · simp
  · simp
  · rw [Below.heap_setCell _ _ _ _ (by simpa using hgb)]; exact hg
  · simp; omega
  · simpa using h3
  · have h5 : cur.toList.take (xs.length - 1) = (cur.toList.take xs.length).take (xs.length - 1) := by rw [List.take_take]; congr 1; omega
    simp only [List.length_dropLast, Nat.mul_one]
    rw [h5, h4, ← List.map_take, List.dropLast_eq_take]
  · simp [Value.ownBlock, hgb]
end Go.Proofs.YtfjlglefodndjaaGreatDoor

namespace Go.Proofs.YtfjlglefodndjaaGreatDoor
open Go.RowKit

/-! The methods that heap.Interface calls on a *check.indexes: Len, Less, Swap are sort.IntSlice's, promoted. -/
theorem rows_idx : (Tryz.prog.info? 78).map (fun i => ["Len", "Less", "Swap", "Push", "Pop"].map fun s => (i.methods.find? (·.name == s)).map fun m => (m.path.toList.map fun p => (p.struct, p.index, p.deref), m.func)) =
  some [some ([(81, 0, true)], some (42, false)), some ([(81, 0, true)], some (148, false)), some ([(81, 0, true)], some (152, false)), some ([], some (150, true)), some ([], some (149, true))] := by kernel_rfl
theorem meth_push (n b : Nat) (w : World) : (method (n + 1) 78 (.pointer (some ⟨b, 0, none⟩)) "Push").run Tryz.prog w = .ok (150, .pointer (some ⟨b, 0, none⟩)) w := by kernel_rfl
theorem meth_pop (n b : Nat) (w : World) : (method (n + 1) 78 (.pointer (some ⟨b, 0, none⟩)) "Pop").run Tryz.prog w = .ok (149, .pointer (some ⟨b, 0, none⟩)) w := by kernel_rfl
theorem meth_len (n b : Nat) (v : Value) (w : World) (h : w.cell? ⟨b, 0, none⟩ = some v) : (method (n + 1) 78 (.pointer (some ⟨b, 0, none⟩)) "Len").run Tryz.prog w = .ok (42, v) w := by
  have e : (method (n + 1) 78 (.pointer (some ⟨b, 0, none⟩)) "Len").run Tryz.prog w = (loadVar 79 ⟨b, 0, none⟩ >>= fun v => pure (42, v)).run Tryz.prog w := by kernel_rfl
  rw [e]
  simp [loadVar, go_sem, h]
theorem meth_less (n b : Nat) (v : Value) (w : World) (h : w.cell? ⟨b, 0, none⟩ = some v) : (method (n + 1) 78 (.pointer (some ⟨b, 0, none⟩)) "Less").run Tryz.prog w = .ok (148, v) w := by
  have e : (method (n + 1) 78 (.pointer (some ⟨b, 0, none⟩)) "Less").run Tryz.prog w = (loadVar 79 ⟨b, 0, none⟩ >>= fun v => pure (148, v)).run Tryz.prog w := by kernel_rfl
  rw [e]
  simp [loadVar, go_sem, h]
theorem meth_swap (n b : Nat) (v : Value) (w : World) (h : w.cell? ⟨b, 0, none⟩ = some v) : (method (n + 1) 78 (.pointer (some ⟨b, 0, none⟩)) "Swap").run Tryz.prog w = .ok (152, v) w := by
  have e : (method (n + 1) 78 (.pointer (some ⟨b, 0, none⟩)) "Swap").run Tryz.prog w = (loadVar 79 ⟨b, 0, none⟩ >>= fun v => pure (152, v)).run Tryz.prog w := by kernel_rfl
  rw [e]
  simp [loadVar, go_sem, h]
theorem ahead_len (n b : Nat) (w : World) : (nilAhead (n + 1) 78 (.pointer (some ⟨b, 0, none⟩)) "Len").run Tryz.prog w = .ok (some false) w := by kernel_rfl
theorem ahead_less (n b : Nat) (w : World) : (nilAhead (n + 1) 78 (.pointer (some ⟨b, 0, none⟩)) "Less").run Tryz.prog w = .ok (some false) w := by kernel_rfl
theorem ahead_swap (n b : Nat) (w : World) : (nilAhead (n + 1) 78 (.pointer (some ⟨b, 0, none⟩)) "Swap").run Tryz.prog w = .ok (some false) w := by kernel_rfl
theorem ahead_push (n b : Nat) (w : World) : (nilAhead (n + 1) 78 (.pointer (some ⟨b, 0, none⟩)) "Push").run Tryz.prog w = .ok (some false) w := by kernel_rfl
theorem ahead_pop (n b : Nat) (w : World) : (nilAhead (n + 1) 78 (.pointer (some ⟨b, 0, none⟩)) "Pop").run Tryz.prog w = .ok (some false) w := by kernel_rfl
theorem ilen_calls (a : Option Addr) (n c : Nat) (w : World) : Calls Tryz.prog 42 #[.slice a n c] w (Gives (.int .i64 n) w) := by
  go_enter Tryz.func42, Tryz.ntmps42
  go_wp2_with fail
  go_ret
  exact ⟨rfl, rfl⟩
theorem iless_calls (g n c i j : Nat) (x y : Int) (w : World) (hi : i < n) (hj : j < n) (h1 : w.cell? ⟨g, i, none⟩ = some (.int .i64 x)) (h2 : w.cell? ⟨g, j, none⟩ = some (.int .i64 y)) :
    Calls Tryz.prog 148 #[.slice (some ⟨g, 0, none⟩) n c, .int .i64 i, .int .i64 j] w (GivesE (.bool (decide (x < y))) w) := by
  go_enter Tryz.func148, Tryz.ntmps148
  go_upto_region 1 with fail
  go_quiet (fail)
  go_wp2_with fail
  go_ret
  exact ⟨rfl, Ext.drewN (Ext.refl _) _⟩
end Go.Proofs.YtfjlglefodndjaaGreatDoor

namespace Go.Proofs.YtfjlglefodndjaaGreatDoor
open Go.RowKit

/-- The slot into which operation j writes. -/
def dstAt (ops : Array Oper) (j : Nat) : Option Tmp := (ops[j]?).bind (·.dst)
/-- The frame after the operations of L, with the values vs. -/
def acts (ops : Array Oper) (a : Act) (vs : Nat → Value) (L : List Nat) : Act := L.foldl (fun b j => b.put (dstAt ops j) (vs j)) a

theorem acts_snoc (ops : Array Oper) (a : Act) (vs : Nat → Value) (L : List Nat) (i : Nat) : acts ops a vs (L ++ [i]) = (acts ops a vs L).put (dstAt ops i) (vs i) := by simp [acts]
theorem acts_congr {ops : Array Oper} {a : Act} {vs vs' : Nat → Value} {L : List Nat} (h : ∀ j ∈ L, vs j = vs' j) : acts ops a vs L = acts ops a vs' L := by
  unfold acts
  induction L generalizing a with
  | nil => rfl
  | cons x r ih => simp only [List.foldl_cons, h x (by simp)]; exact ih (fun j hj => h j (List.mem_cons_of_mem _ hj))
theorem put_size (a : Act) (d : Option Tmp) (v : Value) : (a.put d v).tmps.size = a.tmps.size := by cases d <;> simp [Act.put]
theorem acts_size (ops : Array Oper) (a : Act) (vs : Nat → Value) (L : List Nat) : (acts ops a vs L).tmps.size = a.tmps.size := by
  unfold acts
  induction L generalizing a with
  | nil => rfl
  | cons x r ih => rw [List.foldl_cons, ih, put_size]

/-- All slots are written once. -/
def DstApart (ops : Array Oper) : Prop := ∀ i j d, dstAt ops i = some d → dstAt ops j = some d → i = j

theorem put_eval_same (a : Act) (t : Tmp) (v : Value) : (a.put (some t) v).eval (.tmp t) = if t < a.tmps.size then v else undef := by
  by_cases h : t < a.tmps.size
  · rw [if_pos h]; simp [Act.put, Act.eval, h]
  · rw [if_neg h]
    simp only [Act.put, Act.eval]
    rw [Array.setIfInBounds_eq_of_size_le (Nat.le_of_not_lt h)]
    simp
    rw [Array.getElem?_eq_none (Nat.le_of_not_lt h)]; rfl
theorem acts_eval_in {ops : Array Oper} (hd : DstApart ops) {a : Act} {vs : Nat → Value} {L : List Nat} {t : Tmp} {j : Nat} (hj : j ∈ L) (ht : dstAt ops j = some t) : (acts ops a vs L).eval (.tmp t) = if t < a.tmps.size then vs j else undef := by
  induction L generalizing a with
  | nil => simp at hj
  | cons x r ih =>
    simp only [acts, List.foldl_cons]
    by_cases hjr : j ∈ r
    · have := ih (a := a.put (dstAt ops x) (vs x)) hjr
      rw [put_size] at this
      exact this
    · obtain rfl : j = x := by rcases List.mem_cons.1 hj with h | h; exact h; exact absurd h hjr
      have : ∀ (b : Act), (acts ops b vs r).eval (.tmp t) = b.eval (.tmp t) := by
        clear ih hj
        induction r with
        | nil => intro b; rfl
        | cons y s ih =>
          intro b
          simp only [acts, List.foldl_cons]
          have h1 := ih (fun h => hjr (List.mem_cons_of_mem _ h)) (b.put (dstAt ops y) (vs y))
          simp only [acts] at h1
          rw [h1]
          exact Act.eval_put (fun d hd' e => by
            injection e with e
            subst e
            exact hjr (by rw [hd _ _ _ ht hd']; simp))
      have h2 := this (a.put (dstAt ops j) (vs j))
      simp only [acts] at h2
      rw [h2, ht, put_eval_same]
theorem acts_eval_out {ops : Array Oper} {a : Act} {vs : Nat → Value} {L : List Nat} {t : Tmp} (ht : ∀ j ∈ L, dstAt ops j ≠ some t) : (acts ops a vs L).eval (.tmp t) = a.eval (.tmp t) := by
  induction L generalizing a with
  | nil => rfl
  | cons x r ih =>
    simp only [acts, List.foldl_cons]
    have := ih (a := a.put (dstAt ops x) (vs x)) (fun j hj => ht j (List.mem_cons_of_mem _ hj))
    simp only [acts] at this
    rw [this]
    exact Act.eval_put (fun d hd' e => by injection e with e; subst e; exact ht x (by simp) hd')
theorem acts_perm {ops : Array Oper} (hd : DstApart ops) {a : Act} {vs : Nat → Value} {L L' : List Nat} (h : L.Perm L') : acts ops a vs L = acts ops a vs L' := by
  refine List.Perm.foldl_eq' h (fun x _ y _ z => ?_) a
  by_cases hxy : x = y
  · subst hxy; rfl
  · exact Act.put_comm _ _ _ (fun d hx hy => hxy (hd _ _ _ hx hy))

/-- An edge by which a value goes. -/
def isData (e : Edge) : Bool := match e.ground with | .data => true | _ => false
/-- What is asked of the operations below m: no guard, no select; they look at slots of operations alone that come before them; the m-th (if there is one) comes last. -/
def okGrow (ops : Array Oper) (m : Nat) : Bool :=
  Region.noSelect ops && decide (m ≤ ops.size) && decide (ops.size ≤ m + 1) &&
  ((List.range ops.size).all fun i => (List.range ops.size).all fun j => i == j || dstAt ops i == none || dstAt ops i != dstAt ops j) &&
  ((List.range ops.size).all fun i => match ops[i]? with
    | none => false
    | some o => (o.guard == none || i == m) && (o.after.all fun e => (!Region.binds .any e || decide (e.on < i)) && (!isData e || Region.binds .any e)) &&
      ((List.range m).all fun j => match dstAt ops j with
        | none => true
        | some t => !(o.looksAt ops).contains t || (i == m) || o.after.any (fun e => Region.binds .any e && e.on == j)) &&
      (i != m || (List.range m).all fun j => o.after.any (fun e => Region.binds .any e && e.on == j)))

theorem okGrow_spec {ops : Array Oper} {m : Nat} (h : okGrow ops m = true) : Region.noSelect ops = true ∧ m ≤ ops.size ∧ ops.size ≤ m + 1 ∧ DstApart ops ∧
    (∀ i o, ops[i]? = some o → (i < m → o.guard = none) ∧ (∀ e ∈ o.after, (Region.binds .any e = true → e.on < i) ∧ (isData e = true → Region.binds .any e = true)) ∧ (i < m → ∀ j t, j < m → dstAt ops j = some t → t ∈ o.looksAt ops → ∃ e ∈ o.after, Region.binds .any e = true ∧ e.on = j) ∧
      (i = m → ∀ j, j < m → ∃ e ∈ o.after, Region.binds .any e = true ∧ e.on = j)) := by
  simp only [okGrow, Bool.and_eq_true, decide_eq_true_eq] at h
  obtain ⟨⟨⟨⟨h1, h2⟩, h3⟩, h4⟩, h5⟩ := h
  refine ⟨h1, h2, h3, ?_, ?_⟩
  · intro i j d hi hj
    have li : i < ops.size := by
      unfold dstAt at hi
      rcases Nat.lt_or_ge i ops.size with h | h
      · exact h
      · rw [Array.getElem?_eq_none h] at hi; simp at hi
    have lj : j < ops.size := by
      unfold dstAt at hj
      rcases Nat.lt_or_ge j ops.size with h | h
      · exact h
      · rw [Array.getElem?_eq_none h] at hj; simp at hj
    have := List.all_eq_true.1 (List.all_eq_true.1 h4 i (by simpa using li)) j (by simpa using lj)
    simpa [hi, hj] using this
  · intro i o ho
    have li : i < ops.size := (Array.getElem?_eq_some_iff.1 ho).1
    have h6 := List.all_eq_true.1 h5 i (by simpa using li)
    simp only [ho, Bool.and_eq_true] at h6
    obtain ⟨⟨⟨g1, g2⟩, g3⟩, g4⟩ := h6
    refine ⟨fun hm => ?_, fun e he => ?_, fun hm j t hjm hj ht => ?_, fun hm j hj => ?_⟩
    · rcases Bool.or_eq_true_iff.1 g1 with g | g
      · simpa using g
      · have : i = m := by simpa using g
        omega
    · have := Array.all_eq_true_iff_forall_mem.1 g2 e he
      simp only [Bool.and_eq_true, Bool.or_eq_true, Bool.not_eq_true', decide_eq_true_eq] at this
      refine ⟨fun hb => ?_, fun hb => ?_⟩
      · rcases this.1 with h | h
        · rw [hb] at h; cases h
        · exact h
      · rcases this.2 with h | h
        · rw [hb] at h; cases h
        · exact h
    · have := List.all_eq_true.1 g3 j (by simpa using hjm)
      rw [hj] at this
      simp only [Bool.or_eq_true, Bool.not_eq_true'] at this
      rcases this with (h | h) | h
      · rw [List.contains_iff_mem.2 ht] at h; cases h
      · have : i = m := by simpa using h
        omega
      · obtain ⟨e, he, hb⟩ := Array.any_eq_true'.1 h
        simp only [Bool.and_eq_true, beq_iff_eq] at hb
        exact ⟨e, he, hb.1, hb.2⟩
    · subst hm
      rcases Bool.or_eq_true_iff.1 g4 with g | g
      · simp at g
      · have := List.all_eq_true.1 g j (by simpa using hj)
        obtain ⟨e, he, hb⟩ := Array.any_eq_true'.1 this
        simp only [Bool.and_eq_true, beq_iff_eq] at hb
        exact ⟨e, he, hb.1, hb.2⟩

/-- A step of an operation whose operands have the values ρ: a value and a world that are as said. -/
def GivesOp (P : Program) (o : Oper) (ρ : Operand → Value) (W : World) (T : Value → World → Prop) : Prop := match (execOp ρ o).run P W with
  | .ok (.value v) W' => T v W'
  | .ok .skip W' => T undef W'
  | .ok (.enter f args) W' => Calls P f args W' (fun e W'' => ∃ v, e = .returned v ∧ T v W'')
  | _ => False
theorem GivesOp.wp {P : Program} {o : Oper} {ρ : Operand → Value} {a' : Act} {W : World} {T : Value → World → Prop} {Q : Exit → Act → World → Prop} (h : GivesOp P o ρ W T) (he : execOp a'.eval o = execOp ρ o) :
    o.wp P a' W (fun a'' W' => ∃ v, a'' = a'.put o.dst v ∧ T v W') Q := by
  unfold GivesOp at h
  unfold Oper.wp
  rw [he]
  generalize (execOp ρ o).run P W = r at *
  cases r with
  | ok n w' =>
    cases n <;> simp only at h <;> simp only [Oper.upon]
    case value v => exact ⟨v, rfl, h⟩
    case skip => exact ⟨undef, rfl, h⟩
    case enter f args =>
      refine Calls.mono h (fun e w'' he => ?_)
      obtain ⟨v, rfl, ht⟩ := he
      exact ⟨v, rfl, ht⟩
  | halt x w' => simp only at h
/-- What the operations of a region see: what those before them left, else the frame. -/
structure Sees (ops : Array Oper) (a : Act) (m : Nat) (vs : Nat → Value) (ρ : Operand → Value) : Prop where
  ins : ∀ j t, j < m → dstAt ops j = some t → t < a.tmps.size → ρ (.tmp t) = vs j
  out : ∀ t, ((List.range m).all fun j => dstAt ops j != some t) = true → ρ (.tmp t) = a.eval (.tmp t)
  const : ∀ c, ρ (.const c) = c
  glob : ∀ g, ρ (.global g) = .pointer (some ⟨g, 0, none⟩)
  func : ∀ f, ρ (.func f) = .func (.func f) #[] #[]
theorem sees_acts {ops : Array Oper} (hd : DstApart ops) (a : Act) (m : Nat) (vs : Nat → Value) : Sees ops a m vs (acts ops a vs (List.range m)).eval where
  ins := fun j t hj ht hs => by rw [acts_eval_in hd (by simpa using hj) ht, if_pos hs]
  out := fun t ht => acts_eval_out (fun j hj => by have := List.all_eq_true.1 ht j hj; simpa using this)
  const := fun _ => rfl
  glob := fun _ => rfl
  func := fun _ => rfl

def upd (vs : Nat → Value) (i : Nat) (v : Value) : Nat → Value := fun j => if j = i then v else vs j

/-- Operation k comes before operation i. -/
def comesAfter (ops : Array Oper) : Nat → Nat → Nat → Bool
  | 0, _, _ => false
  | f + 1, i, k => match ops[i]? with
    | none => false
    | some o => o.after.any fun e => Region.binds .any e && (e.on == k || comesAfter ops f e.on k)
theorem comesAfter_mem {ops : Array Oper} {L : List Nat} (hcl : ∀ i ∈ L, ∀ o, ops[i]? = some o → ∀ e ∈ o.after, Region.binds .any e = true → e.on ∈ L) : ∀ (f i k : Nat), i ∈ L → comesAfter ops f i k = true → k ∈ L := by
  intro f
  induction f with
  | zero => intro i k _ h; simp [comesAfter] at h
  | succ f ih =>
    intro i k hi h
    rw [comesAfter] at h
    cases ho : ops[i]? with
    | none => rw [ho] at h; cases h
    | some o =>
      rw [ho] at h
      obtain ⟨e, he, hb⟩ := Array.any_eq_true'.1 h
      simp only [Bool.and_eq_true, Bool.or_eq_true, beq_iff_eq] at hb
      have hm := hcl i hi o ho e he hb.1
      rcases hb.2 with h1 | h1
      · rw [← h1]; exact hm
      · exact ih e.on k hm h1
/-- What comes before an operation whose direct forerunners are done is done. -/
theorem comesAfter_ready {ops : Array Oper} {L : List Nat} (hcl : ∀ i ∈ L, ∀ o, ops[i]? = some o → ∀ e ∈ o.after, Region.binds .any e = true → e.on ∈ L) {i : Nat} {o : Oper} (ho : ops[i]? = some o) (hd : ∀ e ∈ o.after, Region.binds .any e = true → e.on ∈ L) : ∀ (f k : Nat), comesAfter ops f i k = true → k ∈ L := by
  intro f k h
  cases f with
  | zero => simp [comesAfter] at h
  | succ f =>
    rw [comesAfter, ho] at h
    obtain ⟨e, he, hb⟩ := Array.any_eq_true'.1 h
    simp only [Bool.and_eq_true, Bool.or_eq_true, beq_iff_eq] at hb
    have hm := hd e he hb.1
    rcases hb.2 with h1 | h1
    · rw [← h1]; exact hm
    · exact comesAfter_mem hcl f e.on k hm h1
/-- Operation c looks at what operation i left. -/
def looksTo (ops : Array Oper) (c i : Nat) : Bool := match ops[c]? with | none => false | some o => o.after.any fun e => isData e && e.on == i
/-- What operation i left must outlast operation k. -/
def outlasts (ops : Array Oper) (m : Nat) (Kp : List Nat) (i k : Nat) : Bool := !comesAfter ops m i k && (Kp.contains i || (List.range m).any fun c => c != k && !comesAfter ops m k c && looksTo ops c i)

section
variable {P : Program} {ops : Array Oper} {Q : Exit → Act → World → Prop} {a : Act} {m : Nat} (Kp : List Nat) (G : List Nat → World → Prop) (E : Nat → World → World → Prop) (R : Nat → Value → World → Prop)

theorem wpAny_grow (hok : okGrow ops m = true) (hRE : ∀ i k v W W', i < m → k < m → i ≠ k → outlasts ops m Kp i k = true → R i v W → E k W W' → R i v W')
    (hstep : ∀ i o, i < m → ops[i]? = some o → ∀ L vs W, i ∉ L → (∀ j ∈ L, comesAfter ops m j i = false) → G L W → (∀ e ∈ o.after, isData e = true → R e.on (vs e.on) W) → ∀ ρ, Sees ops a m vs ρ → GivesOp P o ρ W (fun v W' => E i W W' ∧ G (L ++ [i]) W' ∧ R i v W'))
    (hend : ∀ L vs W, (∀ j, j < m → j ∈ L) → G L W → (∀ j ∈ Kp, j < m → R j (vs j) W) → if m = ops.size then Q .normal (acts ops a vs (List.range m)) W else wpOp P ops Q m (fun a w => Q .normal a w) (acts ops a vs (List.range m)) W) :
    ∀ (fuel : Nat) (L : List Nat) (vs : Nat → Value) (W : World) (listed : Array Bool), listed.size = ops.size → (∀ j, j < ops.size → (listed.getD j true = true ↔ j ∈ L)) → L.Nodup → (∀ j ∈ L, j < m) → ((List.range ops.size).filter (fun j => !L.contains j)).length ≤ fuel → G L W → (∀ i ∈ L, ∀ o, ops[i]? = some o → ∀ e ∈ o.after, Region.binds .any e = true → e.on ∈ L) → (∀ j ∈ L, (j ∈ Kp ∨ ∃ c, c < m ∧ c ∉ L ∧ looksTo ops c j = true) → R j (vs j) W) →
      wpAny P .any ops Q fuel listed (acts ops a vs L) W := by
  obtain ⟨hns, hm1, hm2, hda, hspec⟩ := okGrow_spec hok
  have hperm : ∀ L : List Nat, L.Nodup → (∀ j ∈ L, j < m) → (∀ j, j < m → j ∈ L) → L.Perm (List.range m) := fun L h1 h2 h3 =>
    (List.perm_ext_iff_of_nodup h1 List.nodup_range).2 (fun j => ⟨fun h => by simpa using h2 j h, fun h => h3 j (by simpa using h)⟩)
  -- all below m are listed if none of them is ready
  have hall : ∀ (L : List Nat) (listed : Array Bool), listed.size = ops.size → (∀ j, j < ops.size → (listed.getD j true = true ↔ j ∈ L)) → (∀ j ∈ Region.ready .any ops listed, ¬ j < m) → ∀ j, j < m → j ∈ L := by
    intro L listed hsz hL hr j
    induction j using Nat.strongRecOn with
    | _ j ih =>
      intro hj
      by_cases hjL : j ∈ L
      · exact hjL
      · exfalso
        refine hr j ?_ hj
        have hjs : j < ops.size := by omega
        rw [mem_ready]
        obtain ⟨o, ho⟩ : ∃ o, ops[j]? = some o := ⟨ops[j], Array.getElem?_eq_getElem hjs⟩
        refine ⟨?_, o, ho, fun e he hb => ?_⟩
        · cases hx : listed.getD j true
          · rfl
          · exact absurd ((hL j hjs).1 hx) hjL
        · have hlt := ((hspec j o ho).2.1 e he).1 hb
          have hm := ih e.on hlt (by omega)
          have := (hL e.on (by omega)).2 hm
          have hin : e.on < listed.size := by rw [hsz]; omega
          simpa [Array.getD, hin] using this
  -- what is asked when all below m are listed
  have hfin : ∀ (L : List Nat) (vs : Nat → Value) (W : World), L.Nodup → (∀ j ∈ L, j < m) → (∀ j, j < m → j ∈ L) → G L W → (∀ j ∈ L, (j ∈ Kp ∨ ∃ c, c < m ∧ c ∉ L ∧ looksTo ops c j = true) → R j (vs j) W) →
      if m = ops.size then Q .normal (acts ops a vs L) W else wpOp P ops Q m (fun a w => Q .normal a w) (acts ops a vs L) W := by
    intro L vs W hnd hLm hcov hE hR
    rw [acts_perm hda (hperm L hnd hLm hcov)]
    exact hend L vs W hcov hE (fun j hk hj => hR j (hcov j hj) (Or.inl hk))
  intro fuel
  induction fuel with
  | zero =>
    intro L vs W listed hsz hL hnd hLm hlen hE hcl hR
    have hcov : ∀ j, j < ops.size → j ∈ L := fun j hj => by
      have h0 := List.eq_nil_of_length_eq_zero (Nat.le_zero.1 hlen)
      have : j ∉ (List.range ops.size).filter (fun j => !L.contains j) := by rw [h0]; simp
      simpa [hj] using this
    have hmn : m = ops.size := by
      rcases Nat.lt_or_ge m ops.size with h | h
      · have := hLm m (hcov m h); omega
      · omega
    have hf := hfin L vs W hnd hLm (fun j hj => hcov j (by omega)) hE hR
    rw [if_pos hmn] at hf
    refine ⟨?_, hf⟩
    rw [List.eq_nil_iff_forall_not_mem]
    intro j hj
    obtain ⟨h0, o, ho, _⟩ := mem_ready.1 hj
    have := (hL j (Array.getElem?_eq_some_iff.1 ho).1).2 (hcov j (Array.getElem?_eq_some_iff.1 ho).1)
    rw [this] at h0; cases h0
  | succ fuel ih =>
    intro L vs W listed hsz hL hnd hLm hlen hE hcl hR
    refine ⟨fun hr => ?_, fun i hi => ?_⟩
    · have hcov := hall L listed hsz hL (by rw [hr]; simp)
      have hf := hfin L vs W hnd hLm hcov hE hR
      by_cases hmn : m = ops.size
      · rw [if_pos hmn] at hf; exact hf
      · exfalso
        have hms : m < ops.size := by omega
        have : m ∈ Region.ready .any ops listed := by
          rw [mem_ready]
          obtain ⟨o, ho⟩ : ∃ o, ops[m]? = some o := ⟨ops[m], Array.getElem?_eq_getElem hms⟩
          refine ⟨?_, o, ho, fun e he hb => ?_⟩
          · cases hx : listed.getD m true
            · rfl
            · have := hLm m ((hL m hms).1 hx); omega
          · have hlt := ((hspec m o ho).2.1 e he).1 hb
            have := (hL e.on (by omega)).2 (hcov e.on hlt)
            have hin : e.on < listed.size := by rw [hsz]; omega
            simpa [Array.getD, hin] using this
        rw [hr] at this
        simp at this
    · obtain ⟨h0, o, ho, hdep⟩ := mem_ready.1 hi
      have his : i < ops.size := (Array.getElem?_eq_some_iff.1 ho).1
      have hiL : i ∉ L := fun h => by rw [(hL i his).2 h] at h0; cases h0
      have hdepL : ∀ e ∈ o.after, Region.binds .any e = true → e.on ∈ L := fun e he hb => by
        have h1 := hdep e he hb
        have hlt := ((hspec i o ho).2.1 e he).1 hb
        have hin : e.on < listed.size := by rw [hsz]; omega
        exact (hL e.on (by omega)).1 (by simpa [Array.getD, hin] using h1)
      have hlist : ∀ j, j < ops.size → ((listed.setIfInBounds i true).getD j true = true ↔ j ∈ L ++ [i]) := fun j hj => by
        by_cases hij : i = j
        · subst hij; simp [hsz, his]
        · rw [getD_set_ne true hij, hL j hj]; simp; intro e; exact absurd e.symm hij
      by_cases him : i < m
      · -- one of the operations that make memory
        have hnc : ∀ j ∈ L, comesAfter ops m j i = false := fun j hj => by
          cases hx : comesAfter ops m j i
          · rfl
          · exact absurd (comesAfter_mem hcl m j i hj hx) hiL
        have hg := hstep i o him ho L vs W hiL hnc hE (fun e he hb => hR _ (hdepL e he (((hspec i o ho).2.1 e he).2 hb)) (Or.inr ⟨i, him, hiL, by unfold looksTo; rw [ho]; exact Array.any_eq_true'.2 ⟨e, he, by simp [hb]⟩⟩)) _ (sees_acts hda a m vs)
        have hex : execOp (acts ops a vs L).eval o = execOp (acts ops a vs (List.range m)).eval o := by
          refine execOp_congr o (Region.noSelect_spec hns i o · · ho) (fun x hx => ?_)
          cases x with
          | tmp t =>
            have hlook : t ∈ o.looksAt ops := List.mem_append_left _ (List.mem_filterMap.2 ⟨.tmp t, by simpa using hx, rfl⟩)
            by_cases hex : ∃ j, j < m ∧ dstAt ops j = some t
            · obtain ⟨j, hjm, hj⟩ := hex
              obtain ⟨e, he, hb, rfl⟩ := (hspec i o ho).2.2.1 him j t hjm hj hlook
              have hjL := hdepL e he hb
              rw [acts_eval_in hda hjL hj, acts_eval_in hda (by simpa using hLm _ hjL) hj]
            · have h1 : ∀ j, j < m → dstAt ops j ≠ some t := fun j hjm hj => hex ⟨j, hjm, hj⟩
              rw [acts_eval_out (fun j hjL => h1 j (hLm j hjL)), acts_eval_out (fun j hjr => h1 j (by simpa using hjr))]
          | const v => rfl
          | global g => rfl
          | func f => rfl
        unfold wpOp
        simp only [ho]
        rw [if_pos (by unfold Region.wanted; rw [(hspec i o ho).1 him])]
        left
        refine Oper.wp_mono ?_ (hg.wp hex)
        rintro a' W' ⟨v, rfl, hEW, hE', hRv⟩
        have e1 : (acts ops a vs L).put o.dst v = acts ops a (upd vs i v) (L ++ [i]) := by
          rw [acts_snoc, acts_congr (vs := upd vs i v) (vs' := vs) (fun j hj => by unfold upd; rw [if_neg (fun e => hiL (by rw [← e]; exact hj))])]
          simp [upd, dstAt, ho]
        rw [e1]
        refine ih (L ++ [i]) (upd vs i v) W' _ (by simpa using hsz) hlist ?_ ?_ ?_ hE' ?_ ?_
        · rw [List.nodup_append]
          exact ⟨hnd, by simp, fun x hx y hy e => by simp at hy; subst hy; subst e; exact hiL hx⟩
        · intro j hj
          rcases List.mem_append.1 hj with h | h
          · exact hLm j h
          · simp at h; omega
        · have h1 : (List.range ops.size).filter (fun j => !(L ++ [i]).contains j) = ((List.range ops.size).filter (fun j => !L.contains j)).filter (fun j => j != i) := by
            rw [List.filter_filter]
            congr 1
            funext j
            simp only [List.contains_append, Bool.not_or]
            rw [Bool.and_comm]
            congr 1
            rw [Bool.eq_iff_iff]; simp [bne]
          have h2 : (((List.range ops.size).filter (fun j => !L.contains j)).filter (fun j => j != i)).length < ((List.range ops.size).filter (fun j => !L.contains j)).length := by
            rw [List.length_filter_lt_length_iff_exists]
            exact ⟨i, by simp [his, hiL], by simp⟩
          rw [h1]; omega
        · intro j hj o' ho' e he hb
          rcases List.mem_append.1 hj with h | h
          · exact List.mem_append_left _ (hcl j h o' ho' e he hb)
          · simp at h; subst h
            rw [ho] at ho'
            cases ho'
            exact List.mem_append_left _ (hdepL e he hb)
        · intro j hj hlive
          rcases List.mem_append.1 hj with h | h
          · have : upd vs i v j = vs j := by unfold upd; rw [if_neg (fun e => hiL (by rw [← e]; exact h))]
            rw [this]
            have hlive' : j ∈ Kp ∨ ∃ c, c < m ∧ c ∉ L ∧ looksTo ops c j = true := hlive.imp id (fun ⟨c, h1, h2, h3⟩ => ⟨c, h1, fun hc => h2 (List.mem_append_left _ hc), h3⟩)
            refine hRE j i _ W W' (hLm j h) him (fun e => hiL (e ▸ h)) ?_ (hR j h hlive') hEW
            unfold outlasts
            rw [Bool.and_eq_true, Bool.not_eq_true', Bool.or_eq_true]
            refine ⟨?_, ?_⟩
            · cases hx : comesAfter ops m j i
              · rfl
              · exact absurd (comesAfter_mem hcl m j i h hx) hiL
            · rcases hlive with hk | ⟨c, h1, h2, h3⟩
              · exact Or.inl (List.contains_iff_mem.2 hk)
              · refine Or.inr (List.any_eq_true.2 ⟨c, by simpa using h1, ?_⟩)
                rw [h3, Bool.and_true, Bool.and_eq_true, bne_iff_ne, Bool.not_eq_true']
                refine ⟨fun e => by subst e; exact h2 (by simp), ?_⟩
                cases hx : comesAfter ops m i c
                · rfl
                · exact absurd (List.mem_append_left _ (comesAfter_ready hcl ho hdepL m c hx)) h2
          · simp at h; subst h; simpa [upd] using hRv
      · -- the last one
        obtain rfl : i = m := by omega
        have hcov : ∀ j, j < i → j ∈ L := fun j hj => by
          obtain ⟨e, he, hb, rfl⟩ := (hspec i o ho).2.2.2 rfl j hj
          exact hdepL e he hb
        have hf := hfin L vs W hnd hLm hcov hE hR
        rw [if_neg (by omega)] at hf
        refine wpOp_mono (fun a' W' hq => ?_) hf
        refine wpAny_done ?_ hq fuel
        rw [List.eq_nil_iff_forall_not_mem]
        intro j hj
        obtain ⟨h0', o', ho', _⟩ := mem_ready.1 hj
        have hjs := (Array.getElem?_eq_some_iff.1 ho').1
        have : j ∈ L ++ [i] := by
          by_cases hji : j < i
          · exact List.mem_append_left _ (hcov j hji)
          · have : j = i := by omega
            simp [this]
        rw [(hlist j hjs).2 this] at h0'; cases h0'

/-- A region whose operations (but for the last one) only make memory, in whatever order; what holds of the world may depend on what has been done. -/
theorem wp_region_growL {id : Nat} {w : World} (hm : P.follows .mixedOrders = true) (hok : okGrow ops m = true) (hG : G [] w.drew) (hRE : ∀ i k v W W', i < m → k < m → i ≠ k → outlasts ops m Kp i k = true → R i v W → E k W W' → R i v W')
    (hstep : ∀ i o, i < m → ops[i]? = some o → ∀ L vs W, i ∉ L → (∀ j ∈ L, comesAfter ops m j i = false) → G L W → (∀ e ∈ o.after, isData e = true → R e.on (vs e.on) W) → ∀ ρ, Sees ops a m vs ρ → GivesOp P o ρ W (fun v W' => E i W W' ∧ G (L ++ [i]) W' ∧ R i v W'))
    (hend : ∀ L vs W, (∀ j, j < m → j ∈ L) → G L W → (∀ j ∈ Kp, j < m → R j (vs j) W) → if m = ops.size then Q .normal (acts ops a vs (List.range m)) W else wpOp P ops Q m (fun a w => Q .normal a w) (acts ops a vs (List.range m)) W) :
    (Code.region id ops true).wp P Q a w := by
  refine wp_region_any hm ?_
  refine wpAny_grow Kp G E R hok hRE hstep hend ops.size [] (fun _ => undef) _ _ (by simp) (fun j hj => ?_) List.nodup_nil (fun j hj => by simp at hj) ?_ hG (fun j hj => by simp at hj) (fun j hj => by simp at hj)
  · simp [hj]
  · exact Nat.le_trans (List.length_filter_le _ _) (by simp)
end
section
variable {P : Program} {ops : Array Oper} {Q : Exit → Act → World → Prop} {a : Act} {m : Nat} (Kp : List Nat) (G : World → Prop) (E : Nat → World → World → Prop) (R : Nat → Value → World → Prop)
/-- The same where what holds of the world does not depend on what has been done. -/
theorem wp_region_grow {id : Nat} {w : World} (hm : P.follows .mixedOrders = true) (hok : okGrow ops m = true) (hG : G w.drew) (hRE : ∀ i k v W W', i < m → k < m → i ≠ k → outlasts ops m Kp i k = true → R i v W → E k W W' → R i v W')
    (hstep : ∀ i o, i < m → ops[i]? = some o → ∀ vs W, G W → (∀ e ∈ o.after, isData e = true → R e.on (vs e.on) W) → ∀ ρ, Sees ops a m vs ρ → GivesOp P o ρ W (fun v W' => E i W W' ∧ G W' ∧ R i v W'))
    (hend : ∀ vs W, G W → (∀ j ∈ Kp, j < m → R j (vs j) W) → if m = ops.size then Q .normal (acts ops a vs (List.range m)) W else wpOp P ops Q m (fun a w => Q .normal a w) (acts ops a vs (List.range m)) W) :
    (Code.region id ops true).wp P Q a w :=
  wp_region_growL Kp (fun _ W => G W) E R hm hok hG hRE (fun i o hi ho _ vs W _ _ => hstep i o hi ho vs W) (fun _ vs W _ => hend vs W)
end
end Go.Proofs.YtfjlglefodndjaaGreatDoor
