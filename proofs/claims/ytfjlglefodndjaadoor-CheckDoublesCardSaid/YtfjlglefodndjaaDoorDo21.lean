/-
  Texts of the claim, joined: OkTree, First, Dbl, SetRow, SIdx, SWb.
-/
import Derived.Test.YtfjlglefodndjaaDoorDo20
import Derived.Test.YtfjlglefodndjaaDoorDo19
import Derived.Test.YtfjlglefodndjaaDoorDo18
import Derived.Test.YtfjlglefodndjaaDoorDo07
import Derived.Test.YtfjlglefodndjaaDoorDo06
import Derived.Test.YtfjlglefodndjaaDoorDo10
import Derived.Test.YtfjlglefodndjaaDoorDo11
import Derived.Test.YtfjlglefodndjaaDoorDo12
namespace Go.Proofs.YtfjlglefodndjaaDoor

/-- What the reference asks of a node is what okNode says. -/
theorem refNode_ok (e : Ex) : refNodeB e = true ↔ okNode e := by
  obtain ⟨op, name, words, lo, hi, args⟩ := e
  have hw : words = [] ↔ words.length = 0 := by cases words <;> simp
  have ha : args = [] ↔ args.length = 0 := by cases args <;> simp
  have hnm : name = ⟨#[]⟩ ↔ name.toList.isEmpty = true := by
    rw [List.isEmpty_iff, ByteArray.toList_eq]
    constructor
    · rintro rfl; rfl
    · intro h
      apply ByteArray.ext
      simpa using h
  simp only [refNodeB, refNode, okNode, Ex.op, Ex.name, Ex.words, Ex.lo, Ex.hi, Ex.args, wordsB, hw, ha, hnm]
  by_cases h1 : 1 ≤ op ∧ op ≤ 8
  · have hk : op = 1 ∨ op = 2 ∨ op = 3 ∨ op = 4 ∨ op = 5 ∨ op = 6 ∨ op = 7 ∨ op = 8 := by omega
    rcases hk with rfl | rfl | rfl | rfl | rfl | rfl | rfl | rfl
    all_goals
      simp
      try grind
  · simp [h1]
    omega
mutual
theorem nodes_ok : (e : Ex) → (nodesB e = true ↔ okTree e)
  | .mk op name words lo hi args => by
    rw [nodesB, okTree, Bool.and_eq_true, refNode_ok, nodesAll_ok args]
theorem nodesAll_ok : (l : List Ex) → (nodesAll l = true ↔ okTrees l)
  | [] => by simp [nodesAll, okTrees]
  | e :: r => by rw [nodesAll, okTrees, Bool.and_eq_true, nodes_ok e, nodesAll_ok r]
end
theorem valid_ok (e : Ex) : validB e = true ↔ (okTree e ∧ e.depth ≤ 16 ∧ e.size ≤ 300) := by
  rw [validB_ref, refExprB, Bool.and_eq_true, Bool.and_eq_true, nodes_ok]
  have e1 : refSize e ≤ 300 ↔ e.size ≤ 300 := by unfold refSize; omega
  simp only [Bool.not_eq_true', decide_eq_false_iff_not, decide_eq_true_eq, e1]
  constructor
  · rintro ⟨⟨a, b⟩, c⟩; exact ⟨c, by omega, b⟩
  · rintro ⟨a, b, c⟩; exact ⟨⟨by omega, c⟩, a⟩
end Go.Proofs.YtfjlglefodndjaaDoor

namespace Go.Proofs.YtfjlglefodndjaaDoor

/-! What is made over a schema makes sense with it; the first clause alone does. -/
theorem schemas_good : (schemas.all fun s => schemaErr s == 0) = true := by decide +kernel
def attrB (s : List Attr) (a : Attr) : Bool := match attrAt s a.name with
  | some i => (s.getD i attr0).kind == a.kind && decide ((s.getD i attr0).words = a.words) && (s.getD i attr0).lo == a.lo && (s.getD i attr0).hi == a.hi
  | none => false
theorem schemas_first : (schemas.all fun s => s.all fun a => attrB s a) = true := by decide +kernel
theorem schema_good {attrs : List Attr} (hs : attrs ∈ schemas) : schemaErr attrs = 0 := by
  have := List.all_eq_true.1 schemas_good attrs hs
  simpa using this
theorem schema_attr {attrs : List Attr} (hs : attrs ∈ schemas) {a : Attr} (ha : a ∈ attrs) : ∃ i, attrAt attrs a.name = some i ∧ (attrs.getD i attr0).kind = a.kind ∧ (attrs.getD i attr0).words = a.words ∧ (attrs.getD i attr0).lo = a.lo ∧ (attrs.getD i attr0).hi = a.hi := by
  have := List.all_eq_true.1 (List.all_eq_true.1 schemas_first attrs hs) a ha
  unfold attrB at this
  cases h : attrAt attrs a.name with
  | none => rw [h] at this; cases this
  | some i =>
    rw [h] at this
    simp only [Bool.and_eq_true, beq_iff_eq, decide_eq_true_eq] at this
    exact ⟨i, rfl, this.1.1.1, this.1.1.2, this.1.2, this.2⟩
theorem schemas_caa : (schemas.all fun s => (attrAt s (lettersB ⟨#[99, 45]⟩ 0)).isNone) = true := by decide +kernel
theorem made_names {attrs : List Attr} {ns ns' : List ByteArray} (h : ∀ x ∈ ns, x ∈ ns') : (d : Nat) → (e : Ex) → MadeE attrs ns d e → MadeE attrs ns' d e
  | 0, _, h0 => h0.elim
  | d + 1, e, h0 => by
    rcases h0 with h0 | ⟨h1, h2, h3, h4, h5, h6⟩
    · refine Or.inl ⟨h0.1, ?_⟩
      rcases h0.2 with q | q | ⟨q1, q2, q3⟩ | q | q
      · exact Or.inl q
      · exact Or.inr (Or.inl q)
      · exact Or.inr (Or.inr (Or.inl ⟨q1, q2.imp (h _) id, q3⟩))
      · exact Or.inr (Or.inr (Or.inr (Or.inl q)))
      · exact Or.inr (Or.inr (Or.inr (Or.inr q)))
    · exact Or.inr ⟨h1, h2, h3, h4, h5, fun x hx => made_names h d x (h6 x hx)⟩
theorem atom_node {attrs : List Attr} (hs : attrs ∈ schemas) {names : List ByteArray} (hn : ∀ x ∈ names, nameB x = true) {e : Ex} (h : AtomOf attrs names e) : okNode e := by
  have hat : ∀ a ∈ attrs, okAttr2 a = true := fun a ha => List.all_eq_true.1 (List.all_eq_true.1 schemas_ok2 attrs hs) a ha
  obtain ⟨ha, h⟩ := h
  rcases h with ⟨h1, h2, h3, h4, h5⟩ | ⟨h1, h2, h3, h4, h5⟩ | ⟨h1, h2, h3, h4, h5⟩ | ⟨h1, ⟨a, haa, hk, hnm, hne, hnd, hin⟩, h4, h5⟩ | ⟨h1, ⟨a, haa, hk, hnm, hl1, hl2, hl3⟩, h3⟩
  · exact Or.inl ⟨h1, h2, h3, h4, h5, ha⟩
  · exact Or.inr (Or.inl ⟨h1, h2, h3, h4, h5, ha⟩)
  · have hn : nameB e.name = true := by
      rcases h2 with h2 | ⟨a, haa, _, h2⟩
      · exact hn _ h2
      · have := hat a haa
        simp only [okAttr2, Bool.and_eq_true, decide_eq_true_eq] at this
        rw [h2]; exact this.1.1.1
    exact Or.inr (Or.inr (Or.inl ⟨h1, hn, h3, h4, h5, ha⟩))
  · have hq := hat a haa
    simp only [okAttr2, hk, Bool.and_eq_true, decide_eq_true_eq, bne_self_eq_false, Bool.false_or, List.all_eq_true] at hq
    obtain ⟨⟨⟨hq1, hq2⟩, hq3, hq4⟩, _⟩ := hq
    have hlen : e.words.length ≤ 4 := Nat.le_trans (List.Nodup.length_le_of_subset hnd (fun x hx => hin x hx)) hq3
    have hl0 : e.words.length ≠ 0 := fun h => hne (List.eq_nil_of_length_eq_zero h)
    refine Or.inr (Or.inr (Or.inr (Or.inl ⟨h1, by rw [hnm]; exact hq1, ?_, h4, h5, ha⟩)))
    simp only [wordsB, Bool.and_eq_true, bne_iff_ne, decide_eq_true_eq, List.all_eq_true]
    exact ⟨⟨⟨by simpa using hl0, by omega⟩, fun x hx => (hq4 x (hin x hx)).1⟩, hnd⟩
  · have hq := hat a haa
    simp only [okAttr2, hk, Bool.and_eq_true, decide_eq_true_eq, bne_self_eq_false, Bool.false_or] at hq
    obtain ⟨⟨⟨hq1, hq2⟩, _⟩, hq3, hq4⟩ := hq
    have hlo : numberB e.lo = true := by simp [numberB]; omega
    have hhi : numberB e.hi = true := by simp [numberB]; omega
    exact Or.inr (Or.inr (Or.inr (Or.inr (Or.inl ⟨h1, by rw [hnm]; exact hq1, h3, hlo, hhi, hl2, ha⟩))))
theorem depths_of {k : Nat} : (l : List Ex) → (∀ x ∈ l, x.depth ≤ k) → depths l ≤ k
  | [], _ => by simp [depths]
  | e :: r, h => by
    have h1 := h e (by simp)
    have h2 := depths_of r fun x hx => h x (by simp [hx])
    simp only [depths]; omega
theorem made_tree {attrs : List Attr} (hs : attrs ∈ schemas) {names : List ByteArray} (hn : ∀ x ∈ names, nameB x = true) : (d : Nat) → (e : Ex) → MadeE attrs names d e → okTree e ∧ e.depth ≤ d
  | 0, _, h => h.elim
  | d + 1, e, h => by
    rcases h with h | ⟨hl, h1, h2, h3, h4, h⟩
    · refine ⟨okTree_mk (atom_node hs hn h) fun x hx => (by rw [h.1] at hx; cases hx), ?_⟩
      rw [Ex.depth_eq, h.1]; simp [depths]
    · have ih := fun x hx => made_tree hs hn d x (h x hx)
      refine ⟨okTree_mk ?_ fun x hx => (ih x hx).1, ?_⟩
      · rcases hl with ⟨h5, h6⟩ | ⟨h5, h6, _⟩
        · exact Or.inr (Or.inr (Or.inr (Or.inr (Or.inr (Or.inl ⟨h5, h1, h2, h3, h4, h6⟩)))))
        · exact Or.inr (Or.inr (Or.inr (Or.inr (Or.inr (Or.inr ⟨h5, h1, h2, h3, h4, h6⟩)))))
      · rw [Ex.depth_eq]
        have := depths_of _ fun x hx => (ih x hx).2
        omega
theorem refExprB_ok {e : Ex} (h1 : okTree e) (h2 : e.depth ≤ 16) (h3 : e.size ≤ 300) : refExprB e = true := by
  rw [refExprB, Bool.and_eq_true, Bool.and_eq_true, nodes_ok]
  have e1 : refSize e ≤ 300 := by unfold refSize; omega
  exact ⟨⟨by simpa using h2, by simpa using e1⟩, h1⟩
theorem nameB_size {x : ByteArray} (h : nameB x = true) : x.size ≤ 16 := by
  simp only [nameB, wordB, Bool.and_eq_true, decide_eq_true_eq] at h
  exact h.1.1.1.1.2
theorem made_ref {attrs : List Attr} (hs : attrs ∈ schemas) {names : List ByteArray} (hn : ∀ x ∈ names, nameB x = true) {d : Nat} {e : Ex} (h : MadeE attrs names d e) (hd : d ≤ 5) : refExprB e = true := by
  have h1 := made_tree hs hn d e h
  have h2 := made_okay hs (fun x hx => by have := nameB_size (hn x hx); omega) d e h
  have hb : bndS d ≤ 121 := by
    have : d = 0 ∨ d = 1 ∨ d = 2 ∨ d = 3 ∨ d = 4 ∨ d = 5 := by omega
    rcases this with rfl | rfl | rfl | rfl | rfl | rfl <;> decide
  exact refExprB_ok h1.1 (by omega) (by have := h2.size; omega)
theorem made_nodes {attrs : List Attr} (hs : attrs ∈ schemas) {l : List Cla} {names : List ByteArray} (hn : ∀ x ∈ names, attrAt attrs x = none ∧ (defAt l x).isSome = true) : (d : Nat) → (e : Ex) → MadeE attrs names d e → nodesErr attrs l e = 0
  | 0, _, h => h.elim
  | d + 1, e, h => by
    rw [nodesErr_eq]
    rcases h with h | ⟨hl, h1, h2, h3, h4, h⟩
    · obtain ⟨ha, h⟩ := h
      have h0 : nodeErr attrs l e.op e.name e.words e.lo e.hi = 0 := by
        rcases h with ⟨h1, h2, h3, h4, h5⟩ | ⟨h1, h2, h3, h4, h5⟩ | ⟨h1, h2, h3, h4, h5⟩ | ⟨h1, ⟨a, haa, hk, hnm, hne, hnd, hin⟩, h4, h5⟩ | ⟨h1, ⟨a, haa, hk, hnm, hl1, hl2, hl3⟩, h3⟩
        · rw [h1]; simp [nodeErr]
        · rw [h1]; simp [nodeErr]
        · rw [h1]
          rcases h2 with h2 | ⟨a, haa, hk, h2⟩
          · obtain ⟨g1, g2⟩ := hn _ h2
            simp [nodeErr, g1, g2]
          · obtain ⟨i, g1, g2, g3, g4, g5⟩ := schema_attr hs haa
            rw [h2]
            simp only [nodeErr, g1, g2, hk, if_true]
            simp
        · obtain ⟨i, g1, g2, g3, g4, g5⟩ := schema_attr hs haa
          rw [h1, hnm]
          have hall : (e.words.all fun x => (a.words).any fun y => decide (y = x)) = true := by
            rw [List.all_eq_true]
            intro x hx
            rw [List.any_eq_true]
            exact ⟨x, hin x hx, by simp⟩
          simp only [nodeErr, g1, g2, g3, hk, hall]
          simp
        · obtain ⟨i, g1, g2, g3, g4, g5⟩ := schema_attr hs haa
          rw [h1, hnm]
          simp only [nodeErr, g1, g2, g4, g5, hk]
          simp
          omega
      rw [h0, ha, nodesErrL]; simp
    · have h0 : nodeErr attrs l e.op e.name e.words e.lo e.hi = 0 := by
        unfold nodeErr
        rw [if_neg (by omega), if_neg (by omega), if_neg (by omega)]
      rw [h0, nodesErrL_zero e.args fun j hj => made_nodes hs hn d _ (h _ (List.getElem_mem hj))]
      simp
mutual
theorem expE_none : (e : Ex) → expE (fun _ => none) e ≤ e.size
  | .mk op name _ _ _ args => by
    have := expL_none args
    rw [expE, Ex.size]
    have h1 : (if op = 3 then ((none : Option Nat)).getD 1 else 1) = 1 := by split <;> rfl
    rw [h1]; omega
theorem expL_none : (l : List Ex) → expL (fun _ => none) l ≤ sizes l
  | [] => by rw [expL, sizes]; omega
  | e :: r => by
    have h1 := expE_none e
    have h2 := expL_none r
    rw [expL, sizes]; omega
end
theorem sorts_none {d : Dfn} (h : d.is = false) : Sorts [d] := by
  have hi : ∀ i, isDef [d] i = false := by
    intro i
    cases i with
    | zero => exact h
    | succ i => rfl
  exact ⟨[], by simp, fun i => by simp [hi i], fun p i hp => by simp at hp⟩
theorem exT_ref : refExprB exT = true := by decide +kernel
theorem caa_name : nameB (lettersB ⟨#[99, 45]⟩ 0) = true := by decide +kernel
/-- The first clause alone makes sense. -/
theorem first_good {attrs : List Attr} (hs : attrs ∈ schemas) {c : Cla} (h : FirstOk attrs ⟨#[99, 45]⟩ c) : clausesErr attrs [c] = (0, 0) := by
  obtain ⟨hk, hn, he, hu, ha⟩ := h
  have hd : ∀ s, defAt [c] s = none := by
    intro s
    simp [defAt, hk]
  have hr : refExprB c.cond = true := by
    rcases he with he | he
    · exact made_ref hs (fun x hx => by cases hx) he (by omega)
    · rw [he]; exact exT_ref
  have hsz : c.cond.size ≤ 300 := by
    have := hr
    rw [refExprB, Bool.and_eq_true, Bool.and_eq_true] at this
    have h2 := this.1.2
    simp only [decide_eq_true_eq] at h2
    unfold refSize at h2; omega
  have hz : nodesErr attrs [c] c.cond = 0 := by
    rcases he with he | he
    · exact made_nodes hs (fun x hx => by cases hx) 3 _ he
    · rw [he]; simp [exT, nodesErr, nodeErr, nodesErrL]
  have hg : [c].getD 0 cla0 = c := rfl
  have hb : clauseB c = true := by
    unfold clauseB
    rw [hk, hn, hr, hu, ha, caa_name]
    decide
  have hc : claErr attrs [c] 0 = 0 := by
    unfold claErr
    rw [hg, hb]
    have hf : findAt [c] c.name = some 0 := by simp [findAt]
    have hat : attrAt attrs c.name = none := by
      have := List.all_eq_true.1 schemas_caa attrs hs
      rw [hn]; simpa using this
    rw [hf, hat, hz, hu]
    simp [backsErr]
  have hx : expanded [c] c.cond ≤ 300 := by
    unfold expanded
    show expF [c] 2 c.cond ≤ 300
    rw [expF]
    have : (fun s => (defAt [c] s).map fun d => expF [c] 1 ([c].getD d cla0).cond) = fun _ => none := by
      funext s; rw [hd s]; rfl
    rw [this]
    have := expE_none c.cond
    omega
  refine cls_good (schema_good hs) (by simp) (fun j hj => ?_) ?_ fun j hj => ?_
  · obtain rfl : j = 0 := by simpa using hj
    exact hc
  · have : [c].map Cla.dfn = [c.dfn] := rfl
    rw [this]
    exact sorts_none (by simp [Cla.dfn, hk])
  · obtain rfl : j = 0 := by simpa using hj
    unfold claLarge
    rw [hg, hu, if_neg]
    rintro (h | h)
    · omega
    · simp [backsLarge] at h
theorem glok_good {attrs : List Attr} (hs : attrs ∈ schemas) {l : List Cla} (h : GLOk attrs ⟨#[99, 45]⟩ l) : clausesErr attrs l = (0, 0) := by
  rcases h.2 with ⟨c, rfl, hc⟩ | h
  · exact first_good hs hc
  · exact h
end Go.Proofs.YtfjlglefodndjaaDoor

namespace Go.Proofs.YtfjlglefodndjaaDoor

/-! The plain law of CheckDoubles. -/
def dblN : Nat → ByteArray
  | 0 => ⟨#[100]⟩
  | i + 1 => ⟨#[100, 97 + UInt8.ofNat i]⟩
def dblE : Nat → Ex
  | 0 => exTrue
  | i + 1 => .mk 8 ⟨#[]⟩ [] 0 0 [exNm (dblN i), exNm (dblN i)]
def dblC (i : Nat) : Cla := ⟨1, dblN i, dblE i, [], 0⟩
def dblL (k : Nat) : List Cla := (List.range (k + 1)).map dblC
def dblS : Nat → Nat
  | 0 => 1
  | i + 1 => min (2 * dblS i + 1) 2001
theorem dblS_le (i : Nat) : dblS i ≤ 2001 := by cases i with | zero => simp [dblS] | succ i => simp only [dblS]; omega
theorem dblL_len (k : Nat) : (dblL k).length = k + 1 := by simp [dblL]
theorem dblL_at {k i : Nat} (h : i < (dblL k).length) : (dblL k)[i] = dblC i := by simp [dblL]
theorem dbl_names : ((List.range 20).all fun i => (List.range 20).all fun j => decide (dblN i = dblN j) == decide (i = j)) = true := by decide +kernel
theorem dblN_inj {i j : Nat} (hi : i < 20) (hj : j < 20) (h : dblN i = dblN j) : i = j := by
  have := List.all_eq_true.1 (List.all_eq_true.1 dbl_names i (by simpa using hi)) j (by simpa using hj)
  rw [decide_eq_true h] at this
  simpa using this
theorem dbl_def {k i : Nat} (hk : k < 20) (hi : i ≤ k) : defAt (dblL k) (dblN i) = some i := by
  unfold defAt
  rw [List.findIdx?_eq_some_iff_getElem]
  refine ⟨by rw [dblL_len]; omega, by rw [dblL_at]; simp [dblC], fun j hj => ?_⟩
  rw [dblL_at]
  have hne : dblN j ≠ dblN i := fun h => by have := dblN_inj (by omega) (by omega) h; omega
  simp [dblC, hne]
theorem dbl_find {k i : Nat} (hk : k < 20) (hi : i ≤ k) : findAt (dblL k) (dblN i) = some i := by
  unfold findAt
  rw [List.findIdx?_eq_some_iff_getElem]
  refine ⟨by rw [dblL_len]; omega, by rw [dblL_at]; simp [dblC], fun j hj => ?_⟩
  rw [dblL_at]
  have hne : dblN j ≠ dblN i := fun h => by have := dblN_inj (by omega) (by omega) h; omega
  simp [dblC, hne]
theorem dbl_getD {k i : Nat} (hi : i ≤ k) : (dblL k).getD i cla0 = dblC i := by
  have h : i < (dblL k).length := by rw [dblL_len]; omega
  simp only [List.getD, List.getElem?_eq_getElem h, dblL_at, Option.getD_some]
theorem dbl_exp {k : Nat} (hk : k < 20) : (i : Nat) → i ≤ k → (f : Nat) → i < f → expF (dblL k) f (dblE i) = dblS i
  | 0, _, f + 1, _ => by rw [expF]; simp [dblE, exTrue, expE, expL, dblS]
  | i + 1, hi, f + 1, hf => by
    have ih := dbl_exp hk i (by omega) f (by omega)
    have hs := dblS_le i
    have h1 : expE (fun s => (defAt (dblL k) s).map fun d => expF (dblL k) f ((dblL k).getD d cla0).cond) (exNm (dblN i)) = dblS i := by
      unfold exNm
      rw [expE, if_pos rfl, dbl_def hk (by omega), Option.map_some, dbl_getD (by omega), Option.getD_some, expL]
      show min (expF (dblL k) f (dblE i) + 0) 2001 = _
      rw [ih]; omega
    rw [expF]
    show expE _ (.mk 8 ⟨#[]⟩ [] 0 0 [exNm (dblN i), exNm (dblN i)]) = _
    rw [expE, if_neg (by decide), expL, expL, expL, h1]
    simp only [dblS]
    omega
theorem dbl_expanded {k i : Nat} (hk : k < 20) (hi : i ≤ k) : expanded (dblL k) (dblE i) = dblS i := by
  unfold expanded
  exact dbl_exp hk i hi _ (by rw [dblL_len]; omega)
theorem dbl_name {k : Nat} (hk : k < 20) : expanded (dblL k) (exNm (dblN k)) = dblS k := by
  unfold expanded
  rw [expF]
  unfold exNm
  rw [expE, if_pos rfl, dbl_def hk (Nat.le_refl _), Option.map_some, dbl_getD (Nat.le_refl _), Option.getD_some, expL]
  show min (expF (dblL k) (dblL k).length (dblE k) + 0) 2001 = _
  rw [dbl_exp hk k (Nat.le_refl _) _ (by rw [dblL_len]; omega)]
  have := dblS_le k
  omega
theorem dbl_clause : ((List.range 20).all fun i => clauseB (dblC i)) = true := by decide +kernel
theorem dbl_attr : (schemas.all fun s => (List.range 20).all fun i => (attrAt s (dblN i)).isNone) = true := by decide +kernel
theorem dbl_uses : ((List.range 19).all fun i => decide ((dblC (i + 1)).dfn.uses = [dblN i])) = true := by decide +kernel
theorem dbl_noattr {attrs : List Attr} (hs : attrs ∈ schemas) {i : Nat} (hi : i < 20) : attrAt attrs (dblN i) = none := by
  have := List.all_eq_true.1 (List.all_eq_true.1 dbl_attr attrs hs) i (by simpa using hi)
  simpa using this
theorem dbl_nodes {attrs : List Attr} (hs : attrs ∈ schemas) {k : Nat} (hk : k < 20) : (i : Nat) → i ≤ k → nodesErr attrs (dblL k) (dblE i) = 0
  | 0, _ => by simp [dblE, exTrue, nodesErr, nodeErr, nodesErrL]
  | i + 1, hi => by
    have h1 : nodesErr attrs (dblL k) (exNm (dblN i)) = 0 := by
      unfold exNm
      rw [nodesErr, nodesErrL]
      have : nodeErr attrs (dblL k) 3 (dblN i) [] 0 0 = 0 := by
        unfold nodeErr
        rw [if_pos rfl, dbl_noattr hs (by omega), dbl_def hk (by omega)]
        rfl
      rw [this]; simp
    show nodesErr attrs (dblL k) (.mk 8 ⟨#[]⟩ [] 0 0 [exNm (dblN i), exNm (dblN i)]) = 0
    rw [nodesErr, nodesErrL, nodesErrL, nodesErrL, h1]
    simp [nodeErr]
theorem dbl_cla {attrs : List Attr} (hs : attrs ∈ schemas) {k i : Nat} (hk : k < 20) (hi : i ≤ k) : claErr attrs (dblL k) i = 0 := by
  have hb : clauseB (dblC i) = true := List.all_eq_true.1 dbl_clause i (by simp; omega)
  have h1 : findAt (dblL k) (dblC i).name = some i := dbl_find hk hi
  have h2 : attrAt attrs (dblC i).name = none := dbl_noattr hs (by omega)
  have h3 : nodesErr attrs (dblL k) (dblC i).cond = 0 := dbl_nodes hs hk i hi
  unfold claErr
  rw [dbl_getD hi, hb, h1, h2, h3]
  simp [dblC, backsErr]
theorem dbl_large {k i : Nat} (hk : k < 20) (hi : i ≤ k) : claLarge (dblL k) i = if 2000 < dblS i then 4 else 0 := by
  unfold claLarge
  rw [dbl_getD hi]
  show (if 2000 < expanded (dblL k) (dblE i) ∨ backsLarge (dblL k) [] = true then 4 else 0) = _
  rw [dbl_expanded hk hi, backsLarge]
  simp
theorem dbl_sorts {k : Nat} (hk : k < 20) : Sorts ((dblL k).map Cla.dfn) := by
  have hl : ((dblL k).map Cla.dfn).length = k + 1 := by simp [dblL_len]
  refine ⟨List.range (k + 1), List.nodup_range, fun i => ?_, fun p i hp s hs d hd => ?_⟩
  · rw [List.mem_range]
    by_cases hi : i < k + 1
    · rw [isDef_dfn (by rw [dblL_len]; exact hi), dblL_at]
      simp [hi, dblC]
    · have : isDef ((dblL k).map Cla.dfn) i = false := by unfold isDef; rw [List.getElem?_eq_none (by rw [hl]; omega)]
      simp [this, hi]
  · obtain ⟨hpl, rfl⟩ := List.getElem?_eq_some_iff.1 hp
    simp only [List.length_range] at hpl
    simp only [List.getElem_range] at hs hp
    unfold usesAt at hs
    rw [List.getElem?_eq_getElem (by rw [hl]; exact hpl), List.getElem_map, dblL_at] at hs
    simp only at hs
    match p, hpl, hs with
    | 0, _, hs =>
      have : (dblC 0).dfn.uses = [] := by decide +kernel
      rw [this] at hs; cases hs
    | q + 1, hpl, hs =>
      have : (dblC (q + 1)).dfn.uses = [dblN q] := by
        have := List.all_eq_true.1 dbl_uses q (by simp; omega)
        simpa using this
      rw [this] at hs
      obtain rfl : s = dblN q := by simpa using hs
      rw [firstAt_dfn, dbl_def hk (by omega)] at hd
      obtain rfl : q = d := by simpa using hd
      rw [List.mem_take_iff_getElem]
      exact ⟨q, by simp; omega, by simp⟩
theorem dblS_vals : (List.range 20).all (fun i => decide (2000 < dblS i) == decide (10 ≤ i)) = true := by decide +kernel
theorem dblS_big {i : Nat} (hi : i < 20) : 2000 < dblS i ↔ 10 ≤ i := by
  have := List.all_eq_true.1 dblS_vals i (by simpa using hi)
  simpa using this
theorem dbl_err {attrs : List Attr} (hs : attrs ∈ schemas) {k : Nat} (hk : k < 20) : clausesErr attrs (dblL k) = if 10 ≤ k then (10, 4) else (0, 0) := by
  have h0 : ∀ j, j < (dblL k).length → claErr attrs (dblL k) j = 0 := fun j hj => dbl_cla hs hk (by rw [dblL_len] at hj; omega)
  have hn : ¬ 100 < (dblL k).length := by rw [dblL_len]; omega
  by_cases h : 10 ≤ k
  · rw [if_pos h]
    refine cls_large (schema_good hs) hn h0 (dbl_sorts hk) (k := 10) (by rw [dblL_len]; omega) (fun j hj => ?_) ?_
    · rw [dbl_large hk (by omega), if_neg]
      rw [dblS_big (by omega)]; omega
    · rw [dbl_large hk (by omega), if_pos]
      rw [dblS_big (by omega)]; omega
  · rw [if_neg h]
    refine cls_good (schema_good hs) hn h0 (dbl_sorts hk) fun j hj => ?_
    rw [dblL_len] at hj
    rw [dbl_large hk (by omega), if_neg]
    rw [dblS_big (by omega)]; omega
end Go.Proofs.YtfjlglefodndjaaDoor

namespace Go.Proofs.YtfjlglefodndjaaDoor
open Go.RowKit

/-! Append of all of a slice; a row's element set anew. -/
/-- append of a slice of length 0. -/
theorem run_append_zero {P : Program} (W : World) (t ty e : TypeId) (i : TypeInfo) (ht : P.underlying t = some (.slice e)) (hi : P.info? e = some i) (b : Option Addr) (n cap : Nat) (hnc : n ≤ cap) (ax : Option Addr) (c : Nat) :
    (Builtin.append_ #[t, t] ty #[.slice b n cap, .slice ax 0 c]).run P W = .ok (.slice b n cap) W := by
  cases b <;> cases ax <;> simp [Builtin.append_, run_underlying ht, sizeOf, typeInfo, hi, Builtin.lenOf, Builtin.firstCells, hnc, storeCells, loadCells, loadCellsFrom]
/-- append of all elements of a slice that lies in memory, of none too. -/
theorem wpList_append_all {t e : TypeId} {z : Value} {size bytes : Nat} (E : ElemT t e z size bytes) {ops : Array Oper} {rest : List Oper} {o : Oper} {a : Act} {Q : Exit → Act → World → Prop} {W : World}
    (hgd : o.guard = none) (s x : Operand) (ho : o.op = .call { callee := .builtin .append, args := #[s, x], argTypes := #[t, t] }) (base : Nat) (v : Value) (n : Nat) (xs : List Value) (hs : a.eval s = v) (hown : W.ownsRow base e size v n xs)
    (ax : Option Addr) (m c : Nat) (news : List Value) (hx : a.eval x = .slice ax m c) (hl : news.length = m * size) (hnews : 0 < m → ∃ b off, ax = some ⟨b, off, none⟩ ∧ ∀ j (h : j < news.length), W.cell? ⟨b, off + j, none⟩ = some news[j]) (h1 : ∀ u ∈ news, u.oneCell' = true)
    (hn : n + m ≤ 100000000) (hb : bytes ≤ 1000) (hbase : base ≤ W.heap.size)
    (h : ∀ v' w', w'.ownsRow base e size v' (n + m) (xs ++ news) → W.grownBy w' v.ownBlock → (∀ k, v'.ownBlock = some k → v.ownBlock = some k ∨ k = W.heap.size) → wpList Tryd.prog ops Q rest (a.put o.dst v') w') : wpList Tryd.prog ops Q (o :: rest) a W := by
  obtain ⟨i, hi, hz, hsz, hby⟩ := info_parts E.info
  by_cases hm : m = 0
  · subst hm
    have hnil : news = [] := List.eq_nil_of_length_eq_zero (by simpa using hl)
    subst hnil
    obtain ⟨b, cap, rfl, hnc⟩ : ∃ b cap, v = .slice b n cap ∧ n ≤ cap := by
      rcases hown.2 with ⟨rfl, rfl⟩ | ⟨g, cap, cur, rfl, _, _, hnc, _⟩
      · exact ⟨none, 0, rfl, by omega⟩
      · exact ⟨_, cap, rfl, hnc⟩
    refine wpList_plain hgd fun K hK => ?_
    have hrun := run_append_zero (P := Tryd.prog) W t o.type e i E.ht hi b n cap hnc ax c
    unfold Oper.wp
    simp [execOp, ho, resolve, invoke, builtin, hs, hx, hrun, Result.andThen]
    refine hK _ _ (h _ _ (by simpa using hown) ⟨rfl, rfl, rfl, Nat.le_refl _, fun _ _ _ => rfl⟩ (fun k hk => Or.inl hk))
  · obtain ⟨b, off, rfl, hcell⟩ := hnews (by omega)
    refine wpList_append_lies W hgd s x t ho base e i z size bytes E.ht hi hz hsz hby E.hzs E.hsz v n xs hs hown ⟨b, off, none⟩ m c news hx hl ?_ h1 (by omega) (by simp only [maxLen]; omega) (by
      calc (n + m) * bytes ≤ 100000000 * 1000 := Nat.mul_le_mul hn hb
        _ ≤ 140737488355328 := by omega) hbase _ rfl ?_
    · intro j u hu
      obtain ⟨hj, rfl⟩ := List.getElem?_eq_some_iff.1 hu
      have : (⟨b, off, none⟩ : Addr).add j = ⟨b, off + j, none⟩ := by unfold Addr.add; split <;> simp_all
      rw [this]
      exact hcell j hj
    · intro g cap w' h2 h3 h4 _
      refine h _ w' h2 h3 fun k hk => ?_
      simp only [Value.ownBlock] at hk
      injection hk with hk
      subst hk
      exact h4
theorem sub_new {w W : World} {bd : Nat} {M N : List Nat} (h : Chg [bd] w W) (hn : ∀ y ∈ N, w.heap.size ≤ y) : Sub (mask w (bd :: M)) (mask W (bd :: (N ++ M))) := mask_sub_mask fun k hk hm => by
  simp only [List.mem_cons, not_or, List.mem_append] at hm ⊢
  exact ⟨⟨hm.1, fun h' => by have := hn k h'; omega, hm.2⟩, h.block k hk (by simpa using hm.1)⟩
theorem sub_old {w W : World} {bd : Nat} {M : List Nat} (h : Chg [bd] w W) : Sub (mask w (bd :: M)) (mask W (bd :: M)) := by
  have := sub_new (M := M) (N := []) h (by simp)
  simpa using this
/-- The cells of arguments. -/
theorem exs_list {w : World} {l : List Ex} {aa : Option Addr} (h : ExsD w l aa) : ∃ xs : List ExV, ExsR w l xs ∧ (0 < l.length → ∃ b off, aa = some ⟨b, off, none⟩ ∧ ∀ j (hj : j < (xs.flatMap ExV.cells).length), w.cell? ⟨b, off + j, none⟩ = some (xs.flatMap ExV.cells)[j]) := by
  have each : ∀ i, i < l.length → ∃ x : ExV, ∀ (hi : i < l.length), IsEx w l[i] x.val ∧ ∃ b off, aa = some ⟨b, off, none⟩ ∧ ∀ j (hj : j < 6), w.cell? ⟨b, off + i * 6 + j, none⟩ = some (x.cells[j]'(by rw [exV_len]; exact hj)) := by
    intro i hi
    obtain ⟨b, off, rfl, aw, nw, cw, aa', na, ca, h0, h1, h2, h3, h4, h5, h6⟩ := ExsD.at l _ h i hi
    refine ⟨⟨l[i].op, l[i].name, aw, nw, cw, l[i].lo, l[i].hi, aa', na, ca⟩, fun _ => ⟨h6, b, off, rfl, fun j hj => ?_⟩⟩
    have hj' : j = 0 ∨ j = 1 ∨ j = 2 ∨ j = 3 ∨ j = 4 ∨ j = 5 := by omega
    rcases hj' with rfl | rfl | rfl | rfl | rfl | rfl
    · exact h0
    · exact h1
    · exact h2
    · exact h3
    · exact h4
    · exact h5
  have lo : ∀ (n : Nat), n ≤ l.length → ∃ xs : List ExV, xs.length = n ∧ ∀ i (hi : i < xs.length) (hl : i < l.length), IsEx w l[i] xs[i].val ∧ ∃ b off, aa = some ⟨b, off, none⟩ ∧ ∀ j (hj : j < 6), w.cell? ⟨b, off + i * 6 + j, none⟩ = some (xs[i].cells[j]'(by rw [exV_len]; exact hj)) := by
    intro n
    induction n with
    | zero => intro _; exact ⟨[], rfl, fun i hi => by simp at hi⟩
    | succ n ih =>
      intro hn
      obtain ⟨xs, e1, e2⟩ := ih (by omega)
      obtain ⟨x, hx⟩ := each n (by omega)
      refine ⟨xs ++ [x], by simp [e1], fun i hi hl => ?_⟩
      by_cases hin : i < xs.length
      · simp only [List.getElem_append_left hin]; exact e2 i hin hl
      · have : i = n := by simp at hi; omega
        subst this
        simp only [List.getElem_append_right (Nat.le_of_not_lt hin), e1, Nat.sub_self, List.getElem_cons_zero]
        exact hx hl
  obtain ⟨xs, e1, e2⟩ := lo l.length (Nat.le_refl _)
  refine ⟨xs, ⟨e1.symm, fun i h1 h2 => (e2 i h2 h1).1⟩, fun hp => ?_⟩
  obtain ⟨_, b, off, rfl, _⟩ := e2 0 (by omega) hp
  refine ⟨b, off, rfl, fun j hj => ?_⟩
  have hlen := length_flatMap_of ExV.cells 6 (fun _ => rfl) xs
  have hi : j / 6 < xs.length := by omega
  obtain ⟨_, b', off', e3, hc⟩ := e2 (j / 6) hi (by omega)
  simp only [Option.some.injEq, Addr.mk.injEq, and_true] at e3
  obtain ⟨rfl, rfl⟩ := e3
  have h6 := hc (j % 6) (by omega)
  have e4 : off + j / 6 * 6 + j % 6 = off + j := by omega
  rw [e4] at h6
  rw [h6]
  have := flatMap_at ExV.cells 6 (fun _ => rfl) xs (j / 6) hi (j % 6) (by rw [exV_len]; omega)
  rw [show j / 6 * 6 + j % 6 = j by omega, List.getElem?_eq_getElem hj] at this
  exact this.symm
theorem strs_list {w : World} {l : List ByteArray} {a : Option Addr} {n c : Nat} (h : IsStrs w l a n c) : 0 < n → ∃ b off, a = some ⟨b, off, none⟩ ∧ ∀ j (hj : j < (l.map Value.string).length), w.cell? ⟨b, off + j, none⟩ = some (l.map Value.string)[j] := by
  intro hn
  obtain ⟨b, off, rfl, _⟩ := h.2.2.2 0 (by have := h.1; omega)
  refine ⟨b, off, rfl, fun j hj => ?_⟩
  obtain ⟨b', off', e, hc⟩ := h.2.2.2 j (by simpa using hj)
  simp only [Option.some.injEq, Addr.mk.injEq, and_true] at e
  obtain ⟨rfl, rfl⟩ := e
  rw [hc]; simp
theorem mask_in_sub {w W : World} {bd : Nat} {M : List Nat} (h : Chg [bd] w W) : Sub (mask w (bd :: M)) W := (sub_old h).trans (mask_sub _ _)
theorem cell_allocs (w : World) (l : List Value) (t : TypeId) : ∀ j (hj : j < l.length), (w.alloc (.cells l.toArray t)).cell? ⟨w.heap.size, 0 + j, none⟩ = some l[j] := by
  intro j hj
  rw [World.cell?_alloc_at _ _ _ _ rfl]
  simp [hj]
theorem cells_one (xs : List ExV) : ∀ u ∈ xs.flatMap ExV.cells, u.oneCell' = true := by
  intro u hu
  obtain ⟨x, _, hx⟩ := List.mem_flatMap.1 hu
  simp only [ExV.cells, List.mem_cons, List.not_mem_nil, or_false] at hx
  rcases hx with rfl | rfl | rfl | rfl | rfl | rfl <;> rfl
theorem cell_alloc0 (w : World) (v : Value) (t : TypeId) : ∀ j (hj : j < [v].length), (w.alloc (.cells #[v] t)).cell? ⟨w.heap.size, 0 + j, none⟩ = some [v][j] := by
  intro j hj
  obtain rfl : j = 0 := by simpa using hj
  rw [World.cell?_alloc_at _ _ _ _ rfl]
  rfl
theorem Chg.cell' {N : List Nat} {w w' : World} (h : Chg N w w') {p : Addr} (hn : p.block ∉ N) (hlt : p.block < w.heap.size) : w'.cell? p = w.cell? p := World.cell?_of_block (h.block _ hlt hn)
def put6at (w : World) (B o : Nat) (x : ExV) : World := (((((w.setCell ⟨B, o, none⟩ (.int .i64 x.op)).setCell ⟨B, o + 1, none⟩ (.string x.name)).setCell ⟨B, o + 2, none⟩ (.slice x.aw x.nw x.cw)).setCell ⟨B, o + 3, none⟩ (.int .i64 x.lo)).setCell ⟨B, o + 4, none⟩ (.int .i64 x.hi)).setCell ⟨B, o + 5, none⟩ (.slice x.aa x.na x.ca)
theorem put6at_chg (w : World) (B o : Nat) (x : ExV) {N : List Nat} (h : B ∈ N) : Chg N w (put6at w B o x) := by
  unfold put6at
  repeat (with_reducible (refine Chg.setCell ?_ ?_ _))
  exact Chg.refl _ _
  all_goals exact Or.inl h
theorem put6at_cell {w : World} {B o : Nat} {x : ExV} {c : Array Value} {t : TypeId} (h : w.heap[B]? = some (.cells c t (0, 0))) (hs : o + 6 ≤ c.size) (j : Nat) : (put6at w B o x).cell? ⟨B, j, none⟩ = if o ≤ j ∧ j < o + 6 then x.cells[j - o]? else c[j]? := by
  have hb : (put6at w B o x).heap[B]? = some (.cells ((((((c.setIfInBounds o (.int .i64 x.op)).setIfInBounds (o + 1) (.string x.name)).setIfInBounds (o + 2) (.slice x.aw x.nw x.cw)).setIfInBounds (o + 3) (.int .i64 x.lo)).setIfInBounds (o + 4) (.int .i64 x.hi)).setIfInBounds (o + 5) (.slice x.aa x.na x.ca)) t (0, 0)) := by
    unfold put6at
    rw [heap_setCell_same _ _ _ _ _ _ (heap_setCell_same _ _ _ _ _ _ (heap_setCell_same _ _ _ _ _ _ (heap_setCell_same _ _ _ _ _ _ (heap_setCell_same _ _ _ _ _ _ (heap_setCell_same _ _ _ _ _ _ h)))))]
  rw [blk_cell hb]
  simp only [Array.getElem?_setIfInBounds, Array.size_setIfInBounds]
  by_cases hj : o ≤ j ∧ j < o + 6
  · rw [if_pos hj]
    obtain ⟨i, rfl⟩ : ∃ i, j = o + i := ⟨j - o, by omega⟩
    rw [Nat.add_sub_cancel_left]
    have hi : i = 0 ∨ i = 1 ∨ i = 2 ∨ i = 3 ∨ i = 4 ∨ i = 5 := by omega
    rcases hi with rfl | rfl | rfl | rfl | rfl | rfl
    all_goals simp [ExV.cells]
    all_goals omega
  · rw [if_neg hj, if_neg (by omega), if_neg (by omega), if_neg (by omega), if_neg (by omega), if_neg (by omega), if_neg (by omega)]
theorem sizes_set : (l : List Ex) → (k : Nat) → (hk : k < l.length) → (y : Ex) → sizes (l.set k y) + l[k].size = sizes l + y.size
  | [], k, hk, _ => by simp at hk
  | a :: r, 0, _, y => by simp [sizes]; omega
  | a :: r, k + 1, hk, y => by
    have := sizes_set r k (by simpa using hk) y
    simp [sizes] at this ⊢; omega
theorem fitsAll_memT {l : List Ex} (h : fitsAll l) : ∀ y ∈ l, y.fits := fun y hy => by
  obtain ⟨i, hi, rfl⟩ := List.getElem_of_mem hy
  exact fitsAll_at l h i hi
theorem fewAll_memT {l : List Ex} (h : fewAll l) : ∀ y ∈ l, y.few := fun y hy => by
  obtain ⟨i, hi, rfl⟩ := List.getElem_of_mem hy
  exact fewAll_at l h i hi
end Go.Proofs.YtfjlglefodndjaaDoor

namespace Go.Proofs.YtfjlglefodndjaaDoor
open Go.RowKit

/-! The program's look-ups: schema.Index, wording.Find. -/
set_option maxRecDepth 100000 in
set_option maxHeartbeats 1000000 in
theorem sIndex_calls (s : List Attr) (v : Value) (x : ByteArray) (w : World) (hs : IsSchema w s v) (hl : s.length ≤ 1000000000000000) :
    Calls Tryd.prog 20 #[v, .string x] w (GivesE (optV (attrAt s x)) w) := by
  obtain ⟨a, n, c, rfl, hn, hnc, hoa, hat⟩ := hs.parts
  have HS := Lib.hid hs
  have HN := Lib.hid hn
  have hn2 : n ≤ 1000000000000000 := by omega
  clear hs hn hat hnc hoa
  go_enter Tryd.func20, Tryd.ntmps20
  go_wp2_with fail
  go_loopw [11] (fun t wr => ∃ k : Nat, t = .int .i64 k ∧ k ≤ n ∧ (∀ j (h : j < s.length), j < k → decide (s[j].name = x) = false) ∧ Ext w wr) (fun t _ => n - (intOf t).toNat)
  case atStart => exact ⟨0, rfl, by omega, fun j _ h => by omega, (Ext.refl w).alloc _⟩
  case round =>
    obtain ⟨k, rfl, hk, hno, hx⟩ := hrel
    have HNO := Lib.hid hno
    have HX := Lib.hid hx
    clear hno hx
    by_cases hkn : k < n
    · have hks : k < s.length := by have := HN.out; omega
      obtain ⟨a', n', c', e', hx1, hx2, hx3, hat⟩ := (HS.out.ext HX.out).parts
      simp only [Value.agg.injEq, Array.mk.injEq, List.cons.injEq, Value.slice.injEq, and_true] at e'
      obtain ⟨rfl, rfl, rfl⟩ := e'
      clear hx1 hx2 hx3
      obtain ⟨b, off, rfl, aw, nw, cw, h0, h1, h2, h3, h4, h5⟩ := hat k hks
      have t1 : decide ((k : Int) < (n : Int)) = true := decide_eq_true (by omega)
      cases he : (s[k].name.toList == x.toList)
      · have HE := Lib.hid (dec_of_beq he)
        clear hat h5
        go_wp2_with fail
        go_roundw
        case rel =>
          refine ⟨k + 1, by go_num, by omega, fun j hj hjk => ?_, HX.out.alloc _⟩
          by_cases e : j = k
          · subst e; exact HE.out
          · exact HNO.out j hj (by omega)
        case measure => simp [intOf]; omega
      · have HF := Lib.hid (show attrAt s x = some k from find_hit hks (dec_of_beq he) HNO.out)
        clear hat h5
        go_wp2_with fail
        go_ret2
        exact ⟨by rw [optV, HF.out]; rfl, HX.out.alloc _⟩
    · have t1 : decide ((k : Int) < (n : Int)) = false := decide_eq_false (by omega)
      have HF := Lib.hid (show attrAt s x = none from find_miss fun j hj => HNO.out j hj (by have := HN.out; omega))
      go_wp2_with fail
      go_ret2
      exact ⟨by rw [optV, HF.out]; rfl, HX.out⟩
set_option maxRecDepth 100000 in
set_option maxHeartbeats 1000000 in
theorem sFind_calls (l : List Cla) (a : Option Addr) (n c : Nat) (x : ByteArray) (w : World) (hs : IsClas w l a n c) (hl : n ≤ 1000000000000000) :
    Calls Tryd.prog 23 #[.slice a n c, .string x] w (GivesE (optV (findAt l x)) w) := by
  have HS := Lib.hid hs
  have HN := Lib.hid hs.len
  clear hs
  go_enter Tryd.func23, Tryd.ntmps23
  go_wp2_with fail
  go_loopw [10] (fun t wr => ∃ k : Nat, t = .int .i64 k ∧ k ≤ n ∧ (∀ j (h : j < l.length), j < k → decide (l[j].name = x) = false) ∧ Ext w wr) (fun t _ => n - (intOf t).toNat)
  case atStart => exact ⟨0, rfl, by omega, fun j _ h => by omega, Ext.refl _⟩
  case round =>
    obtain ⟨k, rfl, hk, hno, hx⟩ := hrel
    have HNO := Lib.hid hno
    have HX := Lib.hid hx
    clear hno hx
    by_cases hkn : k < n
    · have hks : k < l.length := by have := HN.out; omega
      obtain ⟨b, off, v, rfl, hcla, hrow⟩ := (HS.out.ext HX.out).at hks
      obtain ⟨c0, c1, c2, c3, c4, c5, c6, c7, c8, c9⟩ := hrow.ten
      have hq2 := hcla.2.1
      rw [hq2] at c1
      have t1 : decide ((k : Int) < (n : Int)) = true := decide_eq_true (by omega)
      cases he : (l[k].name.toList == x.toList)
      · have HE := Lib.hid (dec_of_beq he)
        clear hcla hrow hq2
        go_wp2_with fail
        go_roundw
        case rel =>
          refine ⟨k + 1, by go_num, by omega, fun j hj hjk => ?_, HX.out.alloc _⟩
          by_cases e : j = k
          · subst e; exact HE.out
          · exact HNO.out j hj (by omega)
        case measure => simp [intOf]; omega
      · have HF := Lib.hid (show findAt l x = some k from find_hit hks (dec_of_beq he) HNO.out)
        clear hcla hrow hq2
        go_wp2_with fail
        go_ret2
        exact ⟨by rw [optV, HF.out]; rfl, HX.out.alloc _⟩
    · have t1 : decide ((k : Int) < (n : Int)) = false := decide_eq_false (by omega)
      have HF := Lib.hid (show findAt l x = none from find_miss fun j hj => HNO.out j hj (by have := HN.out; omega))
      go_wp2_with fail
      go_ret2
      exact ⟨by rw [optV, HF.out]; rfl, HX.out⟩
end Go.Proofs.YtfjlglefodndjaaDoor

namespace Go.Proofs.YtfjlglefodndjaaDoor
open Go.RowKit

/-! wording.writeBacks: checks and counts. -/
theorem wbN_take_succ : (l : List Wb) → (k : Nat) → (hk : k < l.length) → wbN (l.take (k + 1)) = wbN (l.take k) + 1 + wbN l[k].unl
  | [], k, hk => by simp at hk
  | .mk n c u :: r, 0, _ => by simp [wbN, Wb.unl]
  | .mk n c u :: r, k + 1, hk => by
    have := wbN_take_succ r k (by simpa using hk)
    simp [wbN] at this ⊢
    omega
theorem wbN_take_le : (l : List Wb) → (k : Nat) → wbN (l.take k) ≤ wbN l
  | [], k => by simp [wbN]
  | .mk n c u :: r, 0 => by simp [wbN]
  | .mk n c u :: r, k + 1 => by have := wbN_take_le r k; simp [wbN]; omega
def WbQ (R : Bool) (T : Nat) (bc : Nat) (w : World) (e : Ending) (w' : World) : Prop := ∃ m : Nat, e = .returned (.bool R) ∧ w'.heap[bc]? = some (.cells #[.int .i64 ((m : Nat) : Int)] 3 (0, 0)) ∧ m ≤ 41 ∧ (R = true → m = T) ∧ Chg [bc] w w'
def WbRel (w : World) (bc d n : Nat) (l : List Wb) (nl : Nat) (t : Value) (wr : World) : Prop := ∃ k m : Nat, t = .int .i64 ((k : Nat) : Int) ∧ k ≤ nl ∧ (∀ j (h : j < l.length), j < k → itemB (17 - d) l[j] = true) ∧ m = n + wbN (l.take k) ∧ m ≤ 40 ∧ (k = 0 ∨ d ≠ 17) ∧
  wr.heap[bc]? = some (.cells #[.int .i64 ((m : Nat) : Int)] 3 (0, 0)) ∧ Chg [bc] w wr
set_option maxRecDepth 100000 in
set_option maxHeartbeats 8000000 in
theorem writeBacks_calls {w0 : World} (ho : HasOps w0) (fm : Nat) : ∀ (l : List Wb) (a : Option Addr) (nl c d n bc : Nat) (w : World), wbN l < fm → nl ≤ 1000000000000000 → wbFits l → 1 ≤ d → d ≤ 17 → n ≤ 40 → nl = l.length → WbsD (mask w [bc]) l a → Ext w0 w → w0.heap.size ≤ bc →
    w.heap[bc]? = some (.cells #[.int .i64 ((n : Nat) : Int)] 3 (0, 0)) →
    Calls Tryd.prog 57 #[.slice a nl c, .int .i64 ((d : Nat) : Int), .pointer (some ⟨bc, 0, none⟩)] w (WbQ (backsB (17 - d) l && decide (n + wbN l ≤ 40)) (n + wbN l) bc w) := by
  induction fm with
  | zero => intro l a nl c d n bc w h; omega
  | succ fm ih =>
    intro l a nl c d n bc w hfm hnl hfit hd1 hd2 hn hln hdat hx0 hbc hcell
    have HD := Lib.hid hdat
    have HN := Lib.hid hln
    have HFT := Lib.hid hfit
    have HX0 := Lib.hid hx0
    have HO := Lib.hid ho
    have IH := Lib.hid ih
    have HBC := Lib.hid hbc
    have HCELL := Lib.hid hcell
    have HQ := Lib.hid (backsB_eq (17 - d) l)
    obtain ⟨R, hR⟩ : ∃ R, R = (backsB (17 - d) l && decide (n + wbN l ≤ 40)) := ⟨_, rfl⟩
    rw [← hR]
    have HR := Lib.hid hR
    obtain ⟨T, hT⟩ : ∃ T, T = n + wbN l := ⟨_, rfl⟩
    rw [← hT]
    have HT := Lib.hid hT
    clear hdat hln hfit hx0 ih hcell hR hT ho
    go_enter Tryd.func57, Tryd.ntmps57
    go_wp2_with fail
    go_loopw [11] (WbRel w bc d n l nl) (fun t _ => nl - (intOf t).toNat)
    case atStart => exact ⟨0, n, rfl, by omega, fun j _ h => by omega, by simp [wbN], hn, Or.inl rfl, HCELL.out, Chg.refl _ _⟩
    case round =>
      obtain ⟨k, m, rfl, hk, hall, hm, hm40, hk17, hcb, hch⟩ := hrel
      have HK17 := Lib.hid hk17
      have HALL := Lib.hid hall
      have HM := Lib.hid hm
      have HCB := Lib.hid hcb
      have HCH := Lib.hid hch
      obtain ⟨cc0, ccf⟩ := blk1 hcb
      have hbcl := blk_lt hcb
      clear hall hm hcb hch hk17
      by_cases hkn : k < nl
      case neg =>
        have t1 : decide ((k : Int) < (nl : Int)) = false := decide_eq_false (by omega)
        have HE := Lib.hid (show m = T ∧ R = true by
          have h1 := HM.out
          have h2 := HN.out
          rw [List.take_of_length_le (by omega)] at h1
          refine ⟨by rw [HT.out, h1], ?_⟩
          rw [HR.out, Bool.and_eq_true]
          refine ⟨?_, by simp; omega⟩
          rw [HQ.out, Bool.and_eq_true]
          refine ⟨?_, ?_⟩
          · by_cases h0 : l.length = 0
            · simp [h0]
            · have hd17 : 17 - d ≠ 0 := by
                have := HK17.out
                omega
              simp [hd17]
          · rw [List.all_eq_true]
            intro x hx
            obtain ⟨j, hj, rfl⟩ := List.mem_iff_getElem.1 hx
            exact HALL.out j hj (by omega))
        go_wp2_with fail
        go_ret
        exact ⟨m, by rw [HE.out.2]; rfl, HCB.out, by omega, fun _ => HE.out.1, HCH.out⟩
      have hkl : k < l.length := by have := HN.out; omega
      have t1 : decide ((k : Int) < (nl : Int)) = true := decide_eq_true (by omega)
      obtain ⟨b, off, rfl, v, hv0, hrow, hv2, hv3, hv4, hv5, hv6⟩ := WbsD.at l _ (WbsD.mono HCH.out.sub _ _ HD.out) k hkl
      obtain ⟨c0, c1, c2, c3, c4, c5, c6, c7⟩ := (hrow.mono (mask_sub _ _)).eight
      obtain ⟨ho1, ho2, ho3, ho4, hou, ho5⟩ := wbFits_at l HFT.out k hkl
      have hvn : v.nu ≤ 1000000000000000 := by rw [hv3]; exact hou
      have hwn := wbN_at l k hkl
      have HU := Lib.hid hv6
      have HUN := Lib.hid hv3
      have HEX := Lib.hid hv2
      have HO2 := Lib.hid ho2
      have HO5 := Lib.hid ho5
      have HIT := Lib.hid (show itemB (17 - d) l[k] = (nameB l[k].name && refExprB l[k].cond && backsB (17 - d - 1) l[k].unl) from rfl)
      have HTS := Lib.hid (wbN_take_succ l k hkl)
      have htl := wbN_take_le l (k + 1)
      have HTL := Lib.hid htl
      have hblt := block_lt c0
      rw [hv0] at c0
      simp only at hblt
      clear hrow hv0 hv2 hv3 hv4 hv5 hv6 ho2 ho3 ho4 hou ho5 htl
      obtain ⟨wx, hwx⟩ : ∃ wx, wx = (wr.setCell ⟨bc, 0, none⟩ (.int .i64 ((m : Int) + 1))).alloc (.cells #[.string l[k].name, .int .i64 v.x.op, .string v.x.name, .slice v.x.aw v.x.nw v.x.cw, .int .i64 v.x.lo, .int .i64 v.x.hi, .slice v.x.aa v.x.na v.x.ca, .slice v.au v.nu v.cu] 104) := ⟨_, rfl⟩
      have HBX := Lib.hid (show wx.heap[wr.heap.size]? = some (.cells #[.string l[k].name, .int .i64 v.x.op, .string v.x.name, .slice v.x.aw v.x.nw v.x.cw, .int .i64 v.x.lo, .int .i64 v.x.hi, .slice v.x.aa v.x.na v.x.ca, .slice v.au v.nu v.cu] 104 (0, 0)) by
        rw [hwx]
        exact alloc_atR (by simp))
      have HCX := Lib.hid (show wx.heap[bc]? = some (.cells #[.int .i64 (((m + 1 : Nat)) : Int)] 3 (0, 0)) by
        rw [hwx]
        have := heap_setCell_same wr bc 0 _ _ (.int .i64 ((m : Int) + 1)) HCB.out
        exact blk_alloc this)
      have HHX := Lib.hid (show Chg [bc] wr wx by rw [hwx]; exact ((Chg.refl [bc] wr).setCell (Or.inl (by simp)) _).alloc _)
      go_upto_region 5 with fail
      rw [← hwx]
      have HXX := Lib.hid ((HCH.out.then HHX.out).ext HX0.out (by simpa using HBC.out))
      clear hwx cc0 ccf c0 c1 c2 c3 c4 c5 c6 c7
      obtain ⟨cc0, ccf⟩ := blk1 HCX.out
      have HFAL := Lib.hid (fun (h : itemB (17 - d) l[k] = false) => show R = false by
        rw [HR.out, HQ.out]
        have : l.all (itemB (17 - d)) = false := by
          rw [List.all_eq_false]
          exact ⟨l[k], List.getElem_mem hkl, by rw [h]; simp⟩
        rw [this]; simp)
      have HCNT := Lib.hid (fun (h : 40 < n + wbN l) => show R = false by
        rw [HR.out]
        have : decide (n + wbN l ≤ 40) = false := decide_eq_false (by omega)
        rw [this]; simp)
      by_cases h17 : d = 17
      · have t2 : decide ((16 : Int) < (d : Int)) = true := decide_eq_true (by omega)
        have HF := Lib.hid (show R = false by
          rw [HR.out, HQ.out, h17]
          have : ¬ l.length = 0 := by omega
          simp [this])
        go_wp2_with fail
        go_ret
        exact ⟨m + 1, by rw [HF.out]; rfl, HCX.out, by omega, fun h => (by rw [HF.out] at h; cases h), HCH.out.then HHX.out⟩
      have t2 : decide ((16 : Int) < (d : Int)) = false := decide_eq_false (by omega)
      by_cases h40 : 40 < m + 1
      · have t3 : decide ((40 : Int) < ((m + 1 : Nat) : Int)) = true := decide_eq_true (by omega)
        have HF := Lib.hid (HCNT.out (by have h1 := HM.out; have h2 := HTS.out; have h3 := HTL.out; omega))
        go_wp2_with fail
        go_ret
        exact ⟨m + 1, by rw [HF.out]; rfl, HCX.out, by omega, fun h => (by rw [HF.out] at h; cases h), HCH.out.then HHX.out⟩
      have t3 : decide ((40 : Int) < ((m + 1 : Nat) : Int)) = false := decide_eq_false (by omega)
      obtain ⟨c0, c1, c2, c3, c4, c5, c6, c7, cf⟩ := blk8 HBX.out
      have hltx := blk_lt HBX.out
      cases hnb : nameB l[k].name
      · have HNB := Lib.hid hnb
        have HF := Lib.hid (HFAL.out (by rw [HIT.out, hnb]; rfl))
        clear hnb
        go_wp2_with fail
        refine (name_calls _ _ ho1).mono ?_
        rintro r w1 ⟨rfl, rfl⟩
        rw [HNB.out]
        go_wp2_with fail
        go_ret
        exact ⟨m + 1, by rw [HF.out]; rfl, HCX.out, by omega, fun h => (by rw [HF.out] at h; cases h), HCH.out.then HHX.out⟩
      have HNB := Lib.hid hnb
      rw [hnb, Bool.true_and] at HIT
      clear hnb
      go_wp2_with fail
      refine (name_calls _ _ ho1).mono ?_
      rintro r w1 ⟨rfl, rfl⟩
      rw [HNB.out]
      go_wp2_with fail
      refine (Valid_calls l[k].cond _ wx (HEX.out.mono (HHX.out.sub.trans (mask_sub _ _))) (HO.out.ext HXX.out) HO2.out).mono ?_
      rintro r w2 ⟨rfl, hx2⟩
      rw [validB_ref]
      have HX2 := Lib.hid (HXX.out.trans hx2)
      have HC2 := Lib.hid (hx2.blk HCX.out)
      have HB2 := Lib.hid (hx2.blk HBX.out)
      have HCH2 := Lib.hid ((HCH.out.then HHX.out).then (hx2.chg [bc]))
      have HU2 := Lib.hid (WbsD.mono ((HHX.out.then (hx2.chg [bc])).sub) _ _ HU.out)
      clear hx2 c0 c1 c2 c3 c4 c5 c6 c7 cf cc0 ccf hltx
      obtain ⟨c0, c1, c2, c3, c4, c5, c6, c7, cf⟩ := blk8 HB2.out
      have hltx := blk_lt HB2.out
      cases hxb : refExprB l[k].cond
      · have HF := Lib.hid (HFAL.out (by rw [HIT.out, hxb]; rfl))
        go_wp2_with fail
        go_ret
        exact ⟨m + 1, by rw [HF.out]; rfl, HC2.out, by omega, fun h => (by rw [HF.out] at h; cases h), HCH2.out⟩
      rw [hxb, Bool.true_and] at HIT
      clear hxb
      have Q1 := Lib.hid (show (d : Int) + 1 = ((d + 1 : Nat) : Int) by omega)
      have HWF := Lib.hid (IH.out l[k].unl v.au v.nu v.cu (d + 1) (m + 1) bc w2 (by omega) hvn HO5.out (by omega) (by omega) (by omega) HUN.out HU2.out HX2.out HBC.out HC2.out)
      have e1 : 17 - (d + 1) = 17 - d - 1 := by omega
      rw [e1, ← HIT.out] at HWF
      clear e1
      go_wp2_with fail
      rw [Q1.out]
      refine HWF.out.mono ?_
      rintro r w3 ⟨m3, rfl, hc3, hm3, hT3, hch3⟩
      have HC3 := Lib.hid hc3
      have HT3 := Lib.hid hT3
      have HCH3 := Lib.hid (HCH2.out.then hch3)
      clear hc3 hT3 hch3 c0 c1 c2 c3 c4 c5 c6 c7 cf hltx
      cases hib : itemB (17 - d) l[k]
      · have HF := Lib.hid (HFAL.out hib)
        simp only [Bool.false_and]
        clear hib
        go_wp2_with fail
        go_ret
        exact ⟨m3, by rw [HF.out]; rfl, HC3.out, hm3, fun h => (by rw [HF.out] at h; cases h), HCH3.out⟩
      have HIB := Lib.hid hib
      rw [hib] at HT3
      clear hib
      simp only [Bool.true_and]
      by_cases hs40 : m + 1 + wbN l[k].unl ≤ 40
      case neg =>
        have t4 : decide (m + 1 + wbN l[k].unl ≤ 40) = false := decide_eq_false hs40
        rw [t4]
        have HF := Lib.hid (HCNT.out (by have h1 := HM.out; have h2 := HTS.out; have h3 := HTL.out; omega))
        clear t4
        go_wp2_with fail
        go_ret
        exact ⟨m3, by rw [HF.out]; rfl, HC3.out, hm3, fun h => (by rw [HF.out] at h; cases h), HCH3.out⟩
      have t4 : decide (m + 1 + wbN l[k].unl ≤ 40) = true := decide_eq_true hs40
      rw [t4]
      have HMM := Lib.hid (HT3.out (by rw [t4]; rfl))
      clear t4
      go_wp2_with fail
      go_roundw
      case rel =>
        refine ⟨k + 1, m3, by go_num, by omega, fun j hj hjk => ?_, ?_, ?_, ?_, HC3.out, HCH3.out⟩
        · by_cases e : j = k
          · subst e; exact HIB.out
          · exact HALL.out j hj (by omega)
        · rw [HTS.out, HMM.out, HM.out]; omega
        · rw [HMM.out]; exact hs40
        · exact Or.inr h17
      case measure => simp [intOf]; omega
end Go.Proofs.YtfjlglefodndjaaDoor
