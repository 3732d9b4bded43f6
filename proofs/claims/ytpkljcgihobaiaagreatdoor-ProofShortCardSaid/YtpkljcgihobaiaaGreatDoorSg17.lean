/-
  Texts of the claim, joined: Plain1, Fmt, OkTree, Fmt2, Text2, Plain2, Chk, SIdx.
-/
import Derived.Test.YtpkljcgihobaiaaGreatDoorSg16
namespace Go.Proofs.YtpkljcgihobaiaaGreatDoor
mutual
def pNodes : Ex → Bool
  | .mk op name words lo hi args => nodeB (.mk op name words lo hi args) && pNodesAll args
def pNodesAll : List Ex → Bool
  | [] => true
  | e :: r => pNodes e && pNodesAll r
end
mutual
theorem validF_spec : (e : Ex) → (d n : Int) → n ≤ 300 → d ≤ 17 → ((validF e d n).1 = true ↔ (d + e.depth ≤ 17 ∧ n + e.size ≤ 300 ∧ pNodes e = true)) ∧ ((validF e d n).1 = true → (validF e d n).2 = n + e.size)
  | .mk op name words lo hi args, d, n, hn, hd => by
    have hs : (Ex.mk op name words lo hi args).size = 1 + sizes args := by simp [Ex.size]
    have hp : (Ex.mk op name words lo hi args).depth = depths args + 1 := by simp [Ex.depth]
    rw [validF, hs, hp, pNodes]
    by_cases hc : 300 < n + 1 ∨ 16 < d ∨ nodeB (.mk op name words lo hi args) = false
    · rw [if_pos hc]
      refine ⟨⟨fun h => by simp at h, fun ⟨h1, h2, h3⟩ => ?_⟩, fun h => by simp at h⟩
      rcases hc with hc | hc | hc
      · omega
      · omega
      · rw [hc] at h3; simp at h3
    · rw [if_neg hc]
      have hnb : nodeB (.mk op name words lo hi args) = true := by
        cases hh : nodeB (.mk op name words lo hi args)
        · exact absurd (Or.inr (Or.inr hh)) hc
        · rfl
      obtain ⟨h1, h2⟩ := validsF_spec args (d + 1) (n + 1) (by omega) (by omega)
      rw [hnb, Bool.true_and]
      refine ⟨h1.trans ⟨fun ⟨a, b, c⟩ => ⟨by omega, by omega, c⟩, fun ⟨a, b, c⟩ => ⟨by omega, by omega, c⟩⟩, fun h => by have := h2 h; omega⟩
theorem validsF_spec : (l : List Ex) → (d n : Int) → n ≤ 300 → d ≤ 17 → ((validsF l d n).1 = true ↔ (d + depths l ≤ 17 ∧ n + sizes l ≤ 300 ∧ pNodesAll l = true)) ∧ ((validsF l d n).1 = true → (validsF l d n).2 = n + sizes l)
  | [], d, n, hn, hd => by simp [validsF, depths, sizes, pNodesAll]; omega
  | e :: r, d, n, hn, hd => by
    obtain ⟨h1, h2⟩ := validF_spec e d n hn hd
    rw [validsF, depths, sizes, pNodesAll]
    by_cases hv : (validF e d n).1 = true
    · rw [if_pos hv]
      have e2 := h2 hv
      obtain ⟨a1, a2, a3⟩ := h1.1 hv
      obtain ⟨h3, h4⟩ := validsF_spec r d (validF e d n).2 (by omega) hd
      refine ⟨h3.trans ⟨fun ⟨a, b, c⟩ => ⟨by omega, by omega, by rw [a3, c]; rfl⟩, fun ⟨a, b, c⟩ => ⟨by omega, by omega, by rw [a3] at c; simpa using c⟩⟩, fun h => by have := h4 h; omega⟩
    · rw [if_neg hv]
      refine ⟨⟨fun h => by simp at h, fun ⟨a, b, c⟩ => absurd (h1.2 ⟨by omega, by omega, ?_⟩) hv⟩, fun h => by simp at h⟩
      rw [Bool.and_eq_true] at c; exact c.1
end
theorem nodeB_ref (e : Ex) (h : e.args.length ≤ 300) : nodeB e = refNodeB e := by
  obtain ⟨op, name, words, lo, hi, args⟩ := e
  simp only [nodeB, refNodeB, refNode, Ex.op, Ex.name, Ex.words, Ex.lo, Ex.hi, Ex.args, wordsB] at *
  by_cases h1 : 1 ≤ op ∧ op ≤ 8
  · have hk : op = 1 ∨ op = 2 ∨ op = 3 ∨ op = 4 ∨ op = 5 ∨ op = 6 ∨ op = 7 ∨ op = 8 := by omega
    have hw : words.isEmpty = decide (words.length = 0) := by cases words <;> simp
    have hw2 : (words.length != 0) = decide (1 ≤ words.length) := by cases words <;> simp
    rw [hw, hw2]
    rcases hk with rfl | rfl | rfl | rfl | rfl | rfl | rfl | rfl
    all_goals
      simp only [show ((1 : Int).toNat) = 1 from rfl, show ((2 : Int).toNat) = 2 from rfl, show ((3 : Int).toNat) = 3 from rfl, show ((4 : Int).toNat) = 4 from rfl, show ((5 : Int).toNat) = 5 from rfl, show ((6 : Int).toNat) = 6 from rfl, show ((7 : Int).toNat) = 7 from rfl, show ((8 : Int).toNat) = 8 from rfl, opLeast, opMost, opNamed]
      rw [Bool.eq_iff_iff]
      simp
      try grind
  · simp [h1]
mutual
theorem pNodes_ref : (e : Ex) → e.size ≤ 300 → pNodes e = nodesB e
  | .mk op name words lo hi args, h => by
    have hs : (Ex.mk op name words lo hi args).size = 1 + sizes args := by simp [Ex.size]
    have hl := length_le_sizes args
    rw [pNodes, nodesB, nodeB_ref _ (by simp only [Ex.args]; omega), pNodesAll_ref args (by omega)]
theorem pNodesAll_ref : (l : List Ex) → sizes l ≤ 300 → pNodesAll l = nodesAll l
  | [], _ => by simp [pNodesAll, nodesAll]
  | e :: r, h => by
    rw [sizes] at h
    rw [pNodesAll, nodesAll, pNodes_ref e (by omega), pNodesAll_ref r (by omega)]
end
theorem validB_ref (e : Ex) : validB e = refExprB e := by
  unfold validB refExprB
  have h := (validF_spec e 1 0 (by omega) (by omega)).1
  have e1 : refSize e ≤ 300 ↔ e.size ≤ 300 := by unfold refSize; omega
  rw [Bool.eq_iff_iff, h, Bool.and_eq_true, Bool.and_eq_true]
  constructor
  · rintro ⟨a, b, c⟩
    refine ⟨⟨?_, ?_⟩, by rw [← pNodes_ref e (by omega)]; exact c⟩
    · rw [decide_eq_false (by omega)]; rfl
    · rw [decide_eq_true_eq, e1]; omega
  · rintro ⟨⟨a, b⟩, c⟩
    have a2 : ¬ 16 < e.depth := fun h => by rw [decide_eq_true h] at a; cases a
    have b2 := e1.1 (of_decide_eq_true b)
    exact ⟨by omega, by omega, by rw [pNodes_ref e (by omega)]; exact c⟩
def nameT (s : ByteArray) : Tok := ⟨1, s, 0, 0⟩
def markT (c : UInt8) : Tok := ⟨4, ⟨#[c]⟩, 0, 0⟩
def numT (n : Int) : Tok := ⟨2, ⟨#[]⟩, n, 0⟩
def wTo : ByteArray := ⟨#[116, 111]⟩
def listedT : List ByteArray → List Tok
  | [] => []
  | [s] => [nameT s]
  | s :: r => nameT s :: markT 44 :: listedT r
def paren (op aop : Int) : Bool := aop == 8 || (aop == 7 && op != 8)
mutual
def tokE : Ex → List Tok
  | .mk op name words lo hi args =>
    if op = 1 then [nameT wTrue] else if op = 2 then [nameT wFalse] else if op = 3 then [nameT name] else
    if op = 4 then [nameT name, nameT wIn, markT 40] ++ listedT words ++ [markT 41] else
    if op = 5 then [nameT name, nameT wFrom, numT lo, nameT wTo, numT hi] else
    (if op = 6 then [nameT wNot] else []) ++ tokArgs op args
def tokArgs (op : Int) : List Ex → List Tok
  | [] => []
  | a :: r => (if paren op a.op then [markT 40] ++ tokE a ++ [markT 41] else tokE a) ++ tokMore op r
def tokMore (op : Int) : List Ex → List Tok
  | [] => []
  | a :: r => [nameT (if op = 7 then wAnd else wOr)] ++ (if paren op a.op then [markT 40] ++ tokE a ++ [markT 41] else tokE a) ++ tokMore op r
end
def okNode (e : Ex) : Prop :=
  (e.op = 1 ∧ e.name = ⟨#[]⟩ ∧ e.words = [] ∧ e.lo = 0 ∧ e.hi = 0 ∧ e.args = []) ∨ (e.op = 2 ∧ e.name = ⟨#[]⟩ ∧ e.words = [] ∧ e.lo = 0 ∧ e.hi = 0 ∧ e.args = []) ∨
  (e.op = 3 ∧ nameB e.name = true ∧ e.words = [] ∧ e.lo = 0 ∧ e.hi = 0 ∧ e.args = []) ∨ (e.op = 4 ∧ nameB e.name = true ∧ wordsB e.words = true ∧ e.lo = 0 ∧ e.hi = 0 ∧ e.args = []) ∨
  (e.op = 5 ∧ nameB e.name = true ∧ e.words = [] ∧ numberB e.lo = true ∧ numberB e.hi = true ∧ e.lo ≤ e.hi ∧ e.args = []) ∨
  (e.op = 6 ∧ e.name = ⟨#[]⟩ ∧ e.words = [] ∧ e.lo = 0 ∧ e.hi = 0 ∧ e.args.length = 1) ∨
  ((e.op = 7 ∨ e.op = 8) ∧ e.name = ⟨#[]⟩ ∧ e.words = [] ∧ e.lo = 0 ∧ e.hi = 0 ∧ 2 ≤ e.args.length)
mutual
def okTree : Ex → Prop
  | .mk op name words lo hi args => okNode (.mk op name words lo hi args) ∧ okTrees args
def okTrees : List Ex → Prop
  | [] => True
  | e :: r => okTree e ∧ okTrees r
end
theorem refNode_ok (e : Ex) : refNodeB e = true ↔ okNode e := by
  obtain ⟨op, name, words, lo, hi, args⟩ := e
  have hw : words = [] ↔ words.length = 0 := by cases words <;> simp
  have ha : args = [] ↔ args.length = 0 := by cases args <;> simp
  have hnm : name = ⟨#[]⟩ ↔ name.toList.isEmpty = true := by
    rw [List.isEmpty_iff, ByteArray.toList_eq]
    constructor
    · rintro rfl; rfl
    · intro h
      apply ByteArray.ext
      simpa using h
  simp only [refNodeB, refNode, okNode, Ex.op, Ex.name, Ex.words, Ex.lo, Ex.hi, Ex.args, wordsB, hw, ha, hnm]
  by_cases h1 : 1 ≤ op ∧ op ≤ 8
  · have hk : op = 1 ∨ op = 2 ∨ op = 3 ∨ op = 4 ∨ op = 5 ∨ op = 6 ∨ op = 7 ∨ op = 8 := by omega
    rcases hk with rfl | rfl | rfl | rfl | rfl | rfl | rfl | rfl
    all_goals
      simp
      try grind
  · simp [h1]
    omega
mutual
theorem nodes_ok : (e : Ex) → (nodesB e = true ↔ okTree e)
  | .mk op name words lo hi args => by
    rw [nodesB, okTree, Bool.and_eq_true, refNode_ok, nodesAll_ok args]
theorem nodesAll_ok : (l : List Ex) → (nodesAll l = true ↔ okTrees l)
  | [] => by simp [nodesAll, okTrees]
  | e :: r => by rw [nodesAll, okTrees, Bool.and_eq_true, nodes_ok e, nodesAll_ok r]
end
theorem okTrees_mem {l : List Ex} (h : okTrees l) : ∀ x ∈ l, okTree x := by
  induction l with
  | nil => intro x hx; simp at hx
  | cons e r ih =>
    unfold okTrees at h
    intro x hx
    rcases List.mem_cons.1 hx with rfl | hx
    · exact h.1
    · exact ih h.2 x hx
def zp (t : Tok) : Tok := ⟨t.kind, t.text, t.num, 0⟩
theorem okTree_parts {e : Ex} (h : okTree e) : okNode e ∧ ∀ x ∈ e.args, okTree x := by
  cases e; unfold okTree at h; exact ⟨h.1, okTrees_mem h.2⟩
theorem okTree_mk {e : Ex} (h1 : okNode e) (h2 : ∀ x ∈ e.args, okTree x) : okTree e := by
  cases e with
  | mk op name words lo hi args =>
    unfold okTree
    refine ⟨h1, ?_⟩
    simp only [Ex.args] at h2
    clear h1
    induction args with
    | nil => unfold okTrees; trivial
    | cons a r ih => unfold okTrees; exact ⟨h2 a (by simp), ih (fun x hx => h2 x (List.mem_cons_of_mem _ hx))⟩
def okAttr2 (a : Attr) : Bool := nameB a.name && decide (a.name.size ≤ 7) && (a.kind != 1 || (decide (a.words.length ≤ 4) && a.words.all fun x => nameB x && decide (x.size ≤ 5))) && (a.kind != 2 || (decide (-1000000000 ≤ a.lo) && decide (a.hi ≤ 1000000000)))
theorem schemas_ok2 : (schemas.all fun l => l.all okAttr2) = true := by decide +kernel
theorem firstI_none {f : Nat → Int} : (n : Nat) → (firstI f n).2 = 0 → ∀ j, j < n → f j = 0
  | 0, _, j, hj => by omega
  | n + 1, h, j, hj => by
    rw [firstI] at h
    by_cases h1 : (firstI f n).2 ≠ 0
    · rw [if_pos h1] at h; exact absurd h h1
    · rw [if_neg h1] at h
      have h1' : (firstI f n).2 = 0 := by simpa using h1
      by_cases h2 : f n ≠ 0
      · rw [if_pos h2] at h; exact absurd h h2
      · rcases Nat.lt_succ_iff_lt_or_eq.1 hj with h3 | h3
        · exact firstI_none n h1' j h3
        · subst h3; simpa using h2
structure Chk (s : List Attr) (l : List Cla) : Prop where
  sch : schemaErr s = 0
  len : l.length ≤ 100
  good : ∀ c ∈ l, okTree c.cond ∧ nodesErr s l c.cond = 0 ∧ refExprB c.cond = true ∧ nameB c.name = true ∧ attrAt s c.name = none
  uniq : ∀ i j, i < l.length → j < i → (l.getD j cla0).name ≠ (l.getD i cla0).name
  exp : ∀ c ∈ l, expanded l c.cond ≤ 2000
theorem getD_clK {l : List Cla} {i : Nat} (h : i < l.length) : l.getD i cla0 = l[i] := by simp [h]
theorem findAt_le {l : List Cla} {x : ByteArray} {j : Nat} (hj : j < l.length) (h : (l.getD j cla0).name = x) : (findAt l x).getD 0 ≤ j := by
  unfold findAt
  cases hf : l.findIdx? (fun c => decide (c.name = x)) with
  | none =>
    rw [List.findIdx?_eq_none_iff] at hf
    have := hf _ (List.getElem_mem hj)
    rw [getD_clK hj] at h
    simp [h] at this
  | some k =>
    rw [List.findIdx?_eq_some_iff_getElem] at hf
    obtain ⟨hk, _, h2⟩ := hf
    simp only [Option.getD_some]
    rcases Nat.lt_or_ge j k with h3 | h3
    · have := h2 j h3
      rw [getD_clK hj] at h
      simp [h] at this
    · exact h3
theorem chk_of {s : List Attr} {l : List Cla} (h : (clausesErr s l).2 = 0) : Chk s l := by
  unfold clausesErr at h
  by_cases h1 : schemaErr s ≠ 0
  · rw [if_pos h1] at h; exact absurd h h1
  rw [if_neg h1] at h
  by_cases h2 : 100 < l.length
  · rw [if_pos h2] at h; simp at h
  rw [if_neg h2] at h
  by_cases h3 : (firstI (claErr s l) l.length).2 ≠ 0
  · rw [if_pos h3] at h; exact absurd h h3
  rw [if_neg h3] at h
  by_cases h4 : ¬ Sorts (l.map Cla.dfn)
  · rw [if_pos h4] at h; simp at h
  rw [if_neg h4] at h
  have hc := firstI_none l.length (by simpa using h3)
  have hg := firstI_none l.length h
  have hcl : ∀ i, i < l.length → clauseB (l.getD i cla0) = true ∧ i ≤ (findAt l (l.getD i cla0).name).getD 0 ∧ attrAt s (l.getD i cla0).name = none ∧ nodesErr s l (l.getD i cla0).cond = 0 := by
    intro i hi
    have := hc i hi
    unfold claErr at this
    by_cases g1 : clauseB (l.getD i cla0) = false
    · rw [if_pos g1] at this; cases this
    rw [if_neg g1] at this
    by_cases g2 : (findAt l (l.getD i cla0).name).getD 0 < i
    · rw [if_pos g2] at this; cases this
    rw [if_neg g2] at this
    by_cases g3 : (attrAt s (l.getD i cla0).name).isSome
    · rw [if_pos g3] at this; cases this
    rw [if_neg g3] at this
    by_cases g4 : nodesErr s l (l.getD i cla0).cond ≠ 0
    · rw [if_pos g4] at this; exact absurd this g4
    exact ⟨by simpa using g1, by omega, by simpa using g3, by simpa using g4⟩
  refine ⟨by simpa using h1, by omega, fun c hm => ?_, fun i j hi hj e => ?_, fun c hm => ?_⟩
  · obtain ⟨i, hi, rfl⟩ := List.getElem_of_mem hm
    obtain ⟨q1, _, q3, q4⟩ := hcl i hi
    rw [getD_clK hi] at q1 q3 q4
    simp only [clauseB, Bool.and_eq_true] at q1
    obtain ⟨⟨⟨⟨_, q5⟩, q6⟩, _⟩, _⟩ := q1
    refine ⟨?_, q4, q6, q5, q3⟩
    rw [refExprB, Bool.and_eq_true, Bool.and_eq_true] at q6
    exact (nodes_ok _).1 q6.2
  · obtain ⟨_, q2, _, _⟩ := hcl i hi
    have := findAt_le (l := l) (x := (l.getD i cla0).name) (j := j) (by omega) e
    omega
  · obtain ⟨i, hi, rfl⟩ := List.getElem_of_mem hm
    have := hg i hi
    unfold claLarge at this
    rw [getD_clK hi] at this
    by_cases g : 2000 < expanded l l[i].cond ∨ backsLarge l l[i].unl = true
    · rw [if_pos g] at this; cases this
    · simp only [not_or] at g; omega
theorem attrAt_at {s : List Attr} {x : ByteArray} {i : Nat} (h : attrAt s x = some i) : i < s.length ∧ (s.getD i attr0).name = x := by
  unfold attrAt at h
  rw [List.findIdx?_eq_some_iff_getElem] at h
  obtain ⟨hi, h1, _⟩ := h
  exact ⟨hi, by simpa [hi] using h1⟩
theorem defAt_atK {l : List Cla} {x : ByteArray} {d : Nat} (h : defAt l x = some d) : d < l.length ∧ (l.getD d cla0).kind = 1 ∧ (l.getD d cla0).name = x := by
  unfold defAt at h
  rw [List.findIdx?_eq_some_iff_getElem] at h
  obtain ⟨hi, h1, _⟩ := h
  simp only [Bool.and_eq_true, beq_iff_eq, decide_eq_true_eq] at h1
  rw [getD_clK hi]
  exact ⟨hi, h1.1, h1.2⟩
theorem Chk.apart {s : List Attr} {l : List Cla} (h : Chk s l) {x : ByteArray} {d : Nat} (hd : defAt l x = some d) : attrAt s x = none := by
  obtain ⟨h1, _, h3⟩ := defAt_atK hd
  rw [getD_clK h1] at h3
  rw [← h3]
  exact (h.good _ (List.getElem_mem h1)).2.2.2.2
theorem Chk.cond {s : List Attr} {l : List Cla} (h : Chk s l) {d : Nat} (hd : d < l.length) : okTree (l.getD d cla0).cond ∧ nodesErr s l (l.getD d cla0).cond = 0 ∧ (l.getD d cla0).cond.size ≤ 300 := by
  rw [getD_clK hd]
  obtain ⟨q1, q2, q3, _, _⟩ := h.good _ (List.getElem_mem hd)
  refine ⟨q1, q2, ?_⟩
  rw [refExprB, Bool.and_eq_true, Bool.and_eq_true] at q3
  have := q3.1.2
  simp only [decide_eq_true_eq] at this
  unfold refSize at this
  omega
theorem schema_attrs {s : List Attr} (h : schemaErr s = 0) : 1 ≤ s.length ∧ s.length ≤ 6 ∧ ∀ i (hi : i < s.length), attrErr s[i] = 0 ∧ nameB s[i].name = true := by
  unfold schemaErr at h
  by_cases h1 : s.length = 0
  · rw [if_pos h1] at h; cases h
  rw [if_neg h1] at h
  by_cases h2 : 6 < s.length
  · rw [if_pos h2] at h; cases h
  rw [if_neg h2] at h
  refine ⟨by omega, by omega, fun i hi => ?_⟩
  have := firstI_none s.length h i hi
  unfold attrIErr at this
  have e1 : s.getD i attr0 = s[i] := by simp [hi]
  rw [e1] at this
  by_cases g1 : nameB s[i].name = false
  · rw [if_pos g1] at this; cases this
  rw [if_neg g1] at this
  by_cases g2 : (s.take i).any (fun b => decide (b.name = s[i].name)) = true
  · rw [if_pos g2] at this; cases this
  rw [if_neg g2] at this
  exact ⟨this, by simpa using g1⟩
theorem attr_dom {a : Attr} (h : attrErr a = 0) : (domB a).1 ≤ (domB a).2 ∧ -1000000000 ≤ (domB a).1 ∧ (domB a).2 ≤ 1000000000 ∧ (a.kind = 1 ∨ a.kind = 2 ∨ a.kind = 3) ∧ (a.kind = 1 → 1 ≤ a.words.length ∧ a.words.length ≤ 12) := by
  unfold attrErr at h
  unfold domB
  by_cases h1 : a.kind = 1
  · rw [if_pos h1] at h ⊢
    by_cases g1 : a.lo ≠ 0 ∨ a.hi ≠ 0
    · rw [if_pos g1] at h; cases h
    rw [if_neg g1] at h
    by_cases g2 : a.words.length = 0
    · rw [if_pos g2] at h; cases h
    rw [if_neg g2] at h
    by_cases g3 : 12 < a.words.length
    · rw [if_pos g3] at h; cases h
    exact ⟨by simp only; omega, by simp only; omega, by simp only; omega, Or.inl h1, fun _ => ⟨by omega, by omega⟩⟩
  rw [if_neg h1] at h ⊢
  by_cases h2 : a.kind = 2
  · rw [if_pos h2] at h ⊢
    by_cases g1 : 0 < a.words.length
    · rw [if_pos g1] at h; cases h
    rw [if_neg g1] at h
    by_cases g2 : a.hi < a.lo ∨ farB a.lo = true ∨ farB a.hi = true
    · rw [if_pos g2] at h; cases h
    simp only [not_or, farB, numberB, Bool.not_eq_true', decide_eq_false_iff_not, Decidable.not_not] at g2
    exact ⟨by simp only; omega, by simp only; omega, by simp only; omega, Or.inr (Or.inl h2), fun e => absurd e h1⟩
  rw [if_neg h2] at h ⊢
  by_cases h3 : a.kind = 3
  · exact ⟨by decide, by decide, by decide, Or.inr (Or.inr h3), fun e => absurd e h1⟩
  · rw [if_neg h3] at h; cases h
theorem nameB_le {x : ByteArray} (h : nameB x = true) : x.size ≤ 16 := by
  simp only [nameB, wordB, Bool.and_eq_true, decide_eq_true_eq] at h
  exact h.1.1.1.1.2
theorem expL_mem {D : ByteArray → Option Nat} : (l : List Ex) → (k : Nat) → (hk : k < l.length) → expE D l[k] ≤ expL D l
  | [], k, hk => by simp at hk
  | e :: r, 0, _ => by simp [expL]
  | e :: r, k + 1, hk => by
    have := expL_mem (D := D) r k (by simpa using hk)
    simp only [expL, List.getElem_cons_succ]
    omega
theorem expE_arg {D : ByteArray → Option Nat} {e : Ex} (h : expE D e ≤ 2000) (k : Nat) (hk : k < e.args.length) : expE D e.args[k] ≤ 2000 := by
  rw [expE_eq] at h
  have := expL_mem (D := D) e.args k hk
  omega
theorem expE_hd {D : ByteArray → Option Nat} {e : Ex} (h : expE D e ≤ 2000) (h3 : e.op = 3) {n : Nat} (hn : D e.name = some n) : n ≤ 2000 := by
  rw [expE_eq, if_pos h3, hn] at h
  simp only [Option.getD_some] at h
  omega
theorem nodesL_at {s : List Attr} {l : List Cla} : (r : List Ex) → nodesErrL s l r = 0 → ∀ k (hk : k < r.length), nodesErr s l r[k] = 0
  | [], _, k, hk => by simp at hk
  | e :: r, h, k, hk => by
    rw [nodesErrL] at h
    by_cases h1 : nodesErr s l e ≠ 0
    · rw [if_pos h1] at h; exact absurd h h1
    rw [if_neg h1] at h
    cases k with
    | zero => simpa using h1
    | succ k => simpa using nodesL_at r h k (by simpa using hk)
theorem nodes_parts {s : List Attr} {l : List Cla} {e : Ex} (h : nodesErr s l e = 0) : nodeErr s l e.op e.name e.words e.lo e.hi = 0 ∧ ∀ k (hk : k < e.args.length), nodesErr s l e.args[k] = 0 := by
  rw [nodesErr_eq] at h
  by_cases h1 : nodeErr s l e.op e.name e.words e.lo e.hi ≠ 0
  · rw [if_pos h1] at h; exact absurd h h1
  rw [if_neg h1] at h
  exact ⟨by simpa using h1, nodesL_at _ h⟩
theorem node_ways {s : List Attr} {l : List Cla} {e : Ex} (ht : okTree e) (h : nodesErr s l e = 0) : (e.op = 1) ∨ (e.op = 2) ∨
    (e.op = 3 ∧ ∃ i, attrAt s e.name = some i ∧ (s.getD i attr0).kind = 3) ∨ (e.op = 3 ∧ attrAt s e.name = none ∧ ∃ d, defAt l e.name = some d) ∨
    (e.op = 4 ∧ ∃ i, attrAt s e.name = some i ∧ (s.getD i attr0).kind = 1) ∨ (e.op = 5 ∧ ∃ i, attrAt s e.name = some i ∧ (s.getD i attr0).kind = 2) ∨
    (e.op = 6 ∧ e.args.length = 1) ∨ e.op = 7 ∨ e.op = 8 := by
  have h0 := (nodes_parts h).1
  rcases (okTree_parts ht).1 with ⟨h1, -⟩ | ⟨h1, -⟩ | ⟨h1, -⟩ | ⟨h1, -⟩ | ⟨h1, -⟩ | ⟨h1, -, -, -, -, h2⟩ | ⟨h1 | h1, -⟩
  · exact Or.inl h1
  · exact Or.inr (Or.inl h1)
  · unfold nodeErr at h0
    rw [if_pos h1] at h0
    cases ha : attrAt s e.name with
    | some i =>
      rw [ha] at h0
      simp only at h0
      by_cases hk : (s.getD i attr0).kind ≠ 3
      · rw [if_pos hk] at h0; cases h0
      · exact Or.inr (Or.inr (Or.inl ⟨h1, i, rfl, by simpa using hk⟩))
    | none =>
      rw [ha] at h0
      simp only at h0
      cases hd : defAt l e.name with
      | some d => exact Or.inr (Or.inr (Or.inr (Or.inl ⟨h1, rfl, d, rfl⟩)))
      | none => rw [hd] at h0; simp at h0
  · unfold nodeErr at h0
    rw [if_neg (by omega), if_pos h1] at h0
    cases ha : attrAt s e.name with
    | some i =>
      rw [ha] at h0
      simp only at h0
      by_cases hk : (s.getD i attr0).kind ≠ 1
      · rw [if_pos hk] at h0; cases h0
      · exact Or.inr (Or.inr (Or.inr (Or.inr (Or.inl ⟨h1, i, rfl, by simpa using hk⟩))))
    | none => rw [ha] at h0; cases h0
  · unfold nodeErr at h0
    rw [if_neg (by omega), if_neg (by omega), if_pos h1] at h0
    cases ha : attrAt s e.name with
    | some i =>
      rw [ha] at h0
      simp only at h0
      by_cases hk : (s.getD i attr0).kind ≠ 2
      · rw [if_pos hk] at h0; cases h0
      · exact Or.inr (Or.inr (Or.inr (Or.inr (Or.inr (Or.inl ⟨h1, i, rfl, by simpa using hk⟩)))))
    | none => rw [ha] at h0; cases h0
  · exact Or.inr (Or.inr (Or.inr (Or.inr (Or.inr (Or.inr (Or.inl ⟨h1, h2⟩))))))
  · exact Or.inr (Or.inr (Or.inr (Or.inr (Or.inr (Or.inr (Or.inr (Or.inl h1)))))))
  · exact Or.inr (Or.inr (Or.inr (Or.inr (Or.inr (Or.inr (Or.inr (Or.inr h1)))))))
open Go.RowKit
set_option maxRecDepth 100000 in
set_option maxHeartbeats 1000000 in
theorem sIndex_calls (s : List Attr) (v : Value) (x : ByteArray) (w : World) (hs : IsSchema w s v) (hl : s.length ≤ 1000000000000000) :
    Calls Tryz.prog 79 #[v, .string x] w (GivesE (optV (attrAt s x)) w) := by
  obtain ⟨a, n, c, rfl, hn, hnc, hoa, hat⟩ := hs.parts
  have HS := Lib.hid hs
  have HN := Lib.hid hn
  have hn2 : n ≤ 1000000000000000 := by omega
  clear hs hn hat hnc hoa
  go_enter Tryz.func79, Tryz.ntmps79
  go_wp2_with fail
  go_loopw [11] (fun t wr => ∃ k : Nat, t = .int .i64 k ∧ k ≤ n ∧ (∀ j (h : j < s.length), j < k → decide (s[j].name = x) = false) ∧ Ext w wr) (fun t _ => n - (intOf t).toNat)
  case atStart => exact ⟨0, rfl, by omega, fun j _ h => by omega, (Ext.refl w).alloc _⟩
  case round =>
    obtain ⟨k, rfl, hk, hno, hx⟩ := hrel
    have HNO := Lib.hid hno
    have HX := Lib.hid hx
    clear hno hx
    by_cases hkn : k < n
    · have hks : k < s.length := by have := HN.out; omega
      obtain ⟨a', n', c', e', hx1, hx2, hx3, hat⟩ := (HS.out.ext HX.out).parts
      simp only [Value.agg.injEq, Array.mk.injEq, List.cons.injEq, Value.slice.injEq, and_true] at e'
      obtain ⟨rfl, rfl, rfl⟩ := e'
      clear hx1 hx2 hx3
      obtain ⟨b, off, rfl, aw, nw, cw, h0, h1, h2, h3, h4, h5⟩ := hat k hks
      have t1 : decide ((k : Int) < (n : Int)) = true := decide_eq_true (by omega)
      cases he : (s[k].name.toList == x.toList)
      · have HE := Lib.hid (dec_of_beq he)
        clear hat h5
        go_wp2_with fail
        go_roundw
        case rel =>
          refine ⟨k + 1, by go_num, by omega, fun j hj hjk => ?_, HX.out.alloc _⟩
          by_cases e : j = k
          · subst e; exact HE.out
          · exact HNO.out j hj (by omega)
        case measure => simp [intOf]; omega
      · have HF := Lib.hid (show attrAt s x = some k from find_hit hks (dec_of_beq he) HNO.out)
        clear hat h5
        go_wp2_with fail
        go_ret2
        exact ⟨by rw [optV, HF.out]; rfl, HX.out.alloc _⟩
    · have t1 : decide ((k : Int) < (n : Int)) = false := decide_eq_false (by omega)
      have HF := Lib.hid (show attrAt s x = none from find_miss fun j hj => HNO.out j hj (by have := HN.out; omega))
      go_wp2_with fail
      go_ret2
      exact ⟨by rw [optV, HF.out]; rfl, HX.out⟩
set_option maxRecDepth 100000 in
set_option maxHeartbeats 1000000 in
theorem sFind_calls (l : List Cla) (a : Option Addr) (n c : Nat) (x : ByteArray) (w : World) (hs : IsClas w l a n c) (hl : n ≤ 1000000000000000) :
    Calls Tryz.prog 93 #[.slice a n c, .string x] w (GivesE (optV (findAt l x)) w) := by
  have HS := Lib.hid hs
  have HN := Lib.hid hs.len
  clear hs
  go_enter Tryz.func93, Tryz.ntmps93
  go_wp2_with fail
  go_loopw [10] (fun t wr => ∃ k : Nat, t = .int .i64 k ∧ k ≤ n ∧ (∀ j (h : j < l.length), j < k → decide (l[j].name = x) = false) ∧ Ext w wr) (fun t _ => n - (intOf t).toNat)
  case atStart => exact ⟨0, rfl, by omega, fun j _ h => by omega, Ext.refl _⟩
  case round =>
    obtain ⟨k, rfl, hk, hno, hx⟩ := hrel
    have HNO := Lib.hid hno
    have HX := Lib.hid hx
    clear hno hx
    by_cases hkn : k < n
    · have hks : k < l.length := by have := HN.out; omega
      obtain ⟨b, off, v, rfl, hcla, hrow⟩ := (HS.out.ext HX.out).at hks
      obtain ⟨c0, c1, c2, c3, c4, c5, c6, c7, c8, c9⟩ := hrow.ten
      have hq2 := hcla.2.1
      rw [hq2] at c1
      have t1 : decide ((k : Int) < (n : Int)) = true := decide_eq_true (by omega)
      cases he : (l[k].name.toList == x.toList)
      · have HE := Lib.hid (dec_of_beq he)
        clear hcla hrow hq2
        go_wp2_with fail
        go_roundw
        case rel =>
          refine ⟨k + 1, by go_num, by omega, fun j hj hjk => ?_, HX.out.alloc _⟩
          by_cases e : j = k
          · subst e; exact HE.out
          · exact HNO.out j hj (by omega)
        case measure => simp [intOf]; omega
      · have HF := Lib.hid (show findAt l x = some k from find_hit hks (dec_of_beq he) HNO.out)
        clear hcla hrow hq2
        go_wp2_with fail
        go_ret2
        exact ⟨by rw [optV, HF.out]; rfl, HX.out.alloc _⟩
    · have t1 : decide ((k : Int) < (n : Int)) = false := decide_eq_false (by omega)
      have HF := Lib.hid (show findAt l x = none from find_miss fun j hj => HNO.out j hj (by have := HN.out; omega))
      go_wp2_with fail
      go_ret2
      exact ⟨by rw [optV, HF.out]; rfl, HX.out⟩
end Go.Proofs.YtpkljcgihobaiaaGreatDoor
