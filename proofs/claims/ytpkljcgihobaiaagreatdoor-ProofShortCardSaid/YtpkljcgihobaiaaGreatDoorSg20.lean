/-
  Texts of the claim, joined: Term, IsPr, PrMem, GnBx, Loss, CExpr, EvalE, Conds.
-/
import Derived.Test.YtpkljcgihobaiaaGreatDoorSg19
namespace Go.Proofs.YtpkljcgihobaiaaGreatDoor
noncomputable def evalErr (s : List Attr) (l : List Cla) (e : Ex) (f : List Int) : Int :=
  if (clausesErr s l).2 ≠ 0 then (clausesErr s l).2 else if exprErr s l e ≠ 0 then exprErr s l e else if 2000 < expanded l e then 4 else if factsB s f = false then 16 else 0
structure Ok11 (s : List Attr) (l : List Cla) (e : Ex) (f : List Int) : Prop where
  cls : (clausesErr s l).2 = 0
  ref : refExprB e = true
  node : nodesErr s l e = 0
  exp : expanded l e ≤ 2000
  facts : factsAll s f = true
theorem Ok11.chk {s : List Attr} {l : List Cla} {e : Ex} {f : List Int} (h : Ok11 s l e f) : Chk s l := chk_of h.cls
theorem evalErr_ok {s : List Attr} {l : List Cla} {e : Ex} {f : List Int} (h : evalErr s l e f = 0) : Ok11 s l e f := by
  unfold evalErr at h
  by_cases h1 : (clausesErr s l).2 ≠ 0
  · rw [if_pos h1] at h; exact absurd h h1
  rw [if_neg h1] at h
  by_cases h2 : exprErr s l e ≠ 0
  · rw [if_pos h2] at h; exact absurd h h2
  rw [if_neg h2] at h
  by_cases h3 : 2000 < expanded l e
  · rw [if_pos h3] at h; cases h
  rw [if_neg h3] at h
  by_cases h4 : factsB s f = false
  · rw [if_pos h4] at h; cases h
  have h1 : (clausesErr s l).2 = 0 := by simpa using h1
  have hs := (chk_of h1).sch
  have h2 : exprErr s l e = 0 := by simpa using h2
  unfold exprErr at h2
  rw [if_neg (by simpa using hs)] at h2
  unfold exprnErr at h2
  by_cases h5 : refExprB e = false
  · rw [if_pos h5] at h2; cases h2
  rw [if_neg h5] at h2
  have h4 : factsB s f = true := by simpa using h4
  simp only [factsB, Bool.and_eq_true] at h4
  exact ⟨h1, by simpa using h5, h2, by omega, h4.2⟩
theorem Ok11.err {s : List Attr} {l : List Cla} {e : Ex} {f : List Int} (h : Ok11 s l e f) : evalErr s l e f = 0 := by
  have hs := h.chk.sch
  have h2 : exprErr s l e = 0 := by
    unfold exprErr exprnErr
    rw [if_neg (by simpa using hs), if_neg (by rw [h.ref]; simp), h.node]
  have h4 : factsB s f = true := by unfold factsB; rw [hs, h.facts]; rfl
  unfold evalErr
  rw [if_neg (by simpa using h.cls), if_neg (by simpa using h2), if_neg (by have := h.exp; omega), if_neg (by rw [h4]; simp)]
theorem Ok11.tree {s : List Attr} {l : List Cla} {e : Ex} {f : List Int} (h : Ok11 s l e f) : okTree e := by
  have := h.ref
  rw [refExprB, Bool.and_eq_true, Bool.and_eq_true] at this
  exact (nodes_ok _).1 this.2
theorem Ok11.size {s : List Attr} {l : List Cla} {e : Ex} {f : List Int} (h : Ok11 s l e f) : e.size ≤ 300 := by
  have := h.ref
  rw [refExprB, Bool.and_eq_true, Bool.and_eq_true] at this
  have := this.1.2
  simp only [decide_eq_true_eq] at this
  unfold refSize at this
  omega
structure Term (s : List Attr) (l : List Cla) (D S X : Nat) (e : Ex) : Prop where
  tree : okTree e
  depth : e.depth ≤ D
  size : e.size ≤ S
  node : nodesErr s l e = 0
  exp : expanded l e ≤ X
theorem Term.weak {s : List Attr} {l : List Cla} {D S X D' S' X' : Nat} {e : Ex} (h : Term s l D S X e) (h1 : D ≤ D') (h2 : S ≤ S') (h3 : X ≤ X') : Term s l D' S' X' e :=
  ⟨h.tree, Nat.le_trans h.depth h1, Nat.le_trans h.size h2, h.node, Nat.le_trans h.exp h3⟩
theorem expL_of {D : ByteArray → Option Nat} {k : Nat} : (l : List Ex) → (∀ x ∈ l, expE D x ≤ k) → expL D l ≤ l.length * k
  | [], _ => by simp [expL]
  | e :: r, h => by
    have h1 := h e (by simp)
    have h2 := expL_of r fun x hx => h x (by simp [hx])
    simp only [expL, List.length_cons, Nat.succ_mul]
    omega
theorem expanded_eq (l : List Cla) (e : Ex) : expanded l e = expE (fun x => (defAt l x).map fun d => expF l l.length (l.getD d cla0).cond) e := by rw [expanded, expF]
theorem Term.many {s : List Attr} {l : List Cla} {D S X : Nat} {op : Int} (ho : op = 7 ∨ op = 8) {xs : List Ex} (hl : 2 ≤ xs.length) (h : ∀ x ∈ xs, Term s l D S X x) : Term s l (D + 1) (1 + xs.length * S) (1 + xs.length * X) (.mk op ⟨#[]⟩ [] 0 0 xs) := by
  refine ⟨okTree_mk (Or.inr (Or.inr (Or.inr (Or.inr (Or.inr (Or.inr ⟨ho, rfl, rfl, rfl, rfl, hl⟩)))))) fun x hx => (h x hx).tree, ?_, ?_, ?_, ?_⟩
  · rw [Ex.depth_eq]
    have := depths_of xs fun x hx => (h x hx).depth
    simp only [Ex.args]
    omega
  · have := sizes_of xs fun x hx => (h x hx).size
    simp only [Ex.size]
    omega
  · rw [nodesErr]
    have e1 : nodeErr s l op ⟨#[]⟩ [] 0 0 = 0 := by
      unfold nodeErr
      rw [if_neg (by omega), if_neg (by omega), if_neg (by omega)]
    rw [if_neg (by simpa using e1)]
    exact nodesErrL_zero _ fun j hj => (h _ (List.getElem_mem hj)).node
  · have := expL_of (D := fun x => (defAt l x).map fun d => expF l l.length (l.getD d cla0).cond) (k := X) xs fun x hx => (by have := (h x hx).exp; rwa [expanded_eq] at this)
    rw [expanded_eq, expE, if_neg (by omega)]
    omega
theorem Term.ok {s : List Attr} {l : List Cla} {D S X : Nat} {e : Ex} {f : List Int} (h : Term s l D S X e) (hD : D ≤ 16) (hS : S ≤ 300) (hX : X ≤ 2000) (hc : (clausesErr s l).2 = 0) (hf : factsAll s f = true) : Ok11 s l e f :=
  ⟨hc, refExprB_ok h.tree (Nat.le_trans h.depth hD) (Nat.le_trans h.size hS), h.node, Nat.le_trans h.exp hX, hf⟩
theorem term_true (s : List Attr) (l : List Cla) (b : Bool) : Term s l 1 1 1 (.mk (if b then 1 else 2) ⟨#[]⟩ [] 0 0 []) := by
  cases b
  · refine ⟨okTree_mk (Or.inr (Or.inl ⟨rfl, rfl, rfl, rfl, rfl, rfl⟩)) fun x hx => (by cases hx), ?_, ?_, ?_, ?_⟩
    · rw [Ex.depth_eq]; simp [Ex.args, depths]
    · simp [Ex.size, sizes]
    · rw [nodesErr_eq]; simp [nodeErr, Ex.op, Ex.args, nodesErrL]
    · rw [expanded_eq, expE_eq]; simp [Ex.op, Ex.args, expL]
  · refine ⟨okTree_mk (Or.inl ⟨rfl, rfl, rfl, rfl, rfl, rfl⟩) fun x hx => (by cases hx), ?_, ?_, ?_, ?_⟩
    · rw [Ex.depth_eq]; simp [Ex.args, depths]
    · simp [Ex.size, sizes]
    · rw [nodesErr_eq]; simp [nodeErr, Ex.op, Ex.args, nodesErrL]
    · rw [expanded_eq, expE_eq]; simp [Ex.op, Ex.args, expL]
theorem bare_exp {attrs : List Attr} {D : ByteArray → Option Nat} (hD : ∀ a ∈ attrs, D a.name = none) : (d : Nat) → (e : Ex) → MadeE attrs [] d e → expE D e ≤ e.size
  | 0, _, h => h.elim
  | d + 1, e, h => by
    rcases h with ⟨ha, h⟩ | ⟨hl, h1, h2, h3, h4, h⟩
    · rw [expE_eq, ha]
      have hz := size_pos e
      have e1 : (if e.op = 3 then (D e.name).getD 1 else 1) = 1 := by
        by_cases h3 : e.op = 3
        · rw [if_pos h3]
          rcases h with ⟨h1, -⟩ | ⟨h1, -⟩ | ⟨h1, h2, -⟩ | ⟨h1, -⟩ | ⟨h1, -⟩
          · omega
          · omega
          · rcases h2 with h2 | ⟨a, haa, _, h2⟩
            · cases h2
            · rw [h2, hD a haa]; rfl
          · omega
          · omega
        · rw [if_neg h3]
      rw [e1]
      simp only [expL]
      omega
    · have ih : ∀ (r : List Ex), (∀ x ∈ r, expE D x ≤ x.size) → expL D r ≤ sizes r := by
        intro r
        induction r with
        | nil => intro _; simp [expL, sizes]
        | cons a r ih =>
          intro h
          have h5 := h a (by simp)
          have h6 := ih fun x hx => h x (by simp [hx])
          simp only [expL, sizes]
          omega
      have := ih e.args fun x hx => bare_exp hD d x (h x hx)
      rw [expE_eq, e.size_eq]
      rcases hl with ⟨h5, _⟩ | ⟨h5, _⟩
      · rw [if_neg (by omega)]; omega
      · rw [if_neg (by omega)]; omega
open Go.RowKit
structure PrV where
  value : Bool
  pick : Int
  a : Option Addr
  n : Nat
  c : Nat
def PrV.cells (v : PrV) : List Value := [.bool v.value, .int .i64 v.pick, .slice v.a v.n v.c]
def PrV.val (v : PrV) : Value := .agg #[.bool v.value, .int .i64 v.pick, .slice v.a v.n v.c]
theorem PrV.len (v : PrV) : v.cells.length = 3 := rfl
inductive IsPr (w : World) : Pr → PrV → Prop
  | mk {v : Bool} {k : Int} {ps : List Pr} {a : Option Addr} {n c : Nat} (vs : List PrV) (hr : IsRows w 3 PrV.cells vs a n c) (hl : vs.length = ps.length)
      (h : ∀ i (h1 : i < ps.length) (h2 : i < vs.length), IsPr w ps[i] vs[i]) : IsPr w (.mk v k ps) ⟨v, k, a, n, c⟩
theorem IsPr.mono {w w' : World} {p : Pr} {v : PrV} (h : IsPr w p v) (hs : Sub w w') : IsPr w' p v := by
  induction h with
  | mk vs hr hl _ ih => exact .mk vs (hr.mono hs) hl ih
theorem IsPr.ext {w w' : World} {p : Pr} {v : PrV} (h : IsPr w p v) (he : Ext w w') : IsPr w' p v := h.mono he.sub
theorem IsPr.parts {w : World} {p : Pr} {v : PrV} (h : IsPr w p v) : v.value = p.value ∧ v.pick = p.pick ∧ v.n = p.args.length ∧ v.n ≤ v.c ∧ OkAddr v.a v.c ∧
    ∀ i (hi : i < p.args.length), ∃ b off q, v.a = some ⟨b, off, none⟩ ∧ IsPr w p.args[i] q ∧ w.cell? ⟨b, off + i * 3, none⟩ = some (.bool q.value) ∧ w.cell? ⟨b, off + i * 3 + 1, none⟩ = some (.int .i64 q.pick) ∧ w.cell? ⟨b, off + i * 3 + 2, none⟩ = some (.slice q.a q.n q.c) := by
  cases h with
  | mk vs hr hl h =>
    refine ⟨rfl, rfl, hr.1.trans hl, hr.2.1, hr.2.2.1, fun i hi => ?_⟩
    simp only [Pr.args] at hi ⊢
    obtain ⟨b, off, e, hc⟩ := hr.2.2.2 i (by omega)
    exact ⟨b, off, _, e, h i hi (by omega), hc 0 (by simp [PrV.len]), hc 1 (by simp [PrV.len]), hc 2 (by simp [PrV.len])⟩
open Go.RowKit
def PrsR (w : World) (l : List Pr) (vs : List PrV) : Prop := l.length = vs.length ∧ ∀ i (h1 : i < l.length) (h2 : i < vs.length), IsPr w l[i] vs[i]
theorem PrsR.mono {w w' : World} {l : List Pr} {vs : List PrV} (h : PrsR w l vs) (hs : Sub w w') : PrsR w' l vs := ⟨h.1, fun i h1 h2 => (h.2 i h1 h2).mono hs⟩
theorem PrsR.nil (w : World) : PrsR w [] [] := ⟨rfl, fun i h => by simp at h⟩
theorem PrsR.snoc {w : World} {l : List Pr} {vs : List PrV} {c : Pr} {v : PrV} (h : PrsR w l vs) (hc : IsPr w c v) : PrsR w (l ++ [c]) (vs ++ [v]) := by
  refine ⟨by simp [h.1], fun i h1 h2 => ?_⟩
  by_cases hi : i < l.length
  · have hi2 : i < vs.length := by rw [← h.1]; exact hi
    simp only [List.getElem_append_left hi, List.getElem_append_left hi2]
    exact h.2 i hi hi2
  · have e1 : i = l.length := by simp at h1; omega
    subst e1
    simp only [List.getElem_append_right (Nat.le_refl _), List.getElem_append_right (show vs.length ≤ l.length by rw [h.1]; exact Nat.le_refl _), Nat.sub_self, List.getElem_cons_zero]
    simpa [h.1] using hc
theorem elemPr : ElemT 38 40 (.agg #[.bool false, .int .i64 0, .slice none 0 0]) 3 40 := ⟨by kernel_rfl, by kernel_rfl, rfl, by decide⟩
theorem prs_owns {w : World} {M : List Nat} {base : Nat} {v : Value} {l : List Pr} {vs : List PrV} (h : w.ownsRow base 40 3 v l.length (vs.flatMap PrV.cells)) (hM : ∀ k, v.ownBlock = some k → k ∉ M) (hR : PrsR (mask w M) l vs) (b : Bool) (k : Int) :
    ∃ a c, v = .slice a l.length c ∧ IsPr (mask w M) (.mk b k l) ⟨b, k, a, l.length, c⟩ := by
  have hl := hR.1
  rw [hl] at h
  obtain ⟨a, c, rfl, hr⟩ := IsRows.of_owns PrV.len h
  refine ⟨a, c, by rw [hl], .mk vs ⟨hl, by rw [hl]; exact hr.2.1, hr.2.2.1, fun i h4 => ?_⟩ hl.symm fun i h1 h2 => hR.2 i h1 h2⟩
  obtain ⟨b', off', e1, h5⟩ := hr.2.2.2 i h4
  subst e1
  exact ⟨b', off', rfl, fun j hj => by rw [mask_cell, if_neg (hM _ rfl)]; exact h5 j hj⟩
theorem isPr_none (w : World) (b : Bool) (k : Int) : IsPr w (.mk b k []) ⟨b, k, none, 0, 0⟩ := .mk [] ⟨rfl, Nat.le_refl _, Or.inl ⟨rfl, rfl⟩, fun i h => by simp at h⟩ rfl fun i h => by simp at h
theorem isPr_one {w : World} {M : List Nat} {g : Nat} {q : Pr} {v : PrV} {t : TypeId} (h : w.heap[g]? = some (.cells v.cells.toArray t (0, 0))) (hg : g ∉ M) (hq : IsPr (mask w M) q v) (b : Bool) (k : Int) : IsPr (mask w M) (.mk b k [q]) ⟨b, k, some ⟨g, 0, none⟩, 1, 1⟩ := by
  refine .mk [v] ⟨rfl, Nat.le_refl _, Or.inr ⟨g, 0, rfl⟩, fun i hi => ⟨g, 0, rfl, fun j hj => ?_⟩⟩ rfl fun i h1 h2 => ?_
  · have h0 : i = 0 := by simp at hi; omega
    subst h0
    simp only [List.getElem_cons_zero] at hj ⊢
    rw [mask_cell, if_neg hg, blk_cell h]
    simp
  · have h0 : i = 0 := by simp at h1; omega
    subst h0
    exact hq
def ProveQ (p : Pr) (M : List Nat) (w : World) (e : Ending) (w' : World) : Prop := ∃ v : PrV, e = .returned v.val ∧ IsPr (mask w' M) p v ∧ Ext w w'
open Go.RowKit
def GnBx (w0 : World) (Z : Obj) (Pd : World → Value → Prop) (M : List Nat) (kc ka : Nat) (L : List Nat) (vs : Nat → Value) (W : World) : Prop :=
  Ext w0 W ∧ (ka ∈ L → ∃ y, vs ka = .pointer (some ⟨y, 0, none⟩) ∧ W.heap[y]? = some Z ∧ w0.heap.size ≤ y) ∧
    (kc ∈ L → ∃ Y : List Nat, (∀ y, ka ∈ L → vs ka = .pointer (some ⟨y, 0, none⟩) → y ∈ Y) ∧ Pd (mask W (Y ++ M)) (vs kc))
section
variable {w0 W W' : World} {Z : Obj} {Pd : World → Value → Prop} {M : List Nat} {kc ka : Nat} {L : List Nat} {vs : Nat → Value}
theorem gnbx_start : GnBx w0 Z Pd M kc ka [] vs w0.drew := ⟨(Ext.refl w0).drew, fun h => by simp at h, fun h => by simp at h⟩
theorem gnbx_step {i : Nat} {v : Value} (hP : ∀ W W' v, Sub W W' → Pd W v → Pd W' v) (h1 : i ≠ kc) (h2 : i ≠ ka) (h : GnBx w0 Z Pd M kc ka L vs W) (hx : Ext W W') : GnBx w0 Z Pd M kc ka (L ++ [i]) (upd vs i v) W' := by
  have m1 : kc ∈ L ++ [i] → kc ∈ L := fun hm => by simp at hm; rcases hm with hm | hm; exact hm; exact absurd hm.symm h1
  have m2 : ka ∈ L ++ [i] → ka ∈ L := fun hm => by simp at hm; rcases hm with hm | hm; exact hm; exact absurd hm.symm h2
  have u1 : upd vs i v kc = vs kc := by unfold upd; rw [if_neg (fun e => h1 e.symm)]
  have u2 : upd vs i v ka = vs ka := by unfold upd; rw [if_neg (fun e => h2 e.symm)]
  refine ⟨h.1.trans hx, fun hm => ?_, fun hm => ?_⟩
  · rw [u2]
    obtain ⟨y, q1, q2, q3⟩ := h.2.1 (m2 hm)
    exact ⟨y, q1, hx.blk q2, q3⟩
  · rw [u1, u2]
    obtain ⟨Y, q1, q2⟩ := h.2.2 (m1 hm)
    exact ⟨Y, fun y hy => q1 y (m2 hy), hP _ _ _ (mask_ext _ hx) q2⟩
theorem gnbx_call (hka : ka ≠ kc) (hM : ∀ y ∈ M, y < w0.heap.size) (h : GnBx w0 Z Pd M kc ka L vs W) : ∃ Y : List Nat, (∀ y ∈ Y ++ M, y < W.heap.size) ∧ ∀ (v : Value) (W' : World), Ext W W' → Pd (mask W' (Y ++ M)) v → GnBx w0 Z Pd M kc ka (L ++ [kc]) (upd vs kc v) W' := by
  have m2 : ka ∈ L ++ [kc] → ka ∈ L := fun hm => by simp at hm; rcases hm with hm | hm; exact hm; exact absurd hm hka
  have u1 : ∀ v, upd vs kc v kc = v := fun v => by unfold upd; rw [if_pos rfl]
  have u2 : ∀ v, upd vs kc v ka = vs ka := fun v => by unfold upd; rw [if_neg hka]
  have hs := h.1.size
  by_cases hk : ka ∈ L
  · obtain ⟨y, q1, q2, q3⟩ := h.2.1 hk
    refine ⟨[y], fun z hz => ?_, fun v W' hx hp => ⟨h.1.trans hx, fun _ => ?_, fun _ => ?_⟩⟩
    · rcases List.mem_append.1 hz with hz | hz
      · simp only [List.mem_singleton] at hz; rw [hz]; exact blk_lt q2
      · have := hM z hz; omega
    · rw [u2]; exact ⟨y, q1, hx.blk q2, q3⟩
    · refine ⟨[y], fun z _ hz => ?_, by rw [u1]; exact hp⟩
      rw [u2, q1] at hz
      simp only [Value.pointer.injEq, Option.some.injEq, Addr.mk.injEq, and_true] at hz
      simp [hz]
  · refine ⟨[], fun z hz => ?_, fun v W' hx hp => ⟨h.1.trans hx, fun hm => absurd (m2 hm) hk, fun _ => ⟨[], fun z hz _ => absurd (m2 hz) hk, by rw [u1]; exact hp⟩⟩⟩
    have := hM z (by simpa using hz); omega
theorem gnbx_alloc {arr : Array Value} {t : TypeId} (hP : ∀ W W' v, Sub W W' → Pd W v → Pd W' v) (hka : ka ≠ kc) (hZ : Z = .cells arr t (0, 0)) (h : GnBx w0 Z Pd M kc ka L vs W) : GnBx w0 Z Pd M kc ka (L ++ [ka]) (upd vs ka (.pointer (some ⟨W.heap.size, 0, none⟩))) (W.alloc (.cells arr t)) := by
  have m1 : kc ∈ L ++ [ka] → kc ∈ L := fun hm => by simp at hm; rcases hm with hm | hm; exact hm; exact absurd hm.symm hka
  have hx := (Ext.refl W).alloc (.cells arr t)
  have u1 : ∀ v, upd vs ka v ka = v := fun v => by unfold upd; rw [if_pos rfl]
  have u2 : ∀ v, upd vs ka v kc = vs kc := fun v => by unfold upd; rw [if_neg (fun e => hka e.symm)]
  refine ⟨h.1.trans hx, fun _ => ⟨_, u1 _, by rw [hZ]; exact alloc_new W _, h.1.size⟩, fun hm => ?_⟩
  obtain ⟨Y, q1, q2⟩ := h.2.2 (m1 hm)
  refine ⟨W.heap.size :: Y, fun z _ hz => ?_, ?_⟩
  · rw [u1] at hz
    simp only [Value.pointer.injEq, Option.some.injEq, Addr.mk.injEq, and_true] at hz
    simp [hz]
  · rw [u2]
    refine hP _ _ _ (mask_sub_mask fun k hk hn => ⟨fun hm => ?_, hx.block k hk⟩) q2
    simp only [List.cons_append, List.mem_cons] at hm
    rcases hm with hm | hm
    · omega
    · exact hn hm
theorem gnbx_end (hP : ∀ W W' v, Sub W W' → Pd W v → Pd W' v) (h : GnBx w0 Z Pd M kc ka L vs W) (h1 : kc ∈ L) (h2 : ka ∈ L) : ∃ y, vs ka = .pointer (some ⟨y, 0, none⟩) ∧ W.heap[y]? = some Z ∧ w0.heap.size ≤ y ∧ Pd (mask W (y :: M)) (vs kc) := by
  obtain ⟨y, q1, q2, q3⟩ := h.2.1 h2
  obtain ⟨Y, q4, q5⟩ := h.2.2 h1
  refine ⟨y, q1, q2, q3, hP _ _ _ (mask_less W fun z hz => ?_) q5⟩
  rcases List.mem_cons.1 hz with rfl | hz
  · exact List.mem_append_left _ (q4 _ h2 q1)
  · exact List.mem_append_right _ hz
end
open Go.RowKit Go.Maps
structure LossV where
  sa : Option Addr
  sn : Nat
  sc : Nat
  bm : Nat
  fa : Option Addr
  fn : Nat
  fc : Nat
def LossV.val (v : LossV) : Value := .agg #[.slice v.sa v.sn v.sc, .map (some v.bm), .slice v.fa v.fn v.fc]
structure IsLoss (w : World) (s : List Attr) (l : List Cla) (f : List Int) (v : LossV) (nm : Nat) : Prop where
  sch : IsSchema w s (.agg #[.slice v.sa v.sn v.sc])
  defs : DefsAt w l v.bm nm
  facts : IsIntF w f v.fa v.fn
theorem IsLoss.ext {w w' : World} {s : List Attr} {l : List Cla} {f : List Int} {v : LossV} {nm : Nat} (h : IsLoss w s l f v nm) (hx : Ext w w') : IsLoss w' s l f v nm := ⟨h.sch.ext hx, h.defs.ext hx, h.facts.ext hx⟩
def exZero : Value := .agg #[.int .i64 0, .string ⟨#[]⟩, .slice none 0 0, .int .i64 0, .int .i64 0, .slice none 0 0]
def DefnQ (l : List Cla) (op : Int) (name : ByteArray) (w : World) (e : Ending) (w' : World) : Prop := Ext w w' ∧ ((op = 3 ∧ ∃ d v, defAt l name = some d ∧ e = .returned (.tuple #[ExV.val v, .bool true]) ∧ IsEx w' (l.getD d cla0).cond v.val) ∨ ((op ≠ 3 ∨ defAt l name = none) ∧ e = .returned (.tuple #[exZero, .bool false])))
theorem isEx_exV {w : World} {e : Ex} {v : Value} (h : IsEx w e v) : ∃ x : ExV, v = x.val ∧ IsEx w e x.val := by
  obtain ⟨aw, nw, cw, aa, na, ca, rfl, -⟩ := h.parts
  exact ⟨⟨e.op, e.name, aw, nw, cw, e.lo, e.hi, aa, na, ca⟩, rfl, h⟩
set_option maxRecDepth 100000 in
set_option maxHeartbeats 4000000 in
theorem definition_calls (s : List Attr) (l : List Cla) (f : List Int) (lv : LossV) (nm : Nat) (e : Ex) (ev : Value) (w : World) (hl : IsLoss w s l f lv nm) (he : IsEx w e ev) (hen : e.name.size ≤ 1000000000000000) :
    Calls Tryz.prog 54 #[lv.val, ev] w (DefnQ l e.op e.name w) := by
  obtain ⟨aw, nw, cw, aa, na, ca, rfl, hw, hna, hca, ha, hx⟩ := he.parts
  obtain ⟨sa, sn, sc, bm, fa, fn, fc⟩ := lv
  have HD := Lib.hid hl.defs
  clear hw hna hca ha hx hl he
  unfold exV LossV.val
  obtain ⟨op, name, words, lo, hi, args⟩ := e
  simp only [Ex.op, Ex.name, Ex.lo, Ex.hi] at *
  by_cases h3 : op = 3
  case neg =>
    have t3 : (op != 3) = true := by simp [h3]
    have H3 := Lib.hid h3
    clear h3
    go_enter Tryz.func54, Tryz.ntmps54
    go_wp2_with fail
    refine bodyPost_ret (v := .tuple #[exZero, .bool false]) (by simp [results, Tryz.results54, go_sem, exZero]) rfl ?_
    exact ⟨by first | exact (((Ext.refl w).alloc _).alloc _).alloc _ | exact Ext.refl w, Or.inr ⟨Or.inl H3.out, rfl⟩⟩
  subst h3
  obtain ⟨g, hmap, hg⟩ := HD.out
  have HMP := Lib.hid hmap
  have HG := Lib.hid hg
  clear hmap hg
  cases hda : defAt l name with
  | none =>
    have HFN := Lib.hid (show strF g (.string name.data.toList) = none by rw [strF_at]; exact (HG.out _).1 hda)
    have HDA := Lib.hid hda
    clear hda HG
    go_enter Tryz.func54, Tryz.ntmps54
    go_wp2_with (at_lookup; refine wpList_map_ok _ rfl _ _ 69 rfl 9 26 keyedStr uMapSE (zeroEx _) bm nm _ rfl (HMP.out.ext ((((Ext.refl w).alloc _).alloc _).alloc _)) _ _ rfl (keyStr hen) trivial ?_; rw [HFN.out])
    refine bodyPost_ret (v := .tuple #[exZero, .bool false]) (by simp [results, Tryz.results54, go_sem, exZero]) rfl ?_
    exact ⟨((((Ext.refl w).alloc _).alloc _).alloc _).alloc _, Or.inr ⟨Or.inr HDA.out, rfl⟩⟩
  | some d =>
    obtain ⟨u, hu, hux⟩ := (HG.out name).2 d hda
    obtain ⟨xv, rfl, hxv⟩ := isEx_exV hux
    have HFN := Lib.hid (show strF g (.string name.data.toList) = some _ by rw [strF_at]; exact hu)
    have HXV := Lib.hid hxv
    have HDA := Lib.hid hda
    clear hda HG hu hux hxv
    obtain ⟨xo, xn, xaw, xnw, xcw, xlo, xhi, xaa, xna, xca⟩ := xv
    unfold ExV.val exV at HFN HXV
    go_enter Tryz.func54, Tryz.ntmps54
    go_wp2_with (at_lookup; refine wpList_map_ok _ rfl _ _ 69 rfl 9 26 keyedStr uMapSE (zeroEx _) bm nm _ rfl (HMP.out.ext ((((Ext.refl w).alloc _).alloc _).alloc _)) _ _ rfl (keyStr hen) trivial ?_; rw [HFN.out])
    refine bodyPost_ret (v := .tuple #[ExV.val ⟨xo, xn, xaw, xnw, xcw, xlo, xhi, xaa, xna, xca⟩, .bool true]) (by simp [results, Tryz.results54, go_sem, ExV.val, exV]) rfl ?_
    have hx : Ext w _ := (((((Ext.refl w).alloc (.cells #[.slice sa sn sc, .map (some bm), .slice fa fn fc] 71)).alloc (.cells #[.int .i64 3, .string name, .slice aw nw cw, .int .i64 lo, .int .i64 hi, .slice aa na ca] 26)).alloc (.cells #[.int .i64 xo, .string xn, .slice xaw xnw xcw, .int .i64 xlo, .int .i64 xhi, .slice xaa xna xca] 26)).alloc (.cells #[.int .i64 xo, .string xn, .slice xaw xnw xcw, .int .i64 xlo, .int .i64 xhi, .slice xaa xna xca] 26))
    exact ⟨hx, Or.inl ⟨rfl, d, _, HDA.out, rfl, HXV.out.ext hx⟩⟩
theorem fact_ways {s : List Attr} {l : List Cla} {e : Ex} (ht : okTree e) (h : nodesErr s l e = 0) (h6 : e.op ≠ 6 ∧ e.op ≠ 7 ∧ e.op ≠ 8) (hd : e.op = 3 → defAt l e.name = none) : e.op = 1 ∨ e.op = 2 ∨ (e.op = 3 ∧ ∃ i, attrAt s e.name = some i) ∨ (e.op = 4 ∧ ∃ i, attrAt s e.name = some i ∧ (s.getD i attr0).kind = 1) ∨ (e.op = 5 ∧ ∃ i, attrAt s e.name = some i) := by
  rcases node_ways ht h with h1 | h1 | ⟨h1, i, h2, -⟩ | ⟨h1, -, d, h2⟩ | ⟨h1, i, h2, h3⟩ | ⟨h1, i, h2, -⟩ | ⟨h1, -⟩ | h1 | h1
  · exact Or.inl h1
  · exact Or.inr (Or.inl h1)
  · exact Or.inr (Or.inr (Or.inl ⟨h1, i, h2⟩))
  · rw [hd h1] at h2; cases h2
  · exact Or.inr (Or.inr (Or.inr (Or.inl ⟨h1, i, h2, h3⟩)))
  · exact Or.inr (Or.inr (Or.inr (Or.inr ⟨h1, i, h2⟩)))
  · exact absurd h1 h6.1
  · exact absurd h1 h6.2.1
  · exact absurd h1 h6.2.2
theorem okTree_words {e : Ex} (h : okTree e) : e.words.length ≤ 12 ∧ e.name.size ≤ 1000 := by
  rcases (okTree_parts h).1 with ⟨-, h1, h2, -⟩ | ⟨-, h1, h2, -⟩ | ⟨-, h1, h2, -⟩ | ⟨-, h1, h2, -⟩ | ⟨-, h1, h2, -⟩ | ⟨-, h1, h2, -⟩ | ⟨-, h1, h2, -⟩
  · rw [h1, h2]; exact ⟨by simp, by decide⟩
  · rw [h1, h2]; exact ⟨by simp, by decide⟩
  · rw [h2]; exact ⟨by simp, by have := nameB_le h1; omega⟩
  · simp only [wordsB, Bool.and_eq_true] at h2
    exact ⟨of_decide_eq_true h2.1.1.2, by have := nameB_le h1; omega⟩
  · rw [h2]; exact ⟨by simp, by have := nameB_le h1; omega⟩
  · rw [h1, h2]; exact ⟨by simp, by decide⟩
  · rw [h1, h2]; exact ⟨by simp, by decide⟩
set_option maxRecDepth 100000 in
set_option maxHeartbeats 8000000 in
theorem fact_calls (s : List Attr) (l : List Cla) (f : List Int) (lv : LossV) (nm : Nat) (hsc : schemaErr s = 0) (hfa : factsAll s f = true) (e : Ex) (ev : Value) (w : World) (hl : IsLoss w s l f lv nm) (he : IsEx w e ev) (hok : okTree e)
    (hw5 : e.op = 1 ∨ e.op = 2 ∨ (e.op = 3 ∧ ∃ i, attrAt s e.name = some i) ∨ (e.op = 4 ∧ ∃ i, attrAt s e.name = some i ∧ (s.getD i attr0).kind = 1) ∨ (e.op = 5 ∧ ∃ i, attrAt s e.name = some i)) :
    Calls Tryz.prog 55 #[lv.val, ev] w (GivesE (.bool (factV s f e.op e.name e.words e.lo e.hi)) w) := by
  have hwl := okTree_words hok
  obtain ⟨aw, nw, cw, aa, na, ca, rfl, hw, hna, hca, ha, hx⟩ := he.parts
  obtain ⟨sa, sn, sc, bm, fa, fn, fc⟩ := lv
  have HS := Lib.hid hl.sch
  have HI := Lib.hid hl.facts
  have HW := Lib.hid hw
  have HFA := Lib.hid hfa
  have hsl6 := (schema_attrs hsc).2.1
  have HIX := Lib.hid (fun W (hW : Ext w W) => sIndex_calls s _ e.name W (hl.sch.ext hW) (by omega))
  have HSN := Lib.hid (show sn = s.length by obtain ⟨a', n', c', e', h', -⟩ := hl.sch.parts; simp at e'; omega)
  clear hw hna hca ha hx hl he hok hfa hsl6 hsc
  unfold exV LossV.val
  obtain ⟨op, name, words, lo, hi, args⟩ := e
  simp only [Ex.op, Ex.name, Ex.words, Ex.lo, Ex.hi] at *
  have hwn := hwl.1
  have HNM := Lib.hid hwl.2
  clear hwl
  obtain ⟨R, hR⟩ : ∃ R, R = factV s f op name words lo hi := ⟨_, rfl⟩
  rw [← hR]
  have HR := Lib.hid hR
  clear hR
  obtain ⟨wa, hwa⟩ : ∃ wa, wa = (w.alloc (.cells #[.slice sa sn sc, .map (some bm), .slice fa fn fc] 71)).alloc (.cells #[.int .i64 op, .string name, .slice aw nw cw, .int .i64 lo, .int .i64 hi, .slice aa na ca] 26) := ⟨_, rfl⟩
  have hxa : Ext w wa := by rw [hwa]; exact ((Ext.refl _).alloc _).alloc _
  have hb0 : wa.heap[w.heap.size]? = some (.cells #[.slice sa sn sc, .map (some bm), .slice fa fn fc] 71 (0, 0)) := by rw [hwa]; exact blk_alloc (alloc_new w _)
  have hb1 : wa.heap[w.heap.size + 1]? = some (.cells #[.int .i64 op, .string name, .slice aw nw cw, .int .i64 lo, .int .i64 hi, .slice aa na ca] 26 (0, 0)) := by rw [hwa]; exact alloc_atR (by simp)
  have HXA := Lib.hid hxa
  have HB0 := Lib.hid hb0
  have HB1 := Lib.hid hb1
  obtain ⟨f0, f1, f2, f3, f4, f5, ff⟩ := blk6 hb1
  obtain ⟨e0, e1, e2, ef⟩ := blk3 hb0
  have hltw := blk_lt hb1
  clear hxa hb0 hb1
  rcases hw5 with rfl | rfl | ⟨rfl, i, hat⟩ | ⟨rfl, i, hat, hkd⟩ | ⟨rfl, i, hat⟩
  · have HQ := Lib.hid (show R = true by rw [HR.out]; simp [factV])
    go_enter Tryz.func55, Tryz.ntmps55
    go_upto_region 1 with fail
    rw [← hwa]
    clear hwa
    go_wp2_with fail
    go_ret
    exact givesE_bool (by rw [HQ.out]) HXA.out
  · have HQ := Lib.hid (show R = false by rw [HR.out]; simp [factV])
    go_enter Tryz.func55, Tryz.ntmps55
    go_upto_region 1 with fail
    rw [← hwa]
    clear hwa
    go_wp2_with fail
    go_ret
    exact givesE_bool (by rw [HQ.out]) HXA.out
  · obtain ⟨his, -⟩ := attrAt_at hat
    obtain ⟨hif, -, -⟩ := fact_at HFA.out his
    obtain ⟨fb, fo, rfl, hcell⟩ := HI.out.2 i hif
    obtain ⟨z, hz⟩ : ∃ z, z = f[i] := ⟨_, rfl⟩
    rw [← hz] at hcell
    have HQ := Lib.hid (show R = (z == 1) by
      rw [HR.out]
      simp only [factV, hat]
      rw [if_neg (by decide), if_neg (by decide), if_neg (by decide), if_neg (by decide), Bool.eq_iff_iff]
      simp [hif, ← hz])
    have hin : i < fn := by rw [HI.out.1]; exact hif
    have HCF := Lib.hid hcell
    rw [hat, optV_some] at HIX
    clear hat his hif hcell hz
    go_enter Tryz.func55, Tryz.ntmps55
    go_upto_region 1 with fail
    rw [← hwa]
    clear hwa
    go_wp2_with fail
    refine (HIX.out wa HXA.out).mono ?_
    rintro r w1 ⟨rfl, hx1⟩
    have HX1 := Lib.hid (HXA.out.trans hx1)
    clear f0 f1 f2 f3 f4 f5 ff e0 e1 e2 ef hltw
    obtain ⟨f0, f1, f2, f3, f4, f5, ff⟩ := blk6 (hx1.blk HB1.out)
    obtain ⟨e0, e1, e2, ef⟩ := blk3 (hx1.blk HB0.out)
    have hcf := HX1.out.cell HCF.out
    clear hx1
    go_wp2_with fail
    go_ret
    exact givesE_bool (by rw [HQ.out]) HX1.out
  · obtain ⟨his, -⟩ := attrAt_at hat
    obtain ⟨hif, hlo2, hhi2⟩ := fact_at HFA.out his
    have hkd' : s[i].kind = 1 := by rw [← hkd]; simp [his]
    have hdm : domB s[i] = (0, (s[i].words.length : Int) - 1) := by unfold domB; rw [if_pos hkd']
    rw [hdm] at hlo2 hhi2
    simp only at hlo2 hhi2
    obtain ⟨ab, ao, rfl, hA⟩ : ∃ ab ao, sa = some ⟨ab, ao, none⟩ ∧ AttrAt w s[i] ab (ao + i * 5) := by
      obtain ⟨xa, xn, xc, e', -, -, -, hq⟩ := HS.out.parts
      simp only [Value.agg.injEq, Array.mk.injEq, List.cons.injEq, Value.slice.injEq, and_true] at e'
      obtain ⟨rfl, rfl, rfl⟩ := e'
      exact hq i his
    obtain ⟨x1, hx1⟩ : ∃ x1, x1 = s[i] := ⟨_, rfl⟩
    rw [← hx1] at hA hkd' hhi2
    obtain ⟨bw, nwa, cwa, hstr, hfive⟩ := hA.five
    have H5 := Lib.hid hfive
    obtain ⟨fb, fo, rfl, hcell⟩ := HI.out.2 i hif
    obtain ⟨z, hz⟩ : ∃ z : Nat, f[i] = (z : Int) := ⟨f[i].toNat, by omega⟩
    rw [hz] at hcell hlo2 hhi2
    have hzw : z < x1.words.length := by omega
    obtain ⟨wb, wo, rfl, hwc⟩ := hstr.2.2.2 z hzw
    have HWC := Lib.hid hwc
    have hzn : z < nwa := by rw [hstr.1]; exact hzw
    have HQ := Lib.hid (show R = decide (x1.words[z] ∈ words) by
      rw [HR.out]
      simp only [factV, hat]
      rw [if_neg (by decide), if_neg (by decide), if_pos (by decide), Bool.eq_iff_iff]
      simp [his, hif, hz, ← hx1, hzw])
    have hin : i < fn := by rw [HI.out.1]; exact hif
    have hisn : i < sn := by rw [HSN.out]; exact his
    have HCF := Lib.hid hcell
    have HWI := Lib.hid (fun W (hW : Ext w W) => contains_calls words x1.words[z] aw nw cw W (by rw [HW.out.1]; omega) (HW.out.ext hW))
    rw [hat, optV_some] at HIX
    obtain ⟨x, hxx⟩ : ∃ x, x = x1.words[z] := ⟨_, rfl⟩
    rw [← hxx] at HWC HQ HWI
    clear hx1 hat hkd his hif hlo2 hhi2 hcell hz hkd' hdm hA hstr hfive hwc hzw hxx
    go_enter Tryz.func55, Tryz.ntmps55
    go_upto_region 1 with fail
    rw [← hwa]
    clear hwa
    go_wp2_with fail
    refine (HIX.out wa HXA.out).mono ?_
    rintro r w1 ⟨rfl, hx1⟩
    have HX1 := Lib.hid (HXA.out.trans hx1)
    clear f0 f1 f2 f3 f4 f5 ff e0 e1 e2 ef hltw
    obtain ⟨f0, f1, f2, f3, f4, f5, ff⟩ := blk6 (hx1.blk HB1.out)
    obtain ⟨e0, e1, e2, ef⟩ := blk3 (hx1.blk HB0.out)
    have hcf := HX1.out.cell HCF.out
    have hwf := HX1.out.cell HWC.out
    obtain ⟨g0, g1, g2, g3, g4⟩ := H5.out w1 HX1.out
    clear hx1
    go_wp2_with fail
    go_still_tail 12, (by kernel_rfl)
    change wpList _ _ _ _ _ w1.drew
    have hx2 : Ext w1 w1.drew := (Ext.refl w1).drew
    generalize w1.drew = w2 at hx2 ⊢
    have HX2 := Lib.hid (HX1.out.trans hx2)
    clear hx2 f0 f1 f2 f3 f4 f5 ff e0 e1 e2 ef hcf hwf g0 g1 g2 g3 g4
    go_wp2_with fail
    refine (HWI.out w2 HX2.out).mono ?_
    rintro r w3 ⟨rfl, rfl⟩
    go_wp2_with fail
    go_ret
    exact givesE_bool (by rw [HQ.out]) HX2.out
  · obtain ⟨his, -⟩ := attrAt_at hat
    obtain ⟨hif, -, -⟩ := fact_at HFA.out his
    obtain ⟨fb, fo, rfl, hcell⟩ := HI.out.2 i hif
    obtain ⟨z, hz⟩ : ∃ z, z = f[i] := ⟨_, rfl⟩
    rw [← hz] at hcell
    have HQ := Lib.hid (show R = (decide (lo ≤ z) && decide (z ≤ hi)) by
      rw [HR.out]
      simp only [factV, hat]
      rw [if_neg (by decide), if_neg (by decide), if_neg (by decide), if_pos (by decide)]
      simp [hif, ← hz])
    have hin : i < fn := by rw [HI.out.1]; exact hif
    have HCF := Lib.hid hcell
    rw [hat, optV_some] at HIX
    clear hat his hif hcell hz
    have hw4 : (decide (lo ≤ z) = true ∧ decide (z ≤ hi) = true ∧ R = true) ∨ (decide (lo ≤ z) = true ∧ decide (z ≤ hi) = false ∧ R = false) ∨ (decide (lo ≤ z) = false ∧ R = false) := by
      rw [HQ.out]
      cases decide (lo ≤ z) <;> cases decide (z ≤ hi) <;> simp
    rcases hw4 with ⟨t1, t2, hf⟩ | ⟨t1, t2, hf⟩ | ⟨t1, hf⟩
    all_goals
      have HF := Lib.hid hf
      clear hf
      go_enter Tryz.func55, Tryz.ntmps55
      go_upto_region 1 with fail
      rw [← hwa]
      clear hwa
      go_wp2_with fail
      refine (HIX.out wa HXA.out).mono ?_
      rintro r w1 ⟨rfl, hx1⟩
      have HX1 := Lib.hid (HXA.out.trans hx1)
      clear f0 f1 f2 f3 f4 f5 ff e0 e1 e2 ef hltw
      obtain ⟨f0, f1, f2, f3, f4, f5, ff⟩ := blk6 (hx1.blk HB1.out)
      obtain ⟨e0, e1, e2, ef⟩ := blk3 (hx1.blk HB0.out)
      have hcf := HX1.out.cell HCF.out
      clear hx1
      go_wp2_with fail
      go_ret
      exact givesE_bool (by rw [HF.out]) HX1.out
open Go.RowKit Go.Maps
def cexpr4R (l : List Cla) (e : Ex) (aw : Option Addr) (nw cw : Nat) (aa : Option Addr) (na ca : Nat) (a : Option Addr) (n c : Nat) (sa : Option Addr) (sn sc : Nat) (N : Int) : Nat → Value → World → Prop
  | 0, u, _ => u = .agg #[.slice sa sn sc]
  | 1, u, _ => u = .slice a n c
  | 2, u, W => ∃ bd, u = .map (some bd) ∧ DefsAt W l bd n
  | 3, u, _ => u = .agg #[.int .i64 e.op, .string e.name, .slice aw nw cw, .int .i64 e.lo, .int .i64 e.hi, .slice aa na ca]
  | 4, u, _ => u = .int .i64 N
  | _, u, _ => u = .int .i64 N
set_option maxRecDepth 100000 in
set_option maxHeartbeats 8000000 in
theorem checkExpr_calls (s : List Attr) (l : List Cla) (a : Option Addr) (n c : Nat) (e : Ex) (ev sv : Value) (w : World) (hf : ∀ x ∈ s, x.fits) (hsl : s.length ≤ 1000000000000000) (hl : IsClas w l a n c) (hn : n ≤ 1000000) (hsz : ∀ x ∈ l, x.name.size ≤ 1000000000000000) (hfew : e.few) (hfit : e.fits) (ho : HasOps w) (hs : IsSchema w s sv) (he : IsEx w e ev) :
    Calls Tryz.prog 51 #[sv, .slice a n c, ev] w (GivesE (.int .i64 (exprErr s l e)) w) := by
  obtain ⟨sa, sn, sc, rfl, hsn⟩ := hs.slice
  have HV := Lib.hid (fun (W : World) (hW : Ext w W) => sValidate_calls s (.agg #[.slice sa sn sc]) W (hs.ext hW) hf hsl)
  have HD := Lib.hid (fun (W : World) (hW : Ext w W) => definitions_calls l a n c W (hl.ext hW) hn hsz)
  have HX := Lib.hid (fun (hz : schemaErr s = 0) (bm : Nat) (W : World) (hW : Ext w W) (hd : DefsAt W l bm n) => cexpression_calls s hz l hf hsl bm n e ev (.agg #[.slice sa sn sc]) W hfew hfit (ho.ext hW) (hs.ext hW) hd (he.ext hW))
  obtain ⟨aw, nw, cw, aa, na, ca, rfl, -⟩ := he.parts
  obtain ⟨R, hR⟩ : ∃ R, R = exprErr s l e := ⟨_, rfl⟩
  rw [← hR]
  have HR := Lib.hid (show R = if schemaErr s ≠ 0 then schemaErr s else exprnErr s l e from hR)
  obtain ⟨E, hE⟩ : ∃ E, E = schemaErr s := ⟨_, rfl⟩
  rw [← hE] at HV HR HX
  obtain ⟨N, hN⟩ : ∃ N, N = exprnErr s l e := ⟨_, rfl⟩
  rw [← hN] at HR HX
  clear hf hl hn hsz hfew hfit ho hs he hR hsn hE hN
  unfold exV at *
  obtain ⟨wa, hwa⟩ : ∃ wa, wa = (w.alloc (.cells #[.slice sa sn sc] 31)).alloc (.cells #[.int .i64 e.op, .string e.name, .slice aw nw cw, .int .i64 e.lo, .int .i64 e.hi, .slice aa na ca] 26) := ⟨_, rfl⟩
  have hxa : Ext w wa := by rw [hwa]; exact ((Ext.refl _).alloc _).alloc _
  have hb0 : wa.heap[w.heap.size]? = some (.cells #[.slice sa sn sc] 31 (0, 0)) := by rw [hwa]; exact blk_alloc (alloc_new w _)
  have hb1 : wa.heap[w.heap.size + 1]? = some (.cells #[.int .i64 e.op, .string e.name, .slice aw nw cw, .int .i64 e.lo, .int .i64 e.hi, .slice aa na ca] 26 (0, 0)) := by rw [hwa]; exact alloc_atR (by simp)
  have HXA := Lib.hid hxa
  have HB0 := Lib.hid hb0
  have HB1 := Lib.hid hb1
  obtain ⟨a0, af⟩ := blk1 hb0
  have hlt1 := blk_lt hb1
  have HV1 := Lib.hid (HV.out wa hxa)
  clear hxa hb0 hb1 HV
  go_enter Tryz.func51, Tryz.ntmps51
  go_upto_region 1 with fail
  rw [← hwa]
  clear hwa
  go_wp2_with fail
  refine HV1.out.mono ?_
  rintro r w3 ⟨rfl, hx3⟩
  have HX3 := Lib.hid (HXA.out.trans hx3)
  have hb03 := hx3.blk HB0.out
  have hb13 := hx3.blk HB1.out
  clear hx3 a0 af hlt1 HV1
  by_cases hz : E = 0
  case neg =>
    have tz : (E != 0) = true := by simp [hz]
    have HQ := Lib.hid (show R = E by rw [HR.out, if_pos hz])
    clear hz
    go_wp2_with fail
    go_ret
    exact givesE_of (by rw [HQ.out]) HX3.out
  have tz : (E != 0) = false := by simp [hz]
  have HQ := Lib.hid (show R = N by rw [HR.out, if_neg (by simpa using hz)])
  have HXX := Lib.hid (HX.out hz)
  clear hz HR HX
  obtain ⟨d0, df⟩ := blk1 hb03
  obtain ⟨f0, f1, f2, f3, f4, f5, ff⟩ := blk6 hb13
  clear hb03 hb13
  go_upto_region 4 with fail
  refine wp_region_grow (m := 6) [5] (GrG w3) GrE (GrP (cexpr4R l e aw nw cw aa na ca a n c sa sn sc N)) (by kernel_rfl) (by kernel_rfl) ((Ext.refl w3).drew) ?_ ?_ ?_
  · intro i k v W W' hi hk hne hout h hE
    have hE : Ext W W' := hE
    have hi' : i = 0 ∨ i = 1 ∨ i = 2 ∨ i = 3 ∨ i = 4 ∨ i = 5 := by omega
    clear hi hk hne hout
    rcases hi' with rfl | rfl | rfl | rfl | rfl | rfl
    · exact h
    · exact h
    · obtain ⟨bd, e0, h⟩ := h
      exact ⟨bd, e0, h.ext hE⟩
    · exact h
    · exact h
    · exact h
  · intro q op hq ho vs W hW hd ρ hρ
    have hq' : q = 0 ∨ q = 1 ∨ q = 2 ∨ q = 3 ∨ q = 4 ∨ q = 5 := by omega
    clear hq
    have o3 : ρ (.tmp 3) = .pointer (some ⟨w.heap.size, 0, none⟩) := hρ.out 3 rfl
    have o1 : ρ (.tmp 1) = .slice a n c := hρ.out 1 rfl
    have i1 := hρ.ins 1 14 (by omega) rfl (Nat.le_of_ble_eq_true rfl)
    have o5 : ρ (.tmp 5) = .pointer (some ⟨w.heap.size + 1, 0, none⟩) := hρ.out 5 rfl
    have i0 := hρ.ins 0 13 (by omega) rfl (Nat.le_of_ble_eq_true rfl)
    have i2 := hρ.ins 2 15 (by omega) rfl (Nat.le_of_ble_eq_true rfl)
    have i3 := hρ.ins 3 16 (by omega) rfl (Nat.le_of_ble_eq_true rfl)
    have i4 := hρ.ins 4 17 (by omega) rfl (Nat.le_of_ble_eq_true rfl)
    have hc := hρ.const
    have hfn := hρ.func
    clear hρ
    have HW := Lib.hid (show Ext w3 W from hW)
    rcases hq' with rfl | rfl | rfl | rfl | rfl | rfl
    · cases ho
      clear hd
      have g0 := HW.out.cell d0
      unfold GivesOp
      go_simp
      exact ⟨Ext.refl W, rfl⟩
    · cases ho
      clear hd
      unfold GivesOp
      go_simp
      exact ⟨Ext.refl W, rfl⟩
    · cases ho
      have h1 : vs 1 = .slice a n c := hd ⟨1, .data⟩ (by simp) rfl
      rw [h1] at i1
      clear hd
      unfold GivesOp
      go_simp
      refine (HD.out W (HX3.out.trans HW.out)).mono ?_
      rintro r w5 ⟨bd, rfl, hd5, hx5⟩
      exact ⟨_, rfl, hx5, HW.out.trans hx5, _, rfl, hd5⟩
    · cases ho
      clear hd
      have g0 := HW.out.cell f0
      have g1 := HW.out.cell f1
      have g2 := HW.out.cell f2
      have g3 := HW.out.cell f3
      have g4 := HW.out.cell f4
      have g5 := HW.out.cell f5
      unfold GivesOp
      go_simp
      exact ⟨Ext.refl W, rfl⟩
    · cases ho
      have h0 : vs 0 = .agg #[.slice sa sn sc] := hd ⟨0, .data⟩ (by simp) rfl
      rw [h0] at i0
      obtain ⟨bd, h2, hs2⟩ : ∃ bd, vs 2 = .map (some bd) ∧ DefsAt W l bd n := hd ⟨2, .data⟩ (by simp) rfl
      have HS2 := Lib.hid hs2
      clear hs2
      rw [h2] at i2
      have h3 : vs 3 = .agg #[.int .i64 e.op, .string e.name, .slice aw nw cw, .int .i64 e.lo, .int .i64 e.hi, .slice aa na ca] := hd ⟨3, .data⟩ (by simp) rfl
      rw [h3] at i3
      clear hd
      unfold GivesOp
      go_simp
      refine (HXX.out _ W (HX3.out.trans HW.out) HS2.out).mono ?_
      rintro r w5 ⟨rfl, hx5⟩
      exact ⟨_, rfl, hx5, HW.out.trans hx5, rfl⟩
    · cases ho
      have h4 : vs 4 = .int .i64 N := hd ⟨4, .data⟩ (by simp) rfl
      rw [h4] at i4
      clear hd
      unfold GivesOp
      go_simp
      exact ⟨Ext.refl W, rfl⟩
  intro vs W hW hR
  rw [if_pos (by decide +kernel)]
  have h5 : vs 5 = .int .i64 N := hR 5 (by simp) (by omega)
  simp only [acts, dstAt, List.range, List.range.loop, List.foldl_cons, List.foldl_nil, h5]
  go_simp
  have hW2 : Ext w3 W := hW
  clear hR hW h5
  have HXW := Lib.hid (HX3.out.trans hW2)
  clear hW2
  go_wp2_with fail
  go_ret
  exact givesE_of (by rw [HQ.out]) HXW.out
open Go.RowKit
theorem ref_size {e : Ex} (h : refExprB e = true) : e.size ≤ 300 := by
  rw [refExprB, Bool.and_eq_true, Bool.and_eq_true] at h
  have := h.1.2
  simp only [decide_eq_true_eq] at this
  unfold refSize at this
  omega
theorem Chk.size {s : List Attr} {l : List Cla} (h : Chk s l) : ∀ c ∈ l, c.cond.size ≤ 300 := fun c hc => ref_size (h.good c hc).2.2.1
theorem exprErr_ref {s : List Attr} {l : List Cla} {e : Ex} (h : exprErr s l e = 0) : refExprB e = true := by
  unfold exprErr at h
  by_cases h1 : schemaErr s ≠ 0
  · rw [if_pos h1] at h; exact absurd h h1
  rw [if_neg h1] at h
  unfold exprnErr at h
  cases hr : refExprB e
  · rw [hr] at h; cases h
  · rfl
open Go.RowKit
def condsW : List Wb → List Ex
  | [] => []
  | .mk _ c u :: r => c :: (condsW u ++ condsW r)
theorem condsW_len : (l : List Wb) → (condsW l).length = wbN l
  | [] => by simp [condsW, wbN]
  | .mk n c u :: r => by simp [condsW, wbN, condsW_len u, condsW_len r]; omega
theorem condsW_take_succ : (l : List Wb) → (k : Nat) → (hk : k < l.length) → condsW (l.take (k + 1)) = condsW (l.take k) ++ l[k].cond :: condsW l[k].unl
  | [], k, hk => by simp at hk
  | .mk n c u :: r, 0, _ => by simp [condsW, Wb.cond, Wb.unl]
  | .mk n c u :: r, k + 1, hk => by
    have := condsW_take_succ r k (by simpa using hk)
    simp [condsW] at this ⊢
    rw [this]
def GnX (k : Nat) (W W' : World) : Prop := k ≠ 4 → k ≠ 7 → Ext W W'
def GrXL (V : Value) (wr : World) (L : List Nat) (_ : Nat → Value) (W : World) : Prop := Chg (rowOf V) wr W ∧ (4 ∉ L → 7 ∉ L → Ext wr W)
theorem grx_step {V : Value} {wr W W' : World} {L : List Nat} {vs : Nat → Value} {i : Nat} {v : Value} (h : GrXL V wr L vs W) (hx : Ext W W') : GrXL V wr (L ++ [i]) (upd vs i v) W' :=
  ⟨h.1.then (hx.chg _), fun h4 h7 => (h.2 (fun hm => h4 (List.mem_append_left _ hm)) (fun hm => h7 (List.mem_append_left _ hm))).trans hx⟩
theorem grx_brk {V : Value} {wr W' : World} {L : List Nat} {vs : Nat → Value} {i : Nat} {v : Value} (hi : i = 4 ∨ i = 7) (hc : Chg (rowOf V) wr W') : GrXL V wr (L ++ [i]) (upd vs i v) W' :=
  ⟨hc, fun h4 h7 => by rcases hi with rfl | rfl; exact absurd (by simp) h4; exact absurd (by simp) h7⟩
theorem ExsR.app {w : World} {l l' : List Ex} {xs xs' : List ExV} (h : ExsR w l xs) (h' : ExsR w l' xs') : ExsR w (l ++ l') (xs ++ xs') := by
  refine ⟨by simp [h.1, h'.1], fun i h1 h2 => ?_⟩
  by_cases hi : i < l.length
  · have hi2 : i < xs.length := by rw [← h.1]; exact hi
    simp only [List.getElem_append_left hi, List.getElem_append_left hi2]
    exact h.2 i hi hi2
  · have hi2 : xs.length ≤ i := by have := h.1; omega
    simp only [List.getElem_append_right (Nat.le_of_not_lt hi), List.getElem_append_right hi2]
    have e := h.1
    have := h'.2 (i - l.length) (by simp at h1; omega) (by simp at h2; omega)
    simpa [e] using this
def ExcQ (w0 : World) (B : Nat) (l : List Wb) (V : Value) (n : Nat) (zs : List Value) (w : World) (e : Ending) (w' : World) : Prop := ∃ (v : Value) (ys : List ExV), e = .returned v ∧ w'.ownsRow B 26 6 v (n + wbN l) (zs ++ ys.flatMap ExV.cells) ∧ ExsR w0 (condsW l) ys ∧
  Chg (rowOf V) w w' ∧ (∀ k, v.ownBlock = some k → V.ownBlock = some k ∨ w.heap.size ≤ k)
def ExcL (w0 : World) (B : Nat) (l : List Wb) (V : Value) (n : Nat) (zs : List Value) (w : World) (nl : Nat) (v t : Value) (wr : World) : Prop := ∃ (k : Nat) (ys : List ExV), t = .int .i64 ((k : Nat) : Int) ∧ k ≤ nl ∧ wr.ownsRow B 26 6 v (n + wbN (l.take k)) (zs ++ ys.flatMap ExV.cells) ∧ ExsR w0 (condsW (l.take k)) ys ∧
  Chg (rowOf V) w wr ∧ (∀ k, v.ownBlock = some k → V.ownBlock = some k ∨ w.heap.size ≤ k)
def exc4R (w0 wx : World) (B : Nat) (va : Option Addr) (vn vc : Nat) (zk : List Value) (rv : WbV) (U : List Wb) (y : Nat) : Nat → Value → World → Prop
  | 0, u, _ => u = (.slice va vn vc)
  | 1, u, _ => u = .pointer (some ⟨y, 1, none⟩)
  | 2, u, _ => u = .agg #[.int .i64 rv.x.op, .string rv.x.name, .slice rv.x.aw rv.x.nw rv.x.cw, .int .i64 rv.x.lo, .int .i64 rv.x.hi, .slice rv.x.aa rv.x.na rv.x.ca]
  | 3, u, W => ∃ (g : Nat), u = .slice (some ⟨g, 0, none⟩) 1 1 ∧ W.heap[g]? = some (.cells rv.x.cells.toArray 26 (0, 0))
  | 4, u, W => ∃ (gg : Nat) (cp : Nat), u = .slice (some ⟨gg, 0, none⟩) (vn + 1) cp ∧ (W.ownsRow B 26 6 (.slice (some ⟨gg, 0, none⟩) (vn + 1) cp) (vn + 1) (zk ++ rv.x.cells) ∧ (Value.ownBlock (.slice va vn vc) = some gg ∨ wx.heap.size ≤ gg))
  | 5, u, _ => u = .pointer (some ⟨y, 7, none⟩)
  | 6, u, _ => u = .slice rv.au rv.nu rv.cu
  | _, u, W => ∃ (v2 : Value) (ysn : List ExV), u = v2 ∧ (W.ownsRow B 26 6 v2 (vn + 1 + wbN U) (zk ++ rv.x.cells ++ ysn.flatMap ExV.cells) ∧ ExsR w0 (condsW U) ysn ∧ ∀ q, v2.ownBlock = some q → Value.ownBlock (.slice va vn vc) = some q ∨ wx.heap.size ≤ q)
set_option maxRecDepth 100000 in
set_option maxHeartbeats 8000000 in
theorem exceptions_calls {w0 : World} (fm : Nat) : ∀ (l : List Wb) (a : Option Addr) (nl c B : Nat) (V : Value) (n : Nat) (zs : List Value) (w : World), wbN l < fm → nl = l.length → n + wbN l ≤ 10000 → WbsD w0 l a → Ext w0 w → w0.heap.size ≤ B → B ≤ w.heap.size → w.ownsRow B 26 6 V n zs →
    Calls Tryz.prog 98 #[V, .slice a nl c] w (ExcQ w0 B l V n zs w) := by
  induction fm with
  | zero => intro l a nl c B V n zs w h; omega
  | succ fm ih =>
    intro l a nl c B V n zs w hfm hln hnb hdat hx0 hB hBw hown
    have HD := Lib.hid hdat
    have HN := Lib.hid hln
    have HX0 := Lib.hid hx0
    have HOW0 := Lib.hid hown
    have IH := Lib.hid ih
    have HB := Lib.hid hB
    have HBW := Lib.hid hBw
    have hwl := wbN_len l
    have hnl : nl ≤ 10000 := by omega
    clear hdat hln hx0 ih hown
    go_enter Tryz.func98, Tryz.ntmps98
    go_wp2_with fail
    go_loopw [0, 9] (ExcL w0 B l V n zs w nl) (fun _ t _ => nl - (intOf t).toNat)
    case atStart => exact ⟨0, [], rfl, by omega, by simpa [wbN] using HOW0.out, by simp [condsW, ExsR.nil], Chg.refl _ _, fun k hk => Or.inl hk⟩
    case round =>
      obtain ⟨k, ys, rfl, hk, how, hys, hch, hfr⟩ := hrel
      obtain ⟨va, vc, hv⟩ := owns_formG how
      subst hv
      obtain ⟨vn, hvn⟩ : ∃ vn, vn = n + wbN (l.take k) := ⟨_, rfl⟩
      rw [← hvn] at how hfr ⊢
      have HVN := Lib.hid hvn
      have hvb : vn ≤ 10000 := by have := wbN_take_le l k; omega
      obtain ⟨zk, hzk⟩ : ∃ zk, zk = zs ++ ys.flatMap ExV.cells := ⟨_, rfl⟩
      rw [← hzk] at how
      have HZK := Lib.hid hzk
      have HOW := Lib.hid how
      have HYS := Lib.hid hys
      have HCH := Lib.hid hch
      have HFR := Lib.hid hfr
      have HXR := Lib.hid (show Ext w0 wr from hch.ext HX0.out (fun y hy => by have := (HOW0.out.lt y (mem_rowOf.1 hy)).1; have := HB.out; omega))
      clear hvn hzk how hys hch hfr
      by_cases hkn : k < nl
      case neg =>
        have t1 : decide ((k : Int) < (nl : Int)) = false := decide_eq_false (by omega)
        have HT := Lib.hid (show l.take k = l from List.take_of_length_le (by have := HN.out; omega))
        go_wp2_with fail
        go_ret
        refine ⟨_, ys, rfl, ?_, ?_, HCH.out, HFR.out⟩
        · have h1 := HOW.out
          have h2 := HVN.out
          rw [HT.out] at h2
          rw [← h2, ← HZK.out]
          exact h1
        · have := HYS.out
          rwa [HT.out] at this
      have hkl : k < l.length := by have := HN.out; omega
      have t1 : decide ((k : Int) < (nl : Int)) = true := decide_eq_true (by omega)
      obtain ⟨b, off, rfl, rv, hv0, hrow, hv2, hv3, hv4, hv5, hv6⟩ := WbsD.at l _ HD.out k hkl
      obtain ⟨c0, c1, c2, c3, c4, c5, c6, c7⟩ := (hrow.mono HXR.out.sub).eight
      have hwn := wbN_at l k hkl
      have HU := Lib.hid hv6
      have HUN := Lib.hid hv3
      have HEX := Lib.hid hv2
      have HTS := Lib.hid (wbN_take_succ l k hkl)
      have HCT := Lib.hid (condsW_take_succ l k hkl)
      have HTL := Lib.hid (wbN_take_le l (k + 1))
      have hunb : vn + 1 + wbN l[k].unl ≤ 10000 := by have h1 := wbN_take_le l (k + 1); have h2 := wbN_take_succ l k hkl; have h3 := HVN.out; omega
      have hufm : wbN l[k].unl < fm := by omega
      clear hrow hv0 hv2 hv3 hv4 hv5 hv6
      obtain ⟨y, hy⟩ : ∃ y, y = wr.heap.size := ⟨_, rfl⟩
      obtain ⟨wx, hwx⟩ : ∃ wx, wx = wr.alloc (.cells #[.string rv.name, .int .i64 rv.x.op, .string rv.x.name, .slice rv.x.aw rv.x.nw rv.x.cw, .int .i64 rv.x.lo, .int .i64 rv.x.hi, .slice rv.x.aa rv.x.na rv.x.ca, .slice rv.au rv.nu rv.cu] 121) := ⟨_, rfl⟩
      have HBX := Lib.hid (show wx.heap[y]? = some (.cells #[.string rv.name, .int .i64 rv.x.op, .string rv.x.name, .slice rv.x.aw rv.x.nw rv.x.cw, .int .i64 rv.x.lo, .int .i64 rv.x.hi, .slice rv.x.aa rv.x.na rv.x.ca, .slice rv.au rv.nu rv.cu] 121 (0, 0)) by rw [hwx, hy]; exact alloc_new wr _)
      have HXX := Lib.hid (show Ext wr wx by rw [hwx]; exact (Ext.refl _).alloc _)
      have HYN := Lib.hid (show y ∉ rowOf (.slice va vn vc) from fun h => by have := (HOW.out.lt y (mem_rowOf.1 h)).2; omega)
      have HOX := Lib.hid (owns_extG HOW.out HXX.out)
      have HYW := Lib.hid (show wr.heap.size ≤ y by omega)
      go_upto_region 4 with fail
      rw [← hwx, ← hy]
      clear hwx c0 c1 c2 c3 c4 c5 c6 c7 hy
      obtain ⟨U, hU⟩ : ∃ U, U = l[k].unl := ⟨_, rfl⟩
      rw [← hU] at HU HUN hunb hufm HTS HCT
      have HBX2 := Lib.hid (show B ≤ wx.heap.size from Nat.le_trans HBW.out (Nat.le_trans HCH.out.size HXX.out.size))
      clear hU
      refine wp_region_growLG (n := 0) (m := 8) [7] (GrXL (.slice va vn vc) wx) GnX (GrP (exc4R w0 wx B va vn vc zk rv U y)) (by kernel_rfl) (by kernel_rfl) (Nat.le_of_ble_eq_true rfl) ?gd ⟨((Ext.refl wx).drew).chg _, fun _ _ => (Ext.refl wx).drew⟩ ?_ ?_ ?_
      case gd =>
        intro i o j b hi ho hg
        have hi' : i = 0 ∨ i = 1 ∨ i = 2 ∨ i = 3 ∨ i = 4 ∨ i = 5 ∨ i = 6 ∨ i = 7 := by omega
        rcases hi' with rfl | rfl | rfl | rfl | rfl | rfl | rfl | rfl <;> (cases ho; first | (cases hg; done) | (cases hg; intro v W h; exact h))
      · intro i k v W W' hi hk hne hout h hE
        have hi' : i = 0 ∨ i = 1 ∨ i = 2 ∨ i = 3 ∨ i = 4 ∨ i = 5 ∨ i = 6 ∨ i = 7 := by omega
        clear hi hk
        by_cases hk : k = 4
        · subst hk
          rcases hi' with rfl | rfl | rfl | rfl | rfl | rfl | rfl | rfl
          · exact h
          · exact h
          · exact h
          · exact absurd hout (by decide +kernel)
          · exact absurd rfl hne
          · exact h
          · exact h
          · exact absurd hout (by decide +kernel)
        by_cases hk : k = 7
        · subst hk
          rcases hi' with rfl | rfl | rfl | rfl | rfl | rfl | rfl | rfl
          · exact h
          · exact h
          · exact h
          · exact absurd hout (by decide +kernel)
          · exact absurd hout (by decide +kernel)
          · exact h
          · exact h
          · exact absurd rfl hne
        have hE : Ext W W' := (hE ‹_› ‹_›)
        rcases hi' with rfl | rfl | rfl | rfl | rfl | rfl | rfl | rfl
        · exact h
        · exact h
        · exact h
        · obtain ⟨g, e0, h⟩ := h
          exact ⟨g, e0, hE.blk h⟩
        · obtain ⟨gg, cp, e0, h⟩ := h
          exact ⟨gg, cp, e0, ⟨owns_extG h.1 hE, h.2⟩⟩
        · exact h
        · exact h
        · obtain ⟨v2, ysn, e0, h⟩ := h
          exact ⟨v2, ysn, e0, ⟨owns_extG h.1 hE, h.2⟩⟩
      · intro q op hq ho L vs W hqL hcL hW hd ρ hρ
        have hq' : q = 0 ∨ q = 1 ∨ q = 2 ∨ q = 3 ∨ q = 4 ∨ q = 5 ∨ q = 6 ∨ q = 7 := by omega
        clear hq
        have o0 : ρ (.tmp 0) = (.slice va vn vc) := hρ.out 0 rfl
        have o6 : ρ (.tmp 6) = .pointer (some ⟨y, 0, none⟩) := hρ.out 6 rfl
        have i1 := hρ.ins 1 14 (by omega) rfl (Nat.le_of_ble_eq_true rfl)
        have i2 := hρ.ins 2 15 (by omega) rfl (Nat.le_of_ble_eq_true rfl)
        have i0 := hρ.ins 0 13 (by omega) rfl (Nat.le_of_ble_eq_true rfl)
        have i3 := hρ.ins 3 16 (by omega) rfl (Nat.le_of_ble_eq_true rfl)
        have i5 := hρ.ins 5 18 (by omega) rfl (Nat.le_of_ble_eq_true rfl)
        have i4 := hρ.ins 4 17 (by omega) rfl (Nat.le_of_ble_eq_true rfl)
        have i6 := hρ.ins 6 19 (by omega) rfl (Nat.le_of_ble_eq_true rfl)
        have hc := hρ.const
        have hfn := hρ.func
        clear hρ
        rcases hq' with rfl | rfl | rfl | rfl | rfl | rfl | rfl | rfl
        · have HG := Lib.hid hW
          have HW := Lib.hid (show Chg (rowOf (.slice va vn vc)) wx W from hW.1)
          have HQL := Lib.hid hqL
          clear hW hqL hcL
          cases ho
          clear hd
          unfold GivesOp
          go_simp
          exact ⟨fun _ _ => Ext.refl W, grx_step HG.out (Ext.refl W), rfl⟩
        · have HG := Lib.hid hW
          have HW := Lib.hid (show Chg (rowOf (.slice va vn vc)) wx W from hW.1)
          have HQL := Lib.hid hqL
          clear hW hqL hcL
          cases ho
          clear hd
          unfold GivesOp
          go_simp
          exact ⟨fun _ _ => Ext.refl W, grx_step HG.out (Ext.refl W), rfl⟩
        · have HG := Lib.hid hW
          have HW := Lib.hid (show Chg (rowOf (.slice va vn vc)) wx W from hW.1)
          have HQL := Lib.hid hqL
          clear hW hqL hcL
          cases ho
          have h1 : vs 1 = .pointer (some ⟨y, 1, none⟩) := hd ⟨1, .data⟩ (by simp) rfl
          rw [h1] at i1
          clear hd
          obtain ⟨g0, g1, g2, g3, g4, g5, g6, g7, gf⟩ := blk8 (HW.out.blk HBX.out HYN.out)
          unfold GivesOp
          go_simp
          exact ⟨fun _ _ => Ext.refl W, grx_step HG.out (Ext.refl W), rfl⟩
        · have HG := Lib.hid hW
          have HW := Lib.hid (show Chg (rowOf (.slice va vn vc)) wx W from hW.1)
          have HQL := Lib.hid hqL
          clear hW hqL hcL
          cases ho
          have h2 : vs 2 = .agg #[.int .i64 rv.x.op, .string rv.x.name, .slice rv.x.aw rv.x.nw rv.x.cw, .int .i64 rv.x.lo, .int .i64 rv.x.hi, .slice rv.x.aa rv.x.na rv.x.ca] := hd ⟨2, .data⟩ (by simp) rfl
          rw [h2] at i2
          clear hd
          unfold GivesOp
          go_simp
          exact ⟨fun _ _ => (Ext.refl W).alloc _, grx_step HG.out ((Ext.refl W).alloc _), W.heap.size, rfl, alloc_new W _⟩
        · have HN7 := Lib.hid (show 7 ∉ L from fun h => absurd (hcL 7 h) (by decide +kernel))
          have HG := Lib.hid hW
          have HW := Lib.hid (show Chg (rowOf (.slice va vn vc)) wx W from hW.1)
          have HQL := Lib.hid hqL
          clear hW hqL hcL
          cases ho
          have h0 : vs 0 = (.slice va vn vc) := hd ⟨0, .data⟩ (by simp) rfl
          rw [h0] at i0
          obtain ⟨g, h3, hs3⟩ : ∃ (g : Nat), vs 3 = .slice (some ⟨g, 0, none⟩) 1 1 ∧ W.heap[g]? = some (.cells rv.x.cells.toArray 26 (0, 0)) := hd ⟨3, .data⟩ (by simp) rfl
          have HS3 := Lib.hid hs3
          clear hs3
          rw [h3] at i3
          clear hd
          have HXW := Lib.hid (HG.out.2 HQL.out HN7.out)
          refine gives_append elemEx _ _ B _ vn zk i0 g 1 1 rv.x.cells i3 rfl (by simp [ExV.cells, Value.oneCell']) (by omega) (by omega) (by omega) (owns_extG HOX.out HXW.out) (fun j hj => by rw [blk_cell HS3.out]; simp [hj]) (by have := HBX2.out; have := HXW.out.size; omega) ?_
          intro g6 cap6 w6 ho6 hg6 hl6 hlt6
          exact ⟨fun h => absurd rfl h, grx_brk (Or.inl rfl) (HW.out.then (grown_chg hg6)), g6, cap6, rfl, ho6, by rcases hl6 with h | h; exact Or.inl h; exact Or.inr (by have := HXW.out.size; omega)⟩
        · have HG := Lib.hid hW
          have HW := Lib.hid (show Chg (rowOf (.slice va vn vc)) wx W from hW.1)
          have HQL := Lib.hid hqL
          clear hW hqL hcL
          cases ho
          clear hd
          unfold GivesOp
          go_simp
          exact ⟨fun _ _ => Ext.refl W, grx_step HG.out (Ext.refl W), rfl⟩
        · have HG := Lib.hid hW
          have HW := Lib.hid (show Chg (rowOf (.slice va vn vc)) wx W from hW.1)
          have HQL := Lib.hid hqL
          clear hW hqL hcL
          cases ho
          have h5 : vs 5 = .pointer (some ⟨y, 7, none⟩) := hd ⟨5, .data⟩ (by simp) rfl
          rw [h5] at i5
          clear hd
          obtain ⟨g0, g1, g2, g3, g4, g5, g6, g7, gf⟩ := blk8 (HW.out.blk HBX.out HYN.out)
          unfold GivesOp
          go_simp
          exact ⟨fun _ _ => Ext.refl W, grx_step HG.out (Ext.refl W), rfl⟩
        · have HG := Lib.hid hW
          have HW := Lib.hid (show Chg (rowOf (.slice va vn vc)) wx W from hW.1)
          have HQL := Lib.hid hqL
          clear hW hqL hcL
          cases ho
          obtain ⟨gg, cp, h4, hs4⟩ : ∃ (gg : Nat) (cp : Nat), vs 4 = .slice (some ⟨gg, 0, none⟩) (vn + 1) cp ∧ (W.ownsRow B 26 6 (.slice (some ⟨gg, 0, none⟩) (vn + 1) cp) (vn + 1) (zk ++ rv.x.cells) ∧ (Value.ownBlock (.slice va vn vc) = some gg ∨ wx.heap.size ≤ gg)) := hd ⟨4, .data⟩ (by simp) rfl
          have HS4 := Lib.hid hs4
          clear hs4
          rw [h4] at i4
          have h6 : vs 6 = .slice rv.au rv.nu rv.cu := hd ⟨6, .data⟩ (by simp) rfl
          rw [h6] at i6
          clear hd
          unfold GivesOp
          go_simp
          have HXW0 : Ext w0 W := HW.out.ext (HXR.out.trans HXX.out) (fun q hq => by have := (HOX.out.lt q (mem_rowOf.1 hq)).1; have := HB.out; omega)
          refine (IH.out U rv.au rv.nu rv.cu B _ (vn + 1) _ W hufm HUN.out (by omega) HU.out HXW0 HB.out (by have := HBX2.out; have := HW.out.size; omega) HS4.out.1).mono ?_
          rintro r w6 ⟨v6, ys6, rfl, k1, k2, k3, k4⟩
          have hrow : ∀ q, some gg = some q → q ∈ rowOf (.slice va vn vc) ∨ wx.heap.size ≤ q := fun q hq => by
            obtain rfl : gg = q := by simpa using hq
            rcases HS4.out.2 with h | h
            · exact Or.inl (mem_rowOf.2 h)
            · exact Or.inr h
          exact ⟨_, rfl, fun _ h => absurd rfl h, grx_brk (Or.inr rfl) (HW.out.trans k3 (fun q hq => hrow q (mem_rowOf.1 hq))), v6, ys6, rfl, k1, k2, fun q hq => by
            rcases k4 q hq with h | h
            · exact (hrow q h).imp mem_rowOf.1 id
            · exact Or.inr (by have := HW.out.size; omega)⟩
      intro L vs W hLm hW hR
      rw [if_neg (by decide +kernel)]
      obtain ⟨v2, ysn, h7, hs7⟩ : ∃ (v2 : Value) (ysn : List ExV), vs 7 = v2 ∧ (W.ownsRow B 26 6 v2 (vn + 1 + wbN U) (zk ++ rv.x.cells ++ ysn.flatMap ExV.cells) ∧ ExsR w0 (condsW U) ysn ∧ ∀ q, v2.ownBlock = some q → Value.ownBlock (.slice va vn vc) = some q ∨ wx.heap.size ≤ q) := hR 7 (by simp) (by omega)
      have HS7 := Lib.hid hs7
      clear hs7
      refine wpOp_lastG rfl ?_
      change wpList _ _ _ [⟨some 0, .assign (.tmp 20), _, _, _, none⟩] _ _
      simp only [acts, dstAt, List.range, List.range.loop, List.foldl_cons, List.foldl_nil, h7]
      go_simp
      have hW2 : Chg (rowOf (.slice va vn vc)) wx W := hW.1
      clear hR hW hLm h7
      obtain ⟨h1, h2, h3⟩ := HS7.out
      have HO8 := Lib.hid h1
      have HY8 := Lib.hid h2
      have HF8 := Lib.hid h3
      have HC8 := Lib.hid (show Chg (rowOf (.slice va vn vc)) wx W from hW2)
      clear HS7 hW2 h1 h2 h3
      go_wp2_with fail
      go_roundw
      case rel =>
        refine ⟨k + 1, ys ++ rv.x :: ysn, by go_num, by omega, ?_, ?_, ?_, ?_⟩
        · have h1 := HO8.out
          have h2 : vn + 1 + wbN U = n + wbN (l.take (k + 1)) := by have := HVN.out; have := HTS.out; omega
          rw [h2, HZK.out] at h1
          simpa using h1
        · rw [HCT.out]
          refine HYS.out.app ?_
          have h1 : ExsR w0 [l[k].cond] [rv.x] := (ExsR.nil w0).snoc HEX.out
          have := h1.app HY8.out
          simpa using this
        · refine (HCH.out.then (HXX.out.chg _)).trans HC8.out fun y hy => ?_
          rcases HFR.out y (mem_rowOf.1 hy) with h | h
          · exact Or.inl (mem_rowOf.2 h)
          · exact Or.inr h
        · intro q hq
          rcases HF8.out q hq with h | h
          · exact HFR.out q h
          · exact Or.inr (by have h1 := HCH.out.size; have h2 := HXX.out.size; omega)
      case measure => simp [intOf]; omega
end Go.Proofs.YtpkljcgihobaiaaGreatDoor
