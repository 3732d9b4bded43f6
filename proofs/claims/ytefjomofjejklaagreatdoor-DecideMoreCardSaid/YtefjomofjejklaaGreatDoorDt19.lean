/-
  Texts of the claim, joined: Use0, Snoc, Loss, CExpr, EvalE, Conds.
-/
import Derived.Test.YtefjomofjejklaaGreatDoorDt18
namespace Go.Proofs.YtefjomofjejklaaGreatDoor
set_option maxRecDepth 100000
set_option maxHeartbeats 32000000
theorem Used.top_of {l : List Cla} {e : Ex} {u : List Cla} (h : Used l e u) (hx : expanded l e <= 2000) : Sorts (u.map Cla.dfn) := by
 -- a longest list of definitions in order
 have hmax : ∀ k, ∀ o, RInv (u.map Cla.dfn) o -> countOf (u.map Cla.dfn) - o.length <= k -> ∃ o, RInv (u.map Cla.dfn) o /\ ∀ i, isDef (u.map Cla.dfn) i = true -> i ∉ o -> missL (u.map Cla.dfn) o i ≠ [] := by
  intro k
  induction k with
  | zero =>
   intro o ho hk
   refine ⟨o, ho, fun i hd hi => ?_⟩
   have := ho.lt hd hi
   omega
  | succ k ih =>
   intro o ho hk
   by_cases hs : ∀ i, isDef (u.map Cla.dfn) i = true -> i ∉ o -> missL (u.map Cla.dfn) o i ≠ []
   ·exact ⟨o, ho, hs⟩
   obtain ⟨i, hd, hi, hm⟩ : ∃ i, isDef (u.map Cla.dfn) i = true /\ i ∉ o /\ missL (u.map Cla.dfn) o i = [] := by
    refine Classical.byContradiction fun hn => hs fun i h1 h2 h3 => hn ⟨i, h1, h2, h3⟩
   refine ih (o ++ [i]) (ho.snoc hd hi hm) ?_
   have := ho.lt hd hi
   simp only [List.length_append, List.length_singleton]
   omega
 obtain ⟨o, ho, hs⟩ := hmax _ [] (RInv.start _) (Nat.le_refl _)
 refine ⟨o, ho.done fun i hd => Classical.byContradiction fun hi => ?_⟩
 have hbad : ∀ f i, (hi : i < u.length) -> i ∉ o -> expF u f u[i].cond = 2001 := by
  intro f
  induction f with
  | zero => intro i _ _; rfl
  | succ f ih =>
   intro i hi hio
   have hdef : isDef (u.map Cla.dfn) i = true := by rw [isDef_dfn hi, (h.defs _ (List.getElem_mem hi)).1]; rfl
   obtain ⟨s, hs⟩ := List.exists_mem_of_ne_nil _ (hs i hdef hio)
   obtain ⟨h1, d, h2, h3⟩ := mem_miss.1 hs
   rw [usesAt_dfn hi, refNames_mem] at h1
   rw [firstAt_dfn] at h2
   have hdl := defAt_lt h2
   refine expF_ge h1 h2 ?_
   rw [getD_cla hdl]
   exact ih d hdl h3
 have hil : i < u.length := by simpa using isDef_lt hd
 obtain ⟨_, d, h1, h2, h3⟩ := h.defs _ (List.getElem_mem hil)
 have := h3.large (fun f => by
  rw [<- h2, <- h.same f u[i].cond (h.closed _ (List.getElem_mem hil))]
  exact hbad f i hil hi) (l.length + 1)
 unfold expanded at hx
 omega
theorem Used.size {l : List Cla} {e : Ex} {u : List Cla} (h : Used l e u) (hs : Sorts (u.map Cla.dfn)) {x : Ex} (hx : ∀ s ∈ namesE x, ∀ d, Proofs.YtefjomofjejklaaGreatDoor.defAt l s = some d -> s ∈ u.map (·.name)) : expanded u x = expanded l x := by
 obtain ⟨o, ht⟩ := hs
 unfold expanded
 rw [<- h.same (l.length + 1) x hx, expF, expF]
 refine expE_congr _ fun s hs => ?_
 cases hd : Proofs.YtefjomofjejklaaGreatDoor.defAt u s with
 | none => rfl
 | some i =>
  have hi := defAt_lt hd
  have hio : i ∈ o := (ht.all i).2 (by rw [isDef_dfn hi, (h.defs _ (List.getElem_mem hi)).1]; rfl)
  obtain ⟨q, hq⟩ := List.mem_iff_getElem?.1 hio
  have hql : q < o.length := (List.getElem?_eq_some_iff.1 hq).1
  have h1 := ht.len
  have h2 := h.len
  simp only [List.length_map] at h1
  simp only [Option.map_some, Option.some.injEq]
  exact expF_stable ht q i hq _ _ (by omega) (by omega)
theorem Used.valF {l : List Cla} {e : Ex} {u : List Cla} (h : Used l e u) (s : List Attr) (f : ZI) : ∀ k x, (∀ t ∈ namesE x, ∀ d, Proofs.YtefjomofjejklaaGreatDoor.defAt l t = some d -> t ∈ u.map (·.name)) -> Proofs.YtefjomofjejklaaGreatDoor.valF s u f k x = Proofs.YtefjomofjejklaaGreatDoor.valF s l f k x := by
 intro k
 induction k with
 | zero => intro x _; rfl
 | succ k ih =>
  intro x hx
  rw [Proofs.YtefjomofjejklaaGreatDoor.valF, Proofs.YtefjomofjejklaaGreatDoor.valF]
  refine valE_congr _ fun t ht => ?_
  cases hd : Proofs.YtefjomofjejklaaGreatDoor.defAt l t with
  | none => rw [h.only hd]; rfl
  | some d =>
   obtain ⟨i, d', hi, h1, h2, h3⟩ := h.at (hx t ht d hd)
   rw [hd] at h2
   cases h2
   rw [h1]
   simp only [Option.map_some, h3, Option.some.injEq]
   refine ih _ fun t2 ht2 d2 hd2 => ?_
   rw [<- h3, getD_cla hi] at ht2
   exact h.closed _ (List.getElem_mem hi) t2 ht2 d2 hd2
theorem Used.nodes {l : List Cla} {e : Ex} {u : List Cla} (h : Used l e u) (s : List Attr) : (x : Ex) -> (∀ t ∈ namesE x, ∀ d, Proofs.YtefjomofjejklaaGreatDoor.defAt l t = some d -> t ∈ u.map (·.name)) -> nodesErr s u x = nodesErr s l x
 | .mk op name words lo hi args, hx => by
  have hn : nodeErr s u op name words lo hi = nodeErr s l op name words lo hi := by
   unfold nodeErr
   by_cases h3 : op = 3
   ·rw [if_pos h3, if_pos h3]
    cases attrAt s name with
    | some i => rfl
    | none =>
     cases hd : Proofs.YtefjomofjejklaaGreatDoor.defAt l name with
     | none => rw [h.only hd]
     | some d =>
      obtain ⟨i, _, _, h1, _⟩ := h.at (hx name (by rw [namesE, h3]; simp) d hd)
      rw [h1]
      rfl
   rw [if_neg h3, if_neg h3]
  rw [nodesErr, nodesErr, hn, nodesL args fun t ht => hx t (by rw [namesE]; exact List.mem_append_right _ ht)]
where
 nodesL : (r : List Ex) -> (∀ t ∈ namesL r, ∀ d, Proofs.YtefjomofjejklaaGreatDoor.defAt l t = some d -> t ∈ u.map (·.name)) -> nodesErrL s u r = nodesErrL s l r
  | [], _ => by rw [nodesErrL, nodesErrL]
  | x :: r, hx => by
   rw [nodesErrL, nodesErrL, Used.nodes h s x fun t ht => hx t (by rw [namesL]; exact List.mem_append_left _ ht), nodesL r fun t ht => hx t (by rw [namesL]; exact List.mem_append_right _ ht)]
theorem clsB_of {s : List Attr} {l : List Cla} (h : (clausesErr s l).2 = 0) : ∀ c ∈ l, clauseB c = true := by
 have hc := chk_of h
 unfold clausesErr at h
 rw [if_neg (by simp [hc.sch]), if_neg (by have := hc.len; omega)] at h
 by_cases h3 : (firstI (claErr s l) l.length).2 ≠ 0
 ·rw [if_pos h3] at h; exact absurd h h3
 have h1 := firstI_none l.length (by simpa using h3)
 intro c hc
 obtain ⟨i, hi, rfl⟩ := List.getElem_of_mem hc
 have g := h1 i hi
 unfold claErr at g
 rw [getD_clK hi] at g
 by_cases q1 : clauseB l[i] = false
 ·rw [if_pos q1] at g; cases g
 simpa using q1
def UsedC (l : List Cla) (e : Ex) (u : List Cla) : Prop := Used l e u /\ ∀ c ∈ u, c ∈ l
theorem UsedC.err {s : List Attr} {l : List Cla} {e : Ex} {u : List Cla} (h : UsedC l e u) (hc : (clausesErr s l).2 = 0) (hx : expanded l e <= 2000) : (clausesErr s u).2 = 0 := by
 obtain ⟨hu, hm⟩ := h
 have hck := chk_of hc
 have hss := hu.top_of hx
 have hlen : u.length <= l.length := hu.len
 -- what is known of a definition
 have hdf : ∀ c ∈ u, clauseB c = true /\ attrAt s c.name = none /\ nodesErr s l c.cond = 0 /\ c.unl = [] /\ expanded l c.cond <= 2000 := by
  intro c hcu
  obtain ⟨q1, q2, q3, q4, q5⟩ := hck.good c (hm c hcu)
  have hcb := (clsB_of hc) c (hm c hcu)
  have hk := (hu.defs c hcu).1
  refine ⟨hcb, q5, q2, ?_, hck.exp c (hm c hcu)⟩
  simp only [clauseB, Bool.and_eq_true, Bool.or_eq_true, decide_eq_true_eq, beq_iff_eq] at hcb
  obtain ⟨⟨_, a5⟩, _⟩ := hcb
  rcases a5 with a5 | ⟨⟨b1, _⟩, _⟩
  ·exact List.eq_nil_of_length_eq_zero a5
  omega
 have hz : ∀ i, i < u.length -> claErr s u i = 0 := by
  intro i hi
  have hcu := List.getElem_mem hi
  obtain ⟨q1, q2, q3, q4, q5⟩ := hdf _ hcu
  unfold claErr
  rw [getD_cla hi]
  rw [if_neg (by simp [q1]), if_neg ?_, if_neg (by simp [q2]), if_neg ?_, q4]
  ·rw [backsErr]
  ·rw [hu.nodes s u[i].cond (hu.closed _ hcu), q3]; simp
  -- the first with that name
  have : findAt u u[i].name = some i := by
   unfold findAt
   rw [List.findIdx?_eq_some_iff_getElem]
   refine ⟨hi, by simp, fun j hj => ?_⟩
   have := (List.pairwise_iff_getElem.1 hu.names) j i (by simp; omega) (by simpa using hi) hj
   simpa using this
  rw [this]
  simp
 have hg : ∀ i, i < u.length -> claLarge u i = 0 := by
  intro i hi
  have hcu := List.getElem_mem hi
  obtain ⟨_, _, _, q4, q5⟩ := hdf _ hcu
  unfold claLarge
  rw [getD_cla hi, q4, hu.size hss (hu.closed _ hcu), if_neg]
  rw [backsLarge]
  simp; omega
 unfold clausesErr
 rw [if_neg (by simp [hck.sch]), if_neg (by have := hck.len; omega), firstI_zero _ hz]
 rw [if_neg (by simp), if_neg (by simp [hss]), firstI_zero _ hg]
theorem UsedC.eval {s : List Attr} {l : List Cla} {e : Ex} {u : List Cla} {f : ZI} (h : UsedC l e u) (hc : (clausesErr s l).2 = 0) (hr : refExprB e = true) (hn : nodesErr s l e = 0) (hx : expanded l e <= 2000) (hf : factsB s f = true) : evalErr s u e f = 0 /\ val s u f e = val s l f e := by
 have h1 := h.err hc hx
 obtain ⟨hu, hm⟩ := h
 have hss := hu.top_of hx
 have hsz := hu.size hss hu.top
 have hck := chk_of hc
 refine ⟨?_, ?_⟩
 ·unfold evalErr
  rw [if_neg (by simp [h1]), if_neg ?_, if_neg (by omega), if_neg (by simp [hf])]
  unfold exprErr
  rw [if_neg (by simp [hck.sch]), exprnErr, if_neg (by simp [hr]), hu.nodes s e hu.top, hn]
  simp
 unfold val
 have hle := hu.len
 rw [valF_stable s u f (u.length + 1) (l.length + 1) e (by unfold expanded at hsz hx; omega) (by omega), hu.valF s f (l.length + 1) e hu.top]
theorem defAt_snoc {l : List Cla} {c : Cla} (hk : c.kind ≠ 1) (t : BA) : Proofs.YtefjomofjejklaaGreatDoor.defAt (l ++ [c]) t = Proofs.YtefjomofjejklaaGreatDoor.defAt l t := by
 unfold Proofs.YtefjomofjejklaaGreatDoor.defAt
 rw [List.findIdx?_append]
 have : ([c] : List Cla).findIdx? (fun c => (c.kind == 1) && decide (c.name = t)) = none := by
  rw [List.findIdx?_eq_none_iff]
  intro x hx
  obtain rfl := List.mem_singleton.1 hx
  simp [hk]
 rw [this]
 simp
theorem getD_snoc {l : List Cla} {c : Cla} {d : Nat} (hd : d < l.length) : (l ++ [c]).getD d cla0 = l.getD d cla0 := by
 rw [getD_cla (by simp; omega), getD_cla hd, List.getElem_append_left hd]
theorem getD_last (l : List Cla) (c : Cla) : (l ++ [c]).getD l.length cla0 = c := by
 rw [getD_cla (by simp)]
 simp
theorem map_defAt {α : Type} {l : List Cla} {t : BA} {g h : Nat -> α} (e : ∀ d, d < l.length -> g d = h d) : (Proofs.YtefjomofjejklaaGreatDoor.defAt l t).map g = (Proofs.YtefjomofjejklaaGreatDoor.defAt l t).map h := by
 cases hd : Proofs.YtefjomofjejklaaGreatDoor.defAt l t with
 | none => rfl
 | some d => simp only [Option.map_some, e d (defAt_lt hd)]
theorem expF_snoc {l : List Cla} {c : Cla} (hk : c.kind ≠ 1) : (k : Nat) -> (e : Ex) -> expF (l ++ [c]) k e = expF l k e
 | 0, _ => rfl
 | k + 1, e => by
  rw [expF, expF]
  refine expE_congr _ fun t _ => ?_
  rw [defAt_snoc hk]
  exact map_defAt fun d hd => by rw [getD_snoc hd, expF_snoc hk k]
theorem valF_snoc {l : List Cla} {c : Cla} (hk : c.kind ≠ 1) (s : List Attr) (f : ZI) : (k : Nat) -> (e : Ex) -> Proofs.YtefjomofjejklaaGreatDoor.valF s (l ++ [c]) f k e = Proofs.YtefjomofjejklaaGreatDoor.valF s l f k e
 | 0, _ => rfl
 | k + 1, e => by
  rw [Proofs.YtefjomofjejklaaGreatDoor.valF, Proofs.YtefjomofjejklaaGreatDoor.valF]
  refine valE_congr _ fun t _ => ?_
  rw [defAt_snoc hk]
  exact map_defAt fun d hd => by rw [getD_snoc hd, valF_snoc hk s f k]
theorem nodes_snoc {l : List Cla} {c : Cla} (hk : c.kind ≠ 1) (s : List Attr) : (x : Ex) -> nodesErr s (l ++ [c]) x = nodesErr s l x
 | .mk op name words lo hi args => by
  have hn : nodeErr s (l ++ [c]) op name words lo hi = nodeErr s l op name words lo hi := by
   unfold nodeErr
   rw [defAt_snoc hk]
  rw [nodesErr, nodesErr, hn, nodesL args]
where
 nodesL : (r : List Ex) -> nodesErrL s (l ++ [c]) r = nodesErrL s l r
  | [] => by rw [nodesErrL, nodesErrL]
  | x :: r => by rw [nodesErrL, nodesErrL, nodes_snoc hk s x, nodesL r]
theorem expanded_snoc {l : List Cla} {c : Cla} (hk : c.kind ≠ 1) (hs : Sorts (l.map Cla.dfn)) (e : Ex) : expanded (l ++ [c]) e = expanded l e := by
 obtain ⟨o, ht⟩ := hs
 unfold expanded
 rw [expF_snoc hk, List.length_append, List.length_singleton, expF, expF]
 refine expE_congr _ fun t _ => ?_
 cases hd : Proofs.YtefjomofjejklaaGreatDoor.defAt l t with
 | none => rfl
 | some d =>
  have hi := defAt_lt hd
  have hio : d ∈ o := (ht.all d).2 (by
   rw [isDef_dfn hi]
   have h2 := (defAt_name hd).2
   rw [getD_cla hi] at h2
   simp [h2])
  obtain ⟨q, hq⟩ := List.mem_iff_getElem?.1 hio
  have hql : q < o.length := (List.getElem?_eq_some_iff.1 hq).1
  have h1 := ht.len
  simp only [List.length_map] at h1
  simp only [Option.map_some, Option.some.injEq]
  exact expF_stable ht q d hq _ _ (by omega) (by omega)
theorem val_snoc {l : List Cla} {c : Cla} (hk : c.kind ≠ 1) (s : List Attr) (f : ZI) {e : Ex} (hx : expanded l e <= 2000) : val s (l ++ [c]) f e = val s l f e := by
 unfold val
 rw [valF_snoc hk, valF_stable s l f (l.length + 1) ((l ++ [c]).length + 1) e hx (by simp)]
theorem backsErr_snoc {l : List Cla} {c : Cla} (hk : c.kind ≠ 1) (s : List Attr) : (u : List Wb) -> backsErr s (l ++ [c]) u = backsErr s l u
 | [] => by rw [backsErr, backsErr]
 | .mk n x u :: r => by rw [backsErr, backsErr, nodes_snoc hk, backsErr_snoc hk s u, backsErr_snoc hk s r]
theorem backsLarge_snoc {l : List Cla} {c : Cla} (hk : c.kind ≠ 1) (hs : Sorts (l.map Cla.dfn)) : (u : List Wb) -> backsLarge (l ++ [c]) u = backsLarge l u
 | [] => by rw [backsLarge, backsLarge]
 | .mk n x u :: r => by rw [backsLarge, backsLarge, expanded_snoc hk hs, backsLarge_snoc hk hs u, backsLarge_snoc hk hs r]
theorem sorts_snoc {l : List Cla} {c : Cla} (hk : c.kind ≠ 1) (hs : Sorts (l.map Cla.dfn)) : Sorts ((l ++ [c]).map Cla.dfn) := by
 obtain ⟨o, ht⟩ := hs
 have hdef : ∀ i, isDef ((l ++ [c]).map Cla.dfn) i = isDef (l.map Cla.dfn) i := by
  intro i
  unfold isDef
  by_cases h : i < l.length
  ·simp [List.getElem?_append_left, h]
  by_cases h2 : i = l.length
  ·subst h2; simp [Cla.dfn, hk]
  have h3 : ((l ++ [c]).map Cla.dfn)[i]? = none := by simp; omega
  have h4 : (l.map Cla.dfn)[i]? = none := by simp; omega
  rw [h3, h4]
 refine ⟨o, ht.nodup, fun i => by rw [hdef]; exact ht.all i, fun p i hp t hts d hd => ?_⟩
 have hio : i ∈ o := List.mem_of_getElem? hp
 have hi : i < l.length := by
  have := isDef_lt ((ht.all i).1 hio)
  simpa using this
 refine ht.after p i hp t ?_ d ?_
 ·have e : usesAt ((l ++ [c]).map Cla.dfn) i = usesAt (l.map Cla.dfn) i := by
   rw [usesAt_dfn hi, usesAt_dfn (by simp; omega), List.getElem_append_left hi]
  rw [<- e]; exact hts
 rw [firstAt_dfn] at hd ⊢
 rwa [defAt_snoc hk] at hd
theorem findAt_snoc {l : List Cla} {c : Cla} {x : BA} {j : Nat} (h : findAt l x = some j) : findAt (l ++ [c]) x = some j := by
 unfold findAt at h ⊢
 rw [List.findIdx?_append, h]
 rfl
structure MoreOk (s : List Attr) (l : List Cla) (c : Cla) : Prop where
 kind : c.kind ≠ 1
 form : clauseB c = true
 name : ∀ x ∈ l, x.name ≠ c.name
 attr : attrAt s c.name = none
 node : nodesErr s l c.cond = 0
 back : backsErr s l c.unl = 0
 exp : expanded l c.cond <= 2000
 large : backsLarge l c.unl = false
theorem MoreOk.ok {s : List Attr} {l : List Cla} {c : Cla} (h : MoreOk s l c) (hc : (clausesErr s l).2 = 0) (hlen : l.length < 100) : (clausesErr s (l ++ [c])).2 = 0 := by
 have hck := chk_of hc
 unfold clausesErr at hc
 rw [if_neg (by simp [hck.sch]), if_neg (by have := hck.len; omega)] at hc
 by_cases h3 : (firstI (claErr s l) l.length).2 ≠ 0
 ·rw [if_pos h3] at hc; exact absurd hc h3
 rw [if_neg h3] at hc
 by_cases h4 : ¬ Sorts (l.map Cla.dfn)
 ·rw [if_pos h4] at hc; simp at hc
 rw [if_neg h4] at hc
 have hs : Sorts (l.map Cla.dfn) := Classical.not_not.1 h4
 have h1 := firstI_none l.length (by simpa using h3)
 have h2 := firstI_none l.length hc
 have hz : ∀ i, i < (l ++ [c]).length -> claErr s (l ++ [c]) i = 0 := by
  intro i hi
  by_cases hil : i < l.length
  ·have g := h1 i hil
   unfold claErr at g ⊢
   rw [getD_snoc hil]
   have hj : ∃ j, findAt l (l.getD i cla0).name = some j := by
    cases hf : findAt l (l.getD i cla0).name with
    | some j => exact ⟨j, rfl⟩
    | none =>
     unfold findAt at hf
     rw [List.findIdx?_eq_none_iff] at hf
     have := hf _ (List.getElem_mem hil)
     rw [getD_cla hil] at this
     simp at this
   obtain ⟨j, hj⟩ := hj
   rw [hj] at g
   rw [findAt_snoc hj, nodes_snoc h.kind, backsErr_snoc h.kind]
   exact g
  have e : i = l.length := by simp at hi; omega
  subst e
  unfold claErr
  rw [getD_last]
  have hf : findAt (l ++ [c]) c.name = some l.length := by
   unfold findAt
   rw [List.findIdx?_append]
   have h0 : l.findIdx? (fun x => decide (x.name = c.name)) = none := by
    rw [List.findIdx?_eq_none_iff]
    intro x hx
    simp [h.name x hx]
   rw [h0]
   simp
  rw [hf, nodes_snoc h.kind, backsErr_snoc h.kind, if_neg (by simp [h.form]), if_neg (by simp), if_neg (by simp [h.attr]), if_neg (by simp [h.node]), h.back]
 have hg : ∀ i, i < (l ++ [c]).length -> claLarge (l ++ [c]) i = 0 := by
  intro i hi
  by_cases hil : i < l.length
  ·have g := h2 i hil
   unfold claLarge at g ⊢
   rw [getD_snoc hil, expanded_snoc h.kind hs, backsLarge_snoc h.kind hs]
   exact g
  have e : i = l.length := by simp at hi; omega
  subst e
  unfold claLarge
  rw [getD_last, expanded_snoc h.kind hs, backsLarge_snoc h.kind hs, if_neg]
  have := h.exp
  rw [h.large]; simp; omega
 unfold clausesErr
 rw [if_neg (by simp [hck.sch]), if_neg (by simp; omega), firstI_zero _ hz, if_neg (by simp), if_neg (by rw [Classical.not_not]; exact sorts_snoc h.kind hs), firstI_zero _ hg]
theorem wbsV_same {V V' : Ex -> Bool} {P : Ex -> Prop} (hV : ∀ e, P e -> V' e = V e) : (u : List Wb) -> wbsOkT P u -> wbsV V' u = wbsV V u
 | [], _ => by rw [wbsV, wbsV]
 | .mk n c u :: r, h => by
  unfold wbsOkT at h
  rw [wbsV, wbsV, hV c h.1, wbsV_same hV u h.2.1, wbsV_same hV r h.2.2.2]
theorem claV_same {V V' : Ex -> Bool} {P : Ex -> Prop} (hV : ∀ e, P e -> V' e = V e) {x : Cla} (h1 : P x.cond) (h2 : wbsOkT P x.unl) : claV V' x = claV V x := by
 unfold claV
 rw [hV _ h1, wbsV_same hV _ h2]
theorem someB_same {V V' : Ex -> Bool} {k : Int} {neg : Bool} : (l : List Cla) -> (∀ x ∈ l, claV V' x = claV V x) -> someB V' k neg l = someB V k neg l
 | [], _ => rfl
 | x :: r, h => by rw [someB, someB, h x (by simp), someB_same r fun y hy => h y (by simp [hy])]
theorem foldl_same {g g' : Int -> Cla -> Int} : (l : List Cla) -> (∀ x ∈ l, ∀ m, g' m x = g m x) -> ∀ m, l.foldl g' m = l.foldl g m
 | [], _, _ => rfl
 | x :: r, h, m => by rw [List.foldl_cons, List.foldl_cons, h x (by simp), foldl_same r (fun y hy => h y (by simp [hy]))]
theorem vdB_same {V V' : Ex -> Bool} {l : List Cla} (h : ∀ x ∈ l, claV V' x = claV V x) : vdB V' l = vdB V l := by
 have e1 : l.foldl (limS V') (-1) = l.foldl (limS V) (-1) := foldl_same l (fun x hx m => by unfold limS; rw [h x hx]) _
 have e2 : ∀ k, l.foldl (greatS V' k) 0 = l.foldl (greatS V k) 0 := fun k => foldl_same l (fun x hx m => by unfold greatS; rw [h x hx]) _
 unfold vdB limK greatK
 rw [someB_same l h, someB_same l h, someB_same l h, someB_same l h, e1, e2, e2, e2]
theorem someB_snoc (V : Ex -> Bool) (k : Int) (neg : Bool) (c : Cla) : (l : List Cla) -> someB V k neg (l ++ [c]) = (someB V k neg l || (c.kind == k && (claV V c != neg)))
 | [] => by simp [someB]
 | x :: r => by rw [List.cons_append, someB, someB, someB_snoc V k neg c r, Bool.or_assoc]
theorem vdB_snoc (V : Ex -> Bool) (l : List Cla) (c : Cla) : vdB V (l ++ [c]) =
  if (someB V 2 false l || (c.kind == 2 && claV V c)) = false then ⟨1, 0, 0, 0, 0, false⟩ else if (someB V 4 true l || (c.kind == 4 && !claV V c)) = true then ⟨2, 0, 0, 0, 0, false⟩ else if (someB V 3 false l || (c.kind == 3 && claV V c)) = true then ⟨3, 0, 0, 0, 0, false⟩
  else ⟨4, limS V (limK V l) c, greatS V 6 (greatK V 6 l) c, greatS V 7 (greatK V 7 l) c, greatS V 8 (greatK V 8 l) c, someB V 9 false l || (c.kind == 9 && claV V c)⟩ := by
 unfold vdB limK greatK
 simp only [someB_snoc, List.foldl_append, List.foldl_cons, List.foldl_nil, Bool.bne_false, Bool.bne_true]
open Go.RowKit Go.Maps
structure LossV where
 sa : OA
 sn : Nat
 sc : Nat
 bm : Nat
 fa : OA
 fn : Nat
 fc : Nat
def LossV.val (v : LossV) : Value := .agg #[.slice v.sa v.sn v.sc, .map (some v.bm), .slice v.fa v.fn v.fc]
structure IsLoss (w : World) (s : List Attr) (l : List Cla) (f : ZI) (v : LossV) (nm : Nat) : Prop where
 sch : IsSchema w s (.agg #[.slice v.sa v.sn v.sc])
 defs : DefsAt w l v.bm nm
 facts : IsIntF w f v.fa v.fn
theorem IsLoss.ext {w w' : World} {s : List Attr} {l : List Cla} {f : ZI} {v : LossV} {nm : Nat} (h : IsLoss w s l f v nm) (hx : Ext w w') : IsLoss w' s l f v nm := ⟨h.sch.ext hx, h.defs.ext hx, h.facts.ext hx⟩
def exZero : Value := .agg #[.int .i64 0, .string ⟨#[]⟩, .slice none 0 0, .int .i64 0, .int .i64 0, .slice none 0 0]
def DefnQ (l : List Cla) (op : Int) (name : BA) (w : World) (e : Ending) (w' : World) : Prop := Ext w w' /\ ((op = 3 /\ ∃ d v, defAt l name = some d /\ e = .returned (.tuple #[ExV.val v, .bool true]) /\ IsEx w' (l.getD d cla0).cond v.val) \/ ((op ≠ 3 \/ defAt l name = none) /\ e = .returned (.tuple #[exZero, .bool false])))
theorem isEx_exV {w : World} {e : Ex} {v : Value} (h : IsEx w e v) : ∃ x : ExV, v = x.val /\ IsEx w e x.val := by
 obtain ⟨aw, nw, cw, aa, na, ca, rfl, -⟩ := h.parts
 exact ⟨⟨e.op, e.name, aw, nw, cw, e.lo, e.hi, aa, na, ca⟩, rfl, h⟩
theorem definition_calls (s : List Attr) (l : List Cla) (f : ZI) (lv : LossV) (nm : Nat) (e : Ex) (ev : Value) (w : World) (hl : IsLoss w s l f lv nm) (he : IsEx w e ev) (hen : e.name.size <= 1000000000000000) :
  Calls Tryz.prog 148 #[lv.val, ev] w (DefnQ l e.op e.name w) := by
 obtain ⟨aw, nw, cw, aa, na, ca, rfl, hw, hna, hca, ha, hx⟩ := he.parts
 obtain ⟨sa, sn, sc, bm, fa, fn, fc⟩ := lv
 have HD := hI hl.defs
 clear hw hna hca ha hx hl he
 unfold exV LossV.val
 obtain ⟨op, name, words, lo, hi, args⟩ := e
 simp only [Ex.op, Ex.name, Ex.lo, Ex.hi] at *
 by_cases h3 : op = 3
 case neg =>
  have t3 : (op != 3) = true := by simp [h3]
  have H3 := hI h3
  clear h3
  go_enter Tryz.func148, Tryz.ntmps148
  go_wp2_with fail
  refine bodyPost_ret (v := .tuple #[exZero, .bool false]) (by simp [results, Tryz.results148, go_sem, exZero]) rfl ?_
  exact ⟨by first | exact (((Ext.refl w).alloc _).alloc _).alloc _ | exact Ext.refl w, Or.inr ⟨Or.inl H3.out, rfl⟩⟩
 subst h3
 obtain ⟨g, hmap, hg⟩ := HD.out
 have HMP := hI hmap
 have HG := hI hg
 clear hmap hg
 cases hda : defAt l name with
 | none =>
  have HFN := hI (show strF g (.string name.data.toList) = none by rw [strF_at]; exact (HG.out _).1 hda)
  have HDA := hI hda
  clear hda HG
  go_enter Tryz.func148, Tryz.ntmps148
  go_wp2_with (at_lookup; refine wpList_map_ok _ rfl _ _ 131 rfl 9 45 keyedStr uMapSE (zeroEx _) bm nm _ rfl (HMP.out.ext ((((Ext.refl w).alloc _).alloc _).alloc _)) _ _ rfl (keyStr hen) trivial ?_; rw [HFN.out])
  refine bodyPost_ret (v := .tuple #[exZero, .bool false]) (by simp [results, Tryz.results148, go_sem, exZero]) rfl ?_
  exact ⟨((((Ext.refl w).alloc _).alloc _).alloc _).alloc _, Or.inr ⟨Or.inr HDA.out, rfl⟩⟩
 | some d =>
  obtain ⟨u, hu, hux⟩ := (HG.out name).2 d hda
  obtain ⟨xv, rfl, hxv⟩ := isEx_exV hux
  have HFN := hI (show strF g (.string name.data.toList) = some _ by rw [strF_at]; exact hu)
  have HXV := hI hxv
  have HDA := hI hda
  clear hda HG hu hux hxv
  obtain ⟨xo, xn, xaw, xnw, xcw, xlo, xhi, xaa, xna, xca⟩ := xv
  unfold ExV.val exV at HFN HXV
  go_enter Tryz.func148, Tryz.ntmps148
  go_wp2_with (at_lookup; refine wpList_map_ok _ rfl _ _ 131 rfl 9 45 keyedStr uMapSE (zeroEx _) bm nm _ rfl (HMP.out.ext ((((Ext.refl w).alloc _).alloc _).alloc _)) _ _ rfl (keyStr hen) trivial ?_; rw [HFN.out])
  refine bodyPost_ret (v := .tuple #[ExV.val ⟨xo, xn, xaw, xnw, xcw, xlo, xhi, xaa, xna, xca⟩, .bool true]) (by simp [results, Tryz.results148, go_sem, ExV.val, exV]) rfl ?_
  have hx : Ext w _ := (((((Ext.refl w).alloc (.cells #[.slice sa sn sc, .map (some bm), .slice fa fn fc] 183)).alloc (.cells #[.int .i64 3, .string name, .slice aw nw cw, .int .i64 lo, .int .i64 hi, .slice aa na ca] 45)).alloc (.cells #[.int .i64 xo, .string xn, .slice xaw xnw xcw, .int .i64 xlo, .int .i64 xhi, .slice xaa xna xca] 45)).alloc (.cells #[.int .i64 xo, .string xn, .slice xaw xnw xcw, .int .i64 xlo, .int .i64 xhi, .slice xaa xna xca] 45))
  exact ⟨hx, Or.inl ⟨rfl, d, _, HDA.out, rfl, HXV.out.ext hx⟩⟩
theorem fact_ways {s : List Attr} {l : List Cla} {e : Ex} (ht : okTree e) (h : nodesErr s l e = 0) (h6 : e.op ≠ 6 /\ e.op ≠ 7 /\ e.op ≠ 8) (hd : e.op = 3 -> defAt l e.name = none) : e.op = 1 \/ e.op = 2 \/ (e.op = 3 /\ ∃ i, attrAt s e.name = some i) \/ (e.op = 4 /\ ∃ i, attrAt s e.name = some i /\ (s.getD i attr0).kind = 1) \/ (e.op = 5 /\ ∃ i, attrAt s e.name = some i) := by
 rcases node_ways ht h with h1 | h1 | ⟨h1, i, h2, -⟩ | ⟨h1, -, d, h2⟩ | ⟨h1, i, h2, h3⟩ | ⟨h1, i, h2, -⟩ | ⟨h1, -⟩ | h1 | h1
 ·exact Or.inl h1
 ·exact Or.inr (Or.inl h1)
 ·exact Or.inr (Or.inr (Or.inl ⟨h1, i, h2⟩))
 ·rw [hd h1] at h2; cases h2
 ·exact Or.inr (Or.inr (Or.inr (Or.inl ⟨h1, i, h2, h3⟩)))
 ·exact Or.inr (Or.inr (Or.inr (Or.inr ⟨h1, i, h2⟩)))
 ·exact absurd h1 h6.1
 ·exact absurd h1 h6.2.1
 exact absurd h1 h6.2.2
theorem okTree_words {e : Ex} (h : okTree e) : e.words.length <= 12 /\ e.name.size <= 1000 := by
 rcases (okTree_parts h).1 with ⟨-, h1, h2, -⟩ | ⟨-, h1, h2, -⟩ | ⟨-, h1, h2, -⟩ | ⟨-, h1, h2, -⟩ | ⟨-, h1, h2, -⟩ | ⟨-, h1, h2, -⟩ | ⟨-, h1, h2, -⟩
 ·rw [h1, h2]; exact ⟨by simp, by decide⟩
 ·rw [h1, h2]; exact ⟨by simp, by decide⟩
 ·rw [h2]; exact ⟨by simp, by have := nameB_le h1; omega⟩
 ·simp only [wordsB, Bool.and_eq_true] at h2
  exact ⟨of_decide_eq_true h2.1.1.2, by have := nameB_le h1; omega⟩
 ·rw [h2]; exact ⟨by simp, by have := nameB_le h1; omega⟩
 ·rw [h1, h2]; exact ⟨by simp, by decide⟩
 rw [h1, h2]; exact ⟨by simp, by decide⟩
theorem fact_calls (s : List Attr) (l : List Cla) (f : ZI) (lv : LossV) (nm : Nat) (hsc : schemaErr s = 0) (hfa : factsAll s f = true) (e : Ex) (ev : Value) (w : World) (hl : IsLoss w s l f lv nm) (he : IsEx w e ev) (hok : okTree e)
  (hw5 : e.op = 1 \/ e.op = 2 \/ (e.op = 3 /\ ∃ i, attrAt s e.name = some i) \/ (e.op = 4 /\ ∃ i, attrAt s e.name = some i /\ (s.getD i attr0).kind = 1) \/ (e.op = 5 /\ ∃ i, attrAt s e.name = some i)) :
  Calls Tryz.prog 149 #[lv.val, ev] w (GivesE (.bool (factV s f e.op e.name e.words e.lo e.hi)) w) := by
 have hwl := okTree_words hok
 obtain ⟨aw, nw, cw, aa, na, ca, rfl, hw, hna, hca, ha, hx⟩ := he.parts
 obtain ⟨sa, sn, sc, bm, fa, fn, fc⟩ := lv
 have HS := hI hl.sch
 have HI := hI hl.facts
 have HW := hI hw
 have HFA := hI hfa
 have hsl6 := (schema_attrs hsc).2.1
 have HIX := hI (fun W (hW : Ext w W) => sIndex_calls s _ e.name W (hl.sch.ext hW) (by omega))
 have HSN := hI (show sn = s.length by obtain ⟨a', n', c', e', h', -⟩ := hl.sch.parts; simp at e'; omega)
 clear hw hna hca ha hx hl he hok hfa hsl6 hsc
 unfold exV LossV.val
 obtain ⟨op, name, words, lo, hi, args⟩ := e
 simp only [Ex.op, Ex.name, Ex.words, Ex.lo, Ex.hi] at *
 have hwn := hwl.1
 have HNM := hI hwl.2
 clear hwl
 obtain ⟨R, hR⟩ : ∃ R, R = factV s f op name words lo hi := ⟨_, rfl⟩
 rw [<- hR]
 have HR := hI hR
 clear hR
 obtain ⟨wa, hwa⟩ : ∃ wa, wa = (w.alloc (.cells #[.slice sa sn sc, .map (some bm), .slice fa fn fc] 183)).alloc (.cells #[.int .i64 op, .string name, .slice aw nw cw, .int .i64 lo, .int .i64 hi, .slice aa na ca] 45) := ⟨_, rfl⟩
 have hxa : Ext w wa := by rw [hwa]; exact ((Ext.refl _).alloc _).alloc _
 have hb0 : wa.heap[w.heap.size]? = some (.cells #[.slice sa sn sc, .map (some bm), .slice fa fn fc] 183 (0, 0)) := by rw [hwa]; exact blk_alloc (alloc_new w _)
 have hb1 : wa.heap[w.heap.size + 1]? = some (.cells #[.int .i64 op, .string name, .slice aw nw cw, .int .i64 lo, .int .i64 hi, .slice aa na ca] 45 (0, 0)) := by rw [hwa]; exact alloc_atR (by simp)
 have HXA := hI hxa
 have HB0 := hI hb0
 have HB1 := hI hb1
 obtain ⟨f0, f1, f2, f3, f4, f5, ff⟩ := blk6 hb1
 obtain ⟨e0, e1, e2, ef⟩ := blk3 hb0
 have hltw := blk_lt hb1
 clear hxa hb0 hb1
 rcases hw5 with rfl | rfl | ⟨rfl, i, hat⟩ | ⟨rfl, i, hat, hkd⟩ | ⟨rfl, i, hat⟩
 ·have HQ := hI (show R = true by rw [HR.out]; simp [factV])
  go_enter Tryz.func149, Tryz.ntmps149
  go_upto_region 1 with fail
  rw [<- hwa]
  clear hwa
  go_wp2_with fail
  go_ret
  exact givesE_bool (by rw [HQ.out]) HXA.out
 ·have HQ := hI (show R = false by rw [HR.out]; simp [factV])
  go_enter Tryz.func149, Tryz.ntmps149
  go_upto_region 1 with fail
  rw [<- hwa]
  clear hwa
  go_wp2_with fail
  go_ret
  exact givesE_bool (by rw [HQ.out]) HXA.out
 ·obtain ⟨his, -⟩ := attrAt_at hat
  obtain ⟨hif, -, -⟩ := fact_at HFA.out his
  obtain ⟨fb, fo, rfl, hcell⟩ := HI.out.2 i hif
  obtain ⟨z, hz⟩ : ∃ z, z = f[i] := ⟨_, rfl⟩
  rw [<- hz] at hcell
  have HQ := hI (show R = (z == 1) by
   rw [HR.out]
   simp only [factV, hat]
   rw [if_neg (by decide), if_neg (by decide), if_neg (by decide), if_neg (by decide), Bool.eq_iff_iff]
   simp [hif, <- hz])
  have hin : i < fn := by rw [HI.out.1]; exact hif
  have HCF := hI hcell
  rw [hat, optV_some] at HIX
  clear hat his hif hcell hz
  go_enter Tryz.func149, Tryz.ntmps149
  go_upto_region 1 with fail
  rw [<- hwa]
  clear hwa
  go_wp2_with fail
  refine (HIX.out wa HXA.out).mono ?_
  rintro r w1 ⟨rfl, hx1⟩
  have HX1 := hI (HXA.out.trans hx1)
  clear f0 f1 f2 f3 f4 f5 ff e0 e1 e2 ef hltw
  obtain ⟨f0, f1, f2, f3, f4, f5, ff⟩ := blk6 (hx1.blk HB1.out)
  obtain ⟨e0, e1, e2, ef⟩ := blk3 (hx1.blk HB0.out)
  have hcf := HX1.out.cell HCF.out
  clear hx1
  go_wp2_with fail
  go_ret
  exact givesE_bool (by rw [HQ.out]) HX1.out
 ·obtain ⟨his, -⟩ := attrAt_at hat
  obtain ⟨hif, hlo2, hhi2⟩ := fact_at HFA.out his
  have hkd' : s[i].kind = 1 := by rw [<- hkd]; simp [his]
  have hdm : domB s[i] = (0, (s[i].words.length : Int) - 1) := by unfold domB; rw [if_pos hkd']
  rw [hdm] at hlo2 hhi2
  simp only at hlo2 hhi2
  obtain ⟨ab, ao, rfl, hA⟩ : ∃ ab ao, sa = some ⟨ab, ao, none⟩ /\ AttrAt w s[i] ab (ao + i * 5) := by
   obtain ⟨xa, xn, xc, e', -, -, -, hq⟩ := HS.out.parts
   simp only [Value.agg.injEq, Array.mk.injEq, List.cons.injEq, Value.slice.injEq, and_true] at e'
   obtain ⟨rfl, rfl, rfl⟩ := e'
   exact hq i his
  obtain ⟨x1, hx1⟩ : ∃ x1, x1 = s[i] := ⟨_, rfl⟩
  rw [<- hx1] at hA hkd' hhi2
  obtain ⟨bw, nwa, cwa, hstr, hfive⟩ := hA.five
  have H5 := hI hfive
  obtain ⟨fb, fo, rfl, hcell⟩ := HI.out.2 i hif
  obtain ⟨z, hz⟩ : ∃ z : Nat, f[i] = (z : Int) := ⟨f[i].toNat, by omega⟩
  rw [hz] at hcell hlo2 hhi2
  have hzw : z < x1.words.length := by omega
  obtain ⟨wb, wo, rfl, hwc⟩ := hstr.2.2.2 z hzw
  have HWC := hI hwc
  have hzn : z < nwa := by rw [hstr.1]; exact hzw
  have HQ := hI (show R = decide (x1.words[z] ∈ words) by
   rw [HR.out]
   simp only [factV, hat]
   rw [if_neg (by decide), if_neg (by decide), if_pos (by decide), Bool.eq_iff_iff]
   simp [his, hif, hz, <- hx1, hzw])
  have hin : i < fn := by rw [HI.out.1]; exact hif
  have hisn : i < sn := by rw [HSN.out]; exact his
  have HCF := hI hcell
  have HWI := hI (fun W (hW : Ext w W) => contains_calls words x1.words[z] aw nw cw W (by rw [HW.out.1]; omega) (HW.out.ext hW))
  rw [hat, optV_some] at HIX
  obtain ⟨x, hxx⟩ : ∃ x, x = x1.words[z] := ⟨_, rfl⟩
  rw [<- hxx] at HWC HQ HWI
  clear hx1 hat hkd his hif hlo2 hhi2 hcell hz hkd' hdm hA hstr hfive hwc hzw hxx
  go_enter Tryz.func149, Tryz.ntmps149
  go_upto_region 1 with fail
  rw [<- hwa]
  clear hwa
  go_wp2_with fail
  refine (HIX.out wa HXA.out).mono ?_
  rintro r w1 ⟨rfl, hx1⟩
  have HX1 := hI (HXA.out.trans hx1)
  clear f0 f1 f2 f3 f4 f5 ff e0 e1 e2 ef hltw
  obtain ⟨f0, f1, f2, f3, f4, f5, ff⟩ := blk6 (hx1.blk HB1.out)
  obtain ⟨e0, e1, e2, ef⟩ := blk3 (hx1.blk HB0.out)
  have hcf := HX1.out.cell HCF.out
  have hwf := HX1.out.cell HWC.out
  obtain ⟨g0, g1, g2, g3, g4⟩ := H5.out w1 HX1.out
  clear hx1
  go_wp2_with fail
  go_still_tail 12, (by kernel_rfl)
  change wpList _ _ _ _ _ w1.drew
  have hx2 : Ext w1 w1.drew := (Ext.refl w1).drew
  generalize w1.drew = w2 at hx2 ⊢
  have HX2 := hI (HX1.out.trans hx2)
  clear hx2 f0 f1 f2 f3 f4 f5 ff e0 e1 e2 ef hcf hwf g0 g1 g2 g3 g4
  go_wp2_with fail
  refine (HWI.out w2 HX2.out).mono ?_
  rintro r w3 ⟨rfl, rfl⟩
  go_wp2_with fail
  go_ret
  exact givesE_bool (by rw [HQ.out]) HX2.out
 obtain ⟨his, -⟩ := attrAt_at hat
 obtain ⟨hif, -, -⟩ := fact_at HFA.out his
 obtain ⟨fb, fo, rfl, hcell⟩ := HI.out.2 i hif
 obtain ⟨z, hz⟩ : ∃ z, z = f[i] := ⟨_, rfl⟩
 rw [<- hz] at hcell
 have HQ := hI (show R = (decide (lo <= z) && decide (z <= hi)) by
  rw [HR.out]
  simp only [factV, hat]
  rw [if_neg (by decide), if_neg (by decide), if_neg (by decide), if_pos (by decide)]
  simp [hif, <- hz])
 have hin : i < fn := by rw [HI.out.1]; exact hif
 have HCF := hI hcell
 rw [hat, optV_some] at HIX
 clear hat his hif hcell hz
 have hw4 : (decide (lo <= z) = true /\ decide (z <= hi) = true /\ R = true) \/ (decide (lo <= z) = true /\ decide (z <= hi) = false /\ R = false) \/ (decide (lo <= z) = false /\ R = false) := by
  rw [HQ.out]
  cases decide (lo <= z) <;> cases decide (z <= hi) <;> simp
 rcases hw4 with ⟨t1, t2, hf⟩ | ⟨t1, t2, hf⟩ | ⟨t1, hf⟩
 all_goals
  have HF := hI hf
  clear hf
  go_enter Tryz.func149, Tryz.ntmps149
  go_upto_region 1 with fail
  rw [<- hwa]
  clear hwa
  go_wp2_with fail
  refine (HIX.out wa HXA.out).mono ?_
  rintro r w1 ⟨rfl, hx1⟩
  have HX1 := hI (HXA.out.trans hx1)
  clear f0 f1 f2 f3 f4 f5 ff e0 e1 e2 ef hltw
  obtain ⟨f0, f1, f2, f3, f4, f5, ff⟩ := blk6 (hx1.blk HB1.out)
  obtain ⟨e0, e1, e2, ef⟩ := blk3 (hx1.blk HB0.out)
  have hcf := HX1.out.cell HCF.out
  clear hx1
  go_wp2_with fail
  go_ret
  exact givesE_bool (by rw [HF.out]) HX1.out
def cexpr4R (l : List Cla) (e : Ex) (aw : OA) (nw cw : Nat) (aa : OA) (na ca : Nat) (a : OA) (n c : Nat) (sa : OA) (sn sc : Nat) (N : Int) : Nat -> Value -> World -> Prop
 | 0, u, _ => u = .agg #[.slice sa sn sc]
 | 1, u, _ => u = .slice a n c
 | 2, u, W => ∃ bd, u = .map (some bd) /\ DefsAt W l bd n
 | 3, u, _ => u = .agg #[.int .i64 e.op, .string e.name, .slice aw nw cw, .int .i64 e.lo, .int .i64 e.hi, .slice aa na ca]
 | 4, u, _ => u = .int .i64 N
 | _, u, _ => u = .int .i64 N
theorem checkExpr_calls (s : List Attr) (l : List Cla) (a : OA) (n c : Nat) (e : Ex) (ev sv : Value) (w : World) (hf : ∀ x ∈ s, x.fits) (hsl : s.length <= 1000000000000000) (hl : IsClas w l a n c) (hn : n <= 1000000) (hsz : ∀ x ∈ l, x.name.size <= 1000000000000000) (hfew : e.few) (hfit : e.fits) (ho : HasOps w) (hs : IsSchema w s sv) (he : IsEx w e ev) :
  Calls Tryz.prog 145 #[sv, .slice a n c, ev] w (GivesE (.int .i64 (exprErr s l e)) w) := by
 obtain ⟨sa, sn, sc, rfl, hsn⟩ := hs.slice
 have HV := hI (fun (W : World) (hW : Ext w W) => sValidate_calls s (.agg #[.slice sa sn sc]) W (hs.ext hW) hf hsl)
 have HD := hI (fun (W : World) (hW : Ext w W) => definitions_calls l a n c W (hl.ext hW) hn hsz)
 have HX := hI (fun (hz : schemaErr s = 0) (bm : Nat) (W : World) (hW : Ext w W) (hd : DefsAt W l bm n) => cexpression_calls s hz l hf hsl bm n e ev (.agg #[.slice sa sn sc]) W hfew hfit (ho.ext hW) (hs.ext hW) hd (he.ext hW))
 obtain ⟨aw, nw, cw, aa, na, ca, rfl, -⟩ := he.parts
 obtain ⟨R, hR⟩ : ∃ R, R = exprErr s l e := ⟨_, rfl⟩
 rw [<- hR]
 have HR := hI (show R = if schemaErr s ≠ 0 then schemaErr s else exprnErr s l e from hR)
 obtain ⟨E, hE⟩ : ∃ E, E = schemaErr s := ⟨_, rfl⟩
 rw [<- hE] at HV HR HX
 obtain ⟨N, hN⟩ : ∃ N, N = exprnErr s l e := ⟨_, rfl⟩
 rw [<- hN] at HR HX
 clear hf hl hn hsz hfew hfit ho hs he hR hsn hE hN
 unfold exV at *
 obtain ⟨wa, hwa⟩ : ∃ wa, wa = (w.alloc (.cells #[.slice sa sn sc] 24)).alloc (.cells #[.int .i64 e.op, .string e.name, .slice aw nw cw, .int .i64 e.lo, .int .i64 e.hi, .slice aa na ca] 45) := ⟨_, rfl⟩
 have hxa : Ext w wa := by rw [hwa]; exact ((Ext.refl _).alloc _).alloc _
 have hb0 : wa.heap[w.heap.size]? = some (.cells #[.slice sa sn sc] 24 (0, 0)) := by rw [hwa]; exact blk_alloc (alloc_new w _)
 have hb1 : wa.heap[w.heap.size + 1]? = some (.cells #[.int .i64 e.op, .string e.name, .slice aw nw cw, .int .i64 e.lo, .int .i64 e.hi, .slice aa na ca] 45 (0, 0)) := by rw [hwa]; exact alloc_atR (by simp)
 have HXA := hI hxa
 have HB0 := hI hb0
 have HB1 := hI hb1
 obtain ⟨a0, af⟩ := blk1 hb0
 have hlt1 := blk_lt hb1
 have HV1 := hI (HV.out wa hxa)
 clear hxa hb0 hb1 HV
 go_enter Tryz.func145, Tryz.ntmps145
 go_upto_region 1 with fail
 rw [<- hwa]
 clear hwa
 go_wp2_with fail
 refine HV1.out.mono ?_
 rintro r w3 ⟨rfl, hx3⟩
 have HX3 := hI (HXA.out.trans hx3)
 have hb03 := hx3.blk HB0.out
 have hb13 := hx3.blk HB1.out
 clear hx3 a0 af hlt1 HV1
 by_cases hz : E = 0
 case neg =>
  have tz : (E != 0) = true := by simp [hz]
  have HQ := hI (show R = E by rw [HR.out, if_pos hz])
  clear hz
  go_wp2_with fail
  go_ret
  exact givesE_of (by rw [HQ.out]) HX3.out
 have tz : (E != 0) = false := by simp [hz]
 have HQ := hI (show R = N by rw [HR.out, if_neg (by simpa using hz)])
 have HXX := hI (HX.out hz)
 clear hz HR HX
 obtain ⟨d0, df⟩ := blk1 hb03
 obtain ⟨f0, f1, f2, f3, f4, f5, ff⟩ := blk6 hb13
 clear hb03 hb13
 go_upto_region 4 with fail
 refine wp_region_grow (m := 6) [5] (GrG w3) GrE (GrP (cexpr4R l e aw nw cw aa na ca a n c sa sn sc N)) (by kernel_rfl) (by kernel_rfl) ((Ext.refl w3).drew) ?_ ?_ ?_
 ·intro i k v W W' hi hk hne hout h hE
  have hE : Ext W W' := hE
  have hi' := ltc6 hi
  clear hi hk hne hout
  rcases hi' with rfl | rfl | rfl | rfl | rfl | rfl
  ·exact h
  ·exact h
  ·obtain ⟨bd, e0, h⟩ := h
   exact ⟨bd, e0, h.ext hE⟩
  ·exact h
  ·exact h
  exact h
 ·intro q op hq ho vs W hW hd ρ hρ
  have hq' := ltc6 hq
  clear hq
  have o3 : ρ (.tmp 3) = .pointer (some ⟨w.heap.size, 0, none⟩) := hρ.out 3 rfl
  have o1 : ρ (.tmp 1) = .slice a n c := hρ.out 1 rfl
  have i1 := hρ.i 1 14
  have o5 : ρ (.tmp 5) = .pointer (some ⟨w.heap.size + 1, 0, none⟩) := hρ.out 5 rfl
  have i0 := hρ.i 0 13
  have i2 := hρ.i 2 15
  have i3 := hρ.i 3 16
  have i4 := hρ.i 4 17
  have hc := hρ.const
  have hfn := hρ.func
  clear hρ
  have HW := hI (show Ext w3 W from hW)
  rcases hq' with rfl | rfl | rfl | rfl | rfl | rfl
  ·cases ho
   clear hd
   have g0 := HW.out.cell d0
   unfold GivesOp
   go_simp
   exact ⟨Ext.refl W, rfl⟩
  ·cases ho
   clear hd
   unfold GivesOp
   go_simp
   exact ⟨Ext.refl W, rfl⟩
  ·cases ho
   have h1 : vs 1 = _ := hd ⟨1, .data⟩ (by simp) rfl
   rw [h1] at i1
   clear hd
   unfold GivesOp
   go_simp
   refine (HD.out W (HX3.out.trans HW.out)).mono ?_
   rintro r w5 ⟨bd, rfl, hd5, hx5⟩
   exact ⟨_, rfl, hx5, HW.out.trans hx5, _, rfl, hd5⟩
  ·cases ho
   clear hd
   have g0 := HW.out.cell f0
   have g1 := HW.out.cell f1
   have g2 := HW.out.cell f2
   have g3 := HW.out.cell f3
   have g4 := HW.out.cell f4
   have g5 := HW.out.cell f5
   unfold GivesOp
   go_simp
   exact ⟨Ext.refl W, rfl⟩
  ·cases ho
   have h0 : vs 0 = _ := hd ⟨0, .data⟩ (by simp) rfl
   rw [h0] at i0
   obtain ⟨bd, h2, hs2⟩ : ∃ bd, vs 2 = .map (some bd) /\ DefsAt W l bd n := hd ⟨2, .data⟩ (by simp) rfl
   have HS2 := hI hs2
   clear hs2
   rw [h2] at i2
   have h3 : vs 3 = _ := hd ⟨3, .data⟩ (by simp) rfl
   rw [h3] at i3
   clear hd
   unfold GivesOp
   go_simp
   refine (HXX.out _ W (HX3.out.trans HW.out) HS2.out).mono ?_
   rintro r w5 ⟨rfl, hx5⟩
   exact ⟨_, rfl, hx5, HW.out.trans hx5, rfl⟩
  cases ho
  have h4 : vs 4 = _ := hd ⟨4, .data⟩ (by simp) rfl
  rw [h4] at i4
  clear hd
  unfold GivesOp
  go_simp
  exact ⟨Ext.refl W, rfl⟩
 intro vs W hW hR
 rw [if_pos (by decide +kernel)]
 have h5 : vs 5 = .int .i64 N := hR 5 (by simp) (by omega)
 simp only [acts, dstAt, List.range, List.range.loop, List.foldl_cons, List.foldl_nil, h5]
 go_simp
 have hW2 : Ext w3 W := hW
 clear hR hW h5
 have HXW := hI (HX3.out.trans hW2)
 clear hW2
 go_wp2_with fail
 go_ret
 exact givesE_of (by rw [HQ.out]) HXW.out
open Go.RowKit
theorem ref_size {e : Ex} (h : refExprB e = true) : e.size <= 300 := by
 rw [refExprB, Bool.and_eq_true, Bool.and_eq_true] at h
 have := h.1.2
 simp only [decide_eq_true_eq] at this
 unfold refSize at this
 omega
theorem Chk.size {s : List Attr} {l : List Cla} (h : Chk s l) : ∀ c ∈ l, c.cond.size <= 300 := fun c hc => ref_size (h.good c hc).2.2.1
theorem exprErr_ref {s : List Attr} {l : List Cla} {e : Ex} (h : exprErr s l e = 0) : refExprB e = true := by
 unfold exprErr at h
 by_cases h1 : schemaErr s ≠ 0
 ·rw [if_pos h1] at h; exact absurd h h1
 rw [if_neg h1] at h
 unfold exprnErr at h
 cases hr : refExprB e
 ·rw [hr] at h; cases h
 rfl
def condsW : List Wb -> List Ex
 | [] => []
 | .mk _ c u :: r => c :: (condsW u ++ condsW r)
theorem condsW_len : (l : List Wb) -> (condsW l).length = wbN l
 | [] => by simp [condsW, wbN]
 | .mk n c u :: r => by simp [condsW, wbN, condsW_len u, condsW_len r]; omega
theorem condsW_take_succ : (l : List Wb) -> (k : Nat) -> (hk : k < l.length) -> condsW (l.take (k + 1)) = condsW (l.take k) ++ l[k].cond :: condsW l[k].unl
 | [], k, hk => by simp at hk
 | .mk n c u :: r, 0, _ => by simp [condsW, Wb.cond, Wb.unl]
 | .mk n c u :: r, k + 1, hk => by
  have := condsW_take_succ r k (by simpa using hk)
  simp [condsW] at this ⊢
  rw [this]
def GnX (k : Nat) (W W' : World) : Prop := k ≠ 4 -> k ≠ 7 -> Ext W W'
def GrXL (V : Value) (wr : World) (L : ZN) (_ : Nat -> Value) (W : World) : Prop := Chg (rowOf V) wr W /\ (4 ∉ L -> 7 ∉ L -> Ext wr W)
theorem grx_step {V : Value} {wr W W' : World} {L : ZN} {vs : Nat -> Value} {i : Nat} {v : Value} (h : GrXL V wr L vs W) (hx : Ext W W') : GrXL V wr (L ++ [i]) (upd vs i v) W' :=
 ⟨h.1.then (hx.chg _), fun h4 h7 => (h.2 (fun hm => h4 (List.mem_append_left _ hm)) (fun hm => h7 (List.mem_append_left _ hm))).trans hx⟩
theorem grx_brk {V : Value} {wr W' : World} {L : ZN} {vs : Nat -> Value} {i : Nat} {v : Value} (hi : i = 4 \/ i = 7) (hc : Chg (rowOf V) wr W') : GrXL V wr (L ++ [i]) (upd vs i v) W' :=
 ⟨hc, fun h4 h7 => by rcases hi with rfl | rfl; exact absurd (by simp) h4; exact absurd (by simp) h7⟩
theorem ExsR.app {w : World} {l l' : List Ex} {xs xs' : List ExV} (h : ExsR w l xs) (h' : ExsR w l' xs') : ExsR w (l ++ l') (xs ++ xs') := by
 refine ⟨by simp [h.1, h'.1], fun i h1 h2 => ?_⟩
 by_cases hi : i < l.length
 ·have hi2 : i < xs.length := by rw [<- h.1]; exact hi
  simp only [List.getElem_append_left hi, List.getElem_append_left hi2]
  exact h.2 i hi hi2
 have hi2 : xs.length <= i := by have := h.1; omega
 simp only [List.getElem_append_right (Nat.le_of_not_lt hi), List.getElem_append_right hi2]
 have e := h.1
 have := h'.2 (i - l.length) (by simp at h1; omega) (by simp at h2; omega)
 simpa [e] using this
def ExcQ (w0 : World) (B : Nat) (l : List Wb) (V : Value) (n : Nat) (zs : List Value) (w : World) (e : Ending) (w' : World) : Prop := ∃ (v : Value) (ys : List ExV), e = .returned v /\ w'.ownsRow B 45 6 v (n + wbN l) (zs ++ ys.flatMap ExV.cells) /\ ExsR w0 (condsW l) ys /\
 Chg (rowOf V) w w' /\ (∀ k, v.ownBlock = some k -> V.ownBlock = some k \/ w.heap.size <= k)
def ExcL (w0 : World) (B : Nat) (l : List Wb) (V : Value) (n : Nat) (zs : List Value) (w : World) (nl : Nat) (v t : Value) (wr : World) : Prop := ∃ (k : Nat) (ys : List ExV), t = .int .i64 ((k : Nat) : Int) /\ k <= nl /\ wr.ownsRow B 45 6 v (n + wbN (l.take k)) (zs ++ ys.flatMap ExV.cells) /\ ExsR w0 (condsW (l.take k)) ys /\
 Chg (rowOf V) w wr /\ (∀ k, v.ownBlock = some k -> V.ownBlock = some k \/ w.heap.size <= k)
def exc4R (w0 wx : World) (B : Nat) (va : OA) (vn vc : Nat) (zk : List Value) (rv : WbV) (U : List Wb) (y : Nat) : Nat -> Value -> World -> Prop
 | 0, u, _ => u = (.slice va vn vc)
 | 1, u, _ => u = .pointer (some ⟨y, 1, none⟩)
 | 2, u, _ => u = .agg #[.int .i64 rv.x.op, .string rv.x.name, .slice rv.x.aw rv.x.nw rv.x.cw, .int .i64 rv.x.lo, .int .i64 rv.x.hi, .slice rv.x.aa rv.x.na rv.x.ca]
 | 3, u, W => ∃ (g : Nat), u = .slice (some ⟨g, 0, none⟩) 1 1 /\ W.heap[g]? = some (.cells rv.x.cells.toArray 45 (0, 0))
 | 4, u, W => ∃ (gg : Nat) (cp : Nat), u = .slice (some ⟨gg, 0, none⟩) (vn + 1) cp /\ (W.ownsRow B 45 6 (.slice (some ⟨gg, 0, none⟩) (vn + 1) cp) (vn + 1) (zk ++ rv.x.cells) /\ (Value.ownBlock (.slice va vn vc) = some gg \/ wx.heap.size <= gg))
 | 5, u, _ => u = .pointer (some ⟨y, 7, none⟩)
 | 6, u, _ => u = .slice rv.au rv.nu rv.cu
 | _, u, W => ∃ (v2 : Value) (ysn : List ExV), u = v2 /\ (W.ownsRow B 45 6 v2 (vn + 1 + wbN U) (zk ++ rv.x.cells ++ ysn.flatMap ExV.cells) /\ ExsR w0 (condsW U) ysn /\ ∀ q, v2.ownBlock = some q -> Value.ownBlock (.slice va vn vc) = some q \/ wx.heap.size <= q)
theorem exceptions_calls {w0 : World} (fm : Nat) : ∀ (l : List Wb) (a : OA) (nl c B : Nat) (V : Value) (n : Nat) (zs : List Value) (w : World), wbN l < fm -> nl = l.length -> n + wbN l <= 10000 -> WbsD w0 l a -> Ext w0 w -> w0.heap.size <= B -> B <= w.heap.size -> w.ownsRow B 45 6 V n zs ->
  Calls Tryz.prog 113 #[V, .slice a nl c] w (ExcQ w0 B l V n zs w) := by
 induction fm with
 | zero => intro l a nl c B V n zs w h; omega
 | succ fm ih =>
  intro l a nl c B V n zs w hfm hln hnb hdat hx0 hB hBw hown
  have HD := hI hdat
  have HN := hI hln
  have HX0 := hI hx0
  have HOW0 := hI hown
  have IH := hI ih
  have HB := hI hB
  have HBW := hI hBw
  have hwl := wbN_len l
  have hnl : nl <= 10000 := by omega
  clear hdat hln hx0 ih hown
  go_enter Tryz.func113, Tryz.ntmps113
  go_wp2_with fail
  go_loopw [0, 9] (ExcL w0 B l V n zs w nl) (fun _ t _ => nl - (intOf t).toNat)
  case atStart => exact ⟨0, [], rfl, by omega, by simpa [wbN] using HOW0.out, by simp [condsW, ExsR.nil], Chg.refl _ _, fun k hk => Or.inl hk⟩
  case round =>
   obtain ⟨k, ys, rfl, hk, how, hys, hch, hfr⟩ := hrel
   obtain ⟨va, vc, hv⟩ := owns_formG how
   subst hv
   obtain ⟨vn, hvn⟩ : ∃ vn, vn = n + wbN (l.take k) := ⟨_, rfl⟩
   rw [<- hvn] at how hfr ⊢
   have HVN := hI hvn
   have hvb : vn <= 10000 := by have := wbN_take_le l k; omega
   obtain ⟨zk, hzk⟩ : ∃ zk, zk = zs ++ ys.flatMap ExV.cells := ⟨_, rfl⟩
   rw [<- hzk] at how
   have HZK := hI hzk
   have HOW := hI how
   have HYS := hI hys
   have HCH := hI hch
   have HFR := hI hfr
   have HXR := hI (show Ext w0 wr from hch.ext HX0.out (fun y hy => by have := (HOW0.out.lt y (mem_rowOf.1 hy)).1; have := HB.out; omega))
   clear hvn hzk how hys hch hfr
   by_cases hkn : k < nl
   case neg =>
    have t1 : decide ((k : Int) < (nl : Int)) = false := decide_eq_false (by omega)
    have HT := hI (show l.take k = l from List.take_of_length_le (by have := HN.out; omega))
    go_wp2_with fail
    go_ret
    refine ⟨_, ys, rfl, ?_, ?_, HCH.out, HFR.out⟩
    ·have h1 := HOW.out
     have h2 := HVN.out
     rw [HT.out] at h2
     rw [<- h2, <- HZK.out]
     exact h1
    have := HYS.out
    rwa [HT.out] at this
   have hkl : k < l.length := by have := HN.out; omega
   have t1 : decide ((k : Int) < (nl : Int)) = true := decide_eq_true (by omega)
   obtain ⟨b, off, rfl, rv, hv0, hrow, hv2, hv3, hv4, hv5, hv6⟩ := WbsD.at l _ HD.out k hkl
   obtain ⟨c0, c1, c2, c3, c4, c5, c6, c7⟩ := (hrow.mono HXR.out.sub).eight
   have hwn := wbN_at l k hkl
   have HU := hI hv6
   have HUN := hI hv3
   have HEX := hI hv2
   have HTS := hI (wbN_take_succ l k hkl)
   have HCT := hI (condsW_take_succ l k hkl)
   have HTL := hI (wbN_take_le l (k + 1))
   have hunb : vn + 1 + wbN l[k].unl <= 10000 := by have h1 := wbN_take_le l (k + 1); have h2 := wbN_take_succ l k hkl; have h3 := HVN.out; omega
   have hufm : wbN l[k].unl < fm := by omega
   clear hrow hv0 hv2 hv3 hv4 hv5 hv6
   obtain ⟨y, hy⟩ : ∃ y, y = wr.heap.size := ⟨_, rfl⟩
   obtain ⟨wx, hwx⟩ : ∃ wx, wx = wr.alloc (.cells #[.string rv.name, .int .i64 rv.x.op, .string rv.x.name, .slice rv.x.aw rv.x.nw rv.x.cw, .int .i64 rv.x.lo, .int .i64 rv.x.hi, .slice rv.x.aa rv.x.na rv.x.ca, .slice rv.au rv.nu rv.cu] 53) := ⟨_, rfl⟩
   have HBX := hI (show wx.heap[y]? = some (.cells #[.string rv.name, .int .i64 rv.x.op, .string rv.x.name, .slice rv.x.aw rv.x.nw rv.x.cw, .int .i64 rv.x.lo, .int .i64 rv.x.hi, .slice rv.x.aa rv.x.na rv.x.ca, .slice rv.au rv.nu rv.cu] 53 (0, 0)) by rw [hwx, hy]; exact alloc_new wr _)
   have HXX := hI (show Ext wr wx by rw [hwx]; exact (Ext.refl _).alloc _)
   have HYN := hI (show y ∉ rowOf (.slice va vn vc) from fun h => by have := (HOW.out.lt y (mem_rowOf.1 h)).2; omega)
   have HOX := hI (owns_extG HOW.out HXX.out)
   have HYW := hI (show wr.heap.size <= y by omega)
   go_upto_region 4 with fail
   rw [<- hwx, <- hy]
   clear hwx c0 c1 c2 c3 c4 c5 c6 c7 hy
   obtain ⟨U, hU⟩ : ∃ U, U = l[k].unl := ⟨_, rfl⟩
   rw [<- hU] at HU HUN hunb hufm HTS HCT
   have HBX2 := hI (show B <= wx.heap.size from Nat.le_trans HBW.out (Nat.le_trans HCH.out.size HXX.out.size))
   clear hU
   refine wp_region_growLG (n := 0) (m := 8) [7] (GrXL (.slice va vn vc) wx) GnX (GrP (exc4R w0 wx B va vn vc zk rv U y)) (by kernel_rfl) (by kernel_rfl) (Nat.le_of_ble_eq_true rfl) ?gd ⟨((Ext.refl wx).drew).chg _, fun _ _ => (Ext.refl wx).drew⟩ ?_ ?_ ?_
   case gd =>
    intro i o j b hi ho hg
    rcases ltc8 hi with rfl | rfl | rfl | rfl | rfl | rfl | rfl | rfl <;> (cases ho; first | (cases hg; done) | (cases hg; intro v W h; exact h))
   ·intro i k v W W' hi hk hne hout h hE
    have hi' := ltc8 hi
    clear hi hk
    by_cases hk : k = 4
    ·subst hk
     rcases hi' with rfl | rfl | rfl | rfl | rfl | rfl | rfl | rfl
     ·exact h
     ·exact h
     ·exact h
     ·exact absurd hout (by decide +kernel)
     ·exact absurd rfl hne
     ·exact h
     ·exact h
     exact absurd hout (by decide +kernel)
    by_cases hk : k = 7
    ·subst hk
     rcases hi' with rfl | rfl | rfl | rfl | rfl | rfl | rfl | rfl
     ·exact h
     ·exact h
     ·exact h
     ·exact absurd hout (by decide +kernel)
     ·exact absurd hout (by decide +kernel)
     ·exact h
     ·exact h
     exact absurd rfl hne
    have hE : Ext W W' := (hE ‹_› ‹_›)
    rcases hi' with rfl | rfl | rfl | rfl | rfl | rfl | rfl | rfl
    ·exact h
    ·exact h
    ·exact h
    ·obtain ⟨g, e0, h⟩ := h
     exact ⟨g, e0, hE.blk h⟩
    ·obtain ⟨gg, cp, e0, h⟩ := h
     exact ⟨gg, cp, e0, ⟨owns_extG h.1 hE, h.2⟩⟩
    ·exact h
    ·exact h
    obtain ⟨v2, ysn, e0, h⟩ := h
    exact ⟨v2, ysn, e0, ⟨owns_extG h.1 hE, h.2⟩⟩
   ·intro q op hq ho L vs W hqL hcL hW hd ρ hρ
    have hq' := ltc8 hq
    clear hq
    have o0 : ρ (.tmp 0) = (.slice va vn vc) := hρ.out 0 rfl
    have o6 : ρ (.tmp 6) = .pointer (some ⟨y, 0, none⟩) := hρ.out 6 rfl
    have i1 := hρ.i 1 14
    have i2 := hρ.i 2 15
    have i0 := hρ.i 0 13
    have i3 := hρ.i 3 16
    have i5 := hρ.i 5 18
    have i4 := hρ.i 4 17
    have i6 := hρ.i 6 19
    have hc := hρ.const
    have hfn := hρ.func
    clear hρ
    rcases hq' with rfl | rfl | rfl | rfl | rfl | rfl | rfl | rfl
    ·have HG := hI hW
     have HW := hI (show Chg (rowOf (.slice va vn vc)) wx W from hW.1)
     have HQL := hI hqL
     clear hW hqL hcL
     cases ho
     clear hd
     unfold GivesOp
     go_simp
     exact ⟨fun _ _ => Ext.refl W, grx_step HG.out (Ext.refl W), rfl⟩
    ·have HG := hI hW
     have HW := hI (show Chg (rowOf (.slice va vn vc)) wx W from hW.1)
     have HQL := hI hqL
     clear hW hqL hcL
     cases ho
     clear hd
     unfold GivesOp
     go_simp
     exact ⟨fun _ _ => Ext.refl W, grx_step HG.out (Ext.refl W), rfl⟩
    ·have HG := hI hW
     have HW := hI (show Chg (rowOf (.slice va vn vc)) wx W from hW.1)
     have HQL := hI hqL
     clear hW hqL hcL
     cases ho
     have h1 : vs 1 = _ := hd ⟨1, .data⟩ (by simp) rfl
     rw [h1] at i1
     clear hd
     obtain ⟨g0, g1, g2, g3, g4, g5, g6, g7, gf⟩ := blk8 (HW.out.blk HBX.out HYN.out)
     unfold GivesOp
     go_simp
     exact ⟨fun _ _ => Ext.refl W, grx_step HG.out (Ext.refl W), rfl⟩
    ·have HG := hI hW
     have HW := hI (show Chg (rowOf (.slice va vn vc)) wx W from hW.1)
     have HQL := hI hqL
     clear hW hqL hcL
     cases ho
     have h2 : vs 2 = _ := hd ⟨2, .data⟩ (by simp) rfl
     rw [h2] at i2
     clear hd
     unfold GivesOp
     go_simp
     exact ⟨fun _ _ => (Ext.refl W).alloc _, grx_step HG.out ((Ext.refl W).alloc _), W.heap.size, rfl, alloc_new W _⟩
    ·have HN7 := hI (show 7 ∉ L from fun h => absurd (hcL 7 h) (by decide +kernel))
     have HG := hI hW
     have HW := hI (show Chg (rowOf (.slice va vn vc)) wx W from hW.1)
     have HQL := hI hqL
     clear hW hqL hcL
     cases ho
     have h0 : vs 0 = _ := hd ⟨0, .data⟩ (by simp) rfl
     rw [h0] at i0
     obtain ⟨g, h3, hs3⟩ : ∃ (g : Nat), vs 3 = .slice (some ⟨g, 0, none⟩) 1 1 /\ W.heap[g]? = some (.cells rv.x.cells.toArray 45 (0, 0)) := hd ⟨3, .data⟩ (by simp) rfl
     have HS3 := hI hs3
     clear hs3
     rw [h3] at i3
     clear hd
     have HXW := hI (HG.out.2 HQL.out HN7.out)
     refine gives_append elemEx _ _ B _ vn zk i0 g 1 1 rv.x.cells i3 rfl (by simp [ExV.cells, Value.oneCell']) (by omega) (by omega) (by omega) (owns_extG HOX.out HXW.out) (fun j hj => by rw [blk_cell HS3.out]; simp [hj]) (by have := HBX2.out; have := HXW.out.size; omega) ?_
     intro g6 cap6 w6 ho6 hg6 hl6 hlt6
     exact ⟨fun h => absurd rfl h, grx_brk (Or.inl rfl) (HW.out.then (grown_chg hg6)), g6, cap6, rfl, ho6, by rcases hl6 with h | h; exact Or.inl h; exact Or.inr (by have := HXW.out.size; omega)⟩
    ·have HG := hI hW
     have HW := hI (show Chg (rowOf (.slice va vn vc)) wx W from hW.1)
     have HQL := hI hqL
     clear hW hqL hcL
     cases ho
     clear hd
     unfold GivesOp
     go_simp
     exact ⟨fun _ _ => Ext.refl W, grx_step HG.out (Ext.refl W), rfl⟩
    ·have HG := hI hW
     have HW := hI (show Chg (rowOf (.slice va vn vc)) wx W from hW.1)
     have HQL := hI hqL
     clear hW hqL hcL
     cases ho
     have h5 : vs 5 = _ := hd ⟨5, .data⟩ (by simp) rfl
     rw [h5] at i5
     clear hd
     obtain ⟨g0, g1, g2, g3, g4, g5, g6, g7, gf⟩ := blk8 (HW.out.blk HBX.out HYN.out)
     unfold GivesOp
     go_simp
     exact ⟨fun _ _ => Ext.refl W, grx_step HG.out (Ext.refl W), rfl⟩
    have HG := hI hW
    have HW := hI (show Chg (rowOf (.slice va vn vc)) wx W from hW.1)
    have HQL := hI hqL
    clear hW hqL hcL
    cases ho
    obtain ⟨gg, cp, h4, hs4⟩ : ∃ (gg : Nat) (cp : Nat), vs 4 = .slice (some ⟨gg, 0, none⟩) (vn + 1) cp /\ (W.ownsRow B 45 6 (.slice (some ⟨gg, 0, none⟩) (vn + 1) cp) (vn + 1) (zk ++ rv.x.cells) /\ (Value.ownBlock (.slice va vn vc) = some gg \/ wx.heap.size <= gg)) := hd ⟨4, .data⟩ (by simp) rfl
    have HS4 := hI hs4
    clear hs4
    rw [h4] at i4
    have h6 : vs 6 = _ := hd ⟨6, .data⟩ (by simp) rfl
    rw [h6] at i6
    clear hd
    unfold GivesOp
    go_simp
    have HXW0 : Ext w0 W := HW.out.ext (HXR.out.trans HXX.out) (fun q hq => by have := (HOX.out.lt q (mem_rowOf.1 hq)).1; have := HB.out; omega)
    refine (IH.out U rv.au rv.nu rv.cu B _ (vn + 1) _ W hufm HUN.out (by omega) HU.out HXW0 HB.out (by have := HBX2.out; have := HW.out.size; omega) HS4.out.1).mono ?_
    rintro r w6 ⟨v6, ys6, rfl, k1, k2, k3, k4⟩
    have hrow : ∀ q, some gg = some q -> q ∈ rowOf (.slice va vn vc) \/ wx.heap.size <= q := fun q hq => by
     obtain rfl : gg = q := by simpa using hq
     rcases HS4.out.2 with h | h
     ·exact Or.inl (mem_rowOf.2 h)
     exact Or.inr h
    exact ⟨_, rfl, fun _ h => absurd rfl h, grx_brk (Or.inr rfl) (HW.out.trans k3 (fun q hq => hrow q (mem_rowOf.1 hq))), v6, ys6, rfl, k1, k2, fun q hq => by
     rcases k4 q hq with h | h
     ·exact (hrow q h).imp mem_rowOf.1 id
     exact Or.inr (by have := HW.out.size; omega)⟩
   intro L vs W hLm hW hR
   rw [if_neg (by decide +kernel)]
   obtain ⟨v2, ysn, h7, hs7⟩ : ∃ (v2 : Value) (ysn : List ExV), vs 7 = v2 /\ (W.ownsRow B 45 6 v2 (vn + 1 + wbN U) (zk ++ rv.x.cells ++ ysn.flatMap ExV.cells) /\ ExsR w0 (condsW U) ysn /\ ∀ q, v2.ownBlock = some q -> Value.ownBlock (.slice va vn vc) = some q \/ wx.heap.size <= q) := hR 7 (by simp) (by omega)
   have HS7 := hI hs7
   clear hs7
   refine wpOp_lastG rfl ?_
   change wpList _ _ _ [⟨some 0, .assign (.tmp 20), _, _, _, none⟩] _ _
   simp only [acts, dstAt, List.range, List.range.loop, List.foldl_cons, List.foldl_nil, h7]
   go_simp
   have hW2 : Chg (rowOf (.slice va vn vc)) wx W := hW.1
   clear hR hW hLm h7
   obtain ⟨h1, h2, h3⟩ := HS7.out
   have HO8 := hI h1
   have HY8 := hI h2
   have HF8 := hI h3
   have HC8 := hI (show Chg (rowOf (.slice va vn vc)) wx W from hW2)
   clear HS7 hW2 h1 h2 h3
   go_wp2_with fail
   go_roundw
   case rel =>
    refine ⟨k + 1, ys ++ rv.x :: ysn, by go_num, by omega, ?_, ?_, ?_, ?_⟩
    ·have h1 := HO8.out
     have h2 : vn + 1 + wbN U = n + wbN (l.take (k + 1)) := by have := HVN.out; have := HTS.out; omega
     rw [h2, HZK.out] at h1
     simpa using h1
    ·rw [HCT.out]
     refine HYS.out.app ?_
     have h1 : ExsR w0 [l[k].cond] [rv.x] := (ExsR.nil w0).snoc HEX.out
     have := h1.app HY8.out
     simpa using this
    ·refine (HCH.out.then (HXX.out.chg _)).trans HC8.out fun y hy => ?_
     rcases HFR.out y (mem_rowOf.1 hy) with h | h
     ·exact Or.inl (mem_rowOf.2 h)
     exact Or.inr h
    intro q hq
    rcases HF8.out q hq with h | h
    ·exact HFR.out q h
    exact Or.inr (by have h1 := HCH.out.size; have h2 := HXX.out.size; omega)
   case measure => simp [intOf]; omega
end Go.Proofs.YtefjomofjejklaaGreatDoor
