/-
  Texts of the claim, joined: Exp2, Heap1, Heap2, Heap3, Heap4, Heap5, Heap6, Heap7.
-/
import Derived.Test.YtefjomofjejklaaGreatDoorDt08
import Derived.Lib.Builder
import Derived.Outline
import Derived.Maps.AppendAt
namespace Go.Proofs.YtefjomofjejklaaGreatDoor
set_option maxRecDepth 100000
set_option maxHeartbeats 32000000
mutual
theorem expE_ge {D : BA -> Option Nat} {s : BA} {n : Nat} (hn : D s = some n) : (e : Ex) -> s ∈ namesE e -> min n 2001 <= expE D e
 | .mk op name words lo hi args, h => by
  rw [namesE, List.mem_append] at h
  rw [expE]
  rcases h with h | h
  ·by_cases h3 : op = 3
   ·rw [if_pos h3] at h
    have : s = name := by simpa using h
    subst this
    rw [if_pos h3, hn]
    simp only [Option.getD_some]
    omega
   rw [if_neg h3] at h; simp at h
  have := expL_ge hn args h
  omega
theorem expL_ge {D : BA -> Option Nat} {s : BA} {n : Nat} (hn : D s = some n) : (l : List Ex) -> s ∈ namesL l -> min n 2001 <= expL D l
 | [], h => by rw [namesL] at h; simp at h
 | e :: r, h => by
  rw [namesL, List.mem_append] at h
  rw [expL]
  rcases h with h | h
  ·have := expE_ge hn e h; omega
  have := expL_ge hn r h; omega
end
theorem expF_ge {l : List Cla} {e : Ex} {s : BA} {d : Nat} (hs : s ∈ namesE e) (hd : defAt l s = some d) {f : Nat} (h : expF l f (l.getD d cla0).cond = 2001) : expF l (f + 1) e = 2001 := by
 have h1 := expF_le l (f + 1) e
 rw [expF] at h1 ⊢
 have := expE_ge (D := fun s => (defAt l s).map fun d => expF l f (l.getD d cla0).cond) (n := 2001) (by rw [hd]; simp only [Option.map_some]; rw [h]) e hs
 omega
inductive Reach (l : List Cla) (e : Ex) : Nat -> Prop
 | base {s : BA} {d : Nat} : s ∈ namesE e -> defAt l s = some d -> Reach l e d
 | step {d d' : Nat} {s : BA} : Reach l e d -> s ∈ namesE (l.getD d cla0).cond -> defAt l s = some d' -> Reach l e d'
theorem Reach.large {l : List Cla} {e : Ex} {d : Nat} (h : Reach l e d) : (∀ f, expF l f (l.getD d cla0).cond = 2001) -> ∀ f, expF l f e = 2001 := by
 induction h with
 | base hs hd =>
  intro h f
  cases f with
  | zero => rfl
  | succ f => exact expF_ge hs hd (h f)
 | step _ hs hd ih =>
  intro h
  refine ih fun f => ?_
  cases f with
  | zero => rfl
  | succ f => exact expF_ge hs hd (h f)
structure Used (l : List Cla) (e : Ex) (u : List Cla) : Prop where
 defs : ∀ c ∈ u, c.kind = 1 /\ ∃ d, defAt l c.name = some d /\ c.cond = (l.getD d cla0).cond /\ Reach l e d
 names : (u.map (·.name)).Nodup
 top : ∀ s ∈ namesE e, ∀ d, defAt l s = some d -> s ∈ u.map (·.name)
 closed : ∀ c ∈ u, ∀ s ∈ namesE c.cond, ∀ d, defAt l s = some d -> s ∈ u.map (·.name)
theorem Used.defAt {l : List Cla} {e : Ex} {u : List Cla} (h : Used l e u) {i : Nat} (hi : i < u.length) : defAt u u[i].name = some i := by
 unfold Proofs.YtefjomofjejklaaGreatDoor.defAt
 rw [List.findIdx?_eq_some_iff_getElem]
 refine ⟨hi, ?_, fun j hj => ?_⟩
 ·have := (h.defs u[i] (List.getElem_mem hi)).1
  simp [this]
 have hne : u[j].name ≠ u[i].name := by
  have := (List.pairwise_iff_getElem.1 h.names) j i (by simp; omega) (by simpa using hi) hj
  simpa using this
 simp [hne]
theorem Used.at {l : List Cla} {e : Ex} {u : List Cla} (h : Used l e u) {s : BA} (hm : s ∈ u.map (·.name)) : ∃ i d, i < u.length /\ Proofs.YtefjomofjejklaaGreatDoor.defAt u s = some i /\ Proofs.YtefjomofjejklaaGreatDoor.defAt l s = some d /\ (u.getD i cla0).cond = (l.getD d cla0).cond := by
 obtain ⟨c, hc, rfl⟩ := List.mem_map.1 hm
 obtain ⟨i, hi, rfl⟩ := List.mem_iff_getElem.1 hc
 obtain ⟨_, d, h1, h2, _⟩ := h.defs _ hc
 exact ⟨i, d, hi, h.defAt hi, h1, by rw [getD_cla hi]; exact h2⟩
theorem Used.only {l : List Cla} {e : Ex} {u : List Cla} (h : Used l e u) {s : BA} (hn : Proofs.YtefjomofjejklaaGreatDoor.defAt l s = none) : Proofs.YtefjomofjejklaaGreatDoor.defAt u s = none := by
 cases hd : Proofs.YtefjomofjejklaaGreatDoor.defAt u s with
 | none => rfl
 | some i =>
  have hi := defAt_lt hd
  have h1 := (defAt_name hd).1
  rw [getD_cla hi] at h1
  obtain ⟨_, d, h2, _⟩ := h.defs _ (List.getElem_mem hi)
  rw [h1, hn] at h2
  cases h2
theorem Used.same {l : List Cla} {e : Ex} {u : List Cla} (h : Used l e u) : ∀ f x, (∀ s ∈ namesE x, ∀ d, Proofs.YtefjomofjejklaaGreatDoor.defAt l s = some d -> s ∈ u.map (·.name)) -> expF u f x = expF l f x := by
 intro f
 induction f with
 | zero => intro x _; rfl
 | succ f ih =>
  intro x hx
  rw [expF, expF]
  refine expE_congr _ fun s hs => ?_
  cases hd : Proofs.YtefjomofjejklaaGreatDoor.defAt l s with
  | none => rw [h.only hd]; rfl
  | some d =>
   obtain ⟨i, d', hi, h1, h2, h3⟩ := h.at (hx s hs d hd)
   rw [hd] at h2
   cases h2
   rw [h1]
   simp only [Option.map_some, h3, Option.some.injEq]
   refine ih _ fun t ht d2 hd2 => ?_
   rw [<- h3, getD_cla hi] at ht
   exact h.closed _ (List.getElem_mem hi) t ht d2 hd2
theorem Used.len {l : List Cla} {e : Ex} {u : List Cla} (h : Used l e u) : u.length <= l.length := by
 have key := nodup_le (u.map fun c => (Proofs.YtefjomofjejklaaGreatDoor.defAt l c.name).getD 0) (List.range l.length) ?_ ?_
 ·simpa using key
 ·rw [List.Nodup, List.pairwise_map]
  have h1 := h.names
  rw [List.Nodup, List.pairwise_map] at h1
  refine h1.imp_of_mem fun {a b} ha hb hne he => ?_
  obtain ⟨_, d, h2, _⟩ := h.defs a ha
  obtain ⟨_, d', h3, _⟩ := h.defs b hb
  rw [h2, h3] at he
  simp only [Option.getD_some] at he
  subst he
  exact hne ((defAt_name h2).1.symm.trans (defAt_name h3).1)
 intro x hx
 obtain ⟨c, hc, rfl⟩ := List.mem_map.1 hx
 obtain ⟨_, d, h2, _⟩ := h.defs c hc
 rw [h2]
 exact List.mem_range.2 (defAt_lt h2)
theorem Used.good {l : List Cla} {e : Ex} {u : List Cla} (h : Used l e u) {o : ZN} (ht : Topo (u.map Cla.dfn) o) (hb : ∀ c ∈ u, bareE c.cond = true) (he : bareE e = true) : szE (sizesF u o) e = expanded l e := by
 have hlt : ∀ i ∈ o, i < u.length := fun i hi => by simpa using ht.lt hi
 rw [sizes_exp ht (fun i hi => by rw [getD_cla (hlt i hi)]; exact h.defAt (hlt i hi)) (fun i hi => by rw [getD_cla (hlt i hi)]; exact hb _ (List.getElem_mem _)) e he]
 unfold expanded
 rw [<- h.same (l.length + 1) e h.top, expF, expF]
 refine expE_congr _ fun s hs => ?_
 cases hd : Proofs.YtefjomofjejklaaGreatDoor.defAt u s with
 | none => rfl
 | some i =>
  have hi := defAt_lt hd
  have hio : i ∈ o := (ht.all i).2 (by rw [isDef_dfn hi, (h.defs _ (List.getElem_mem hi)).1]; rfl)
  obtain ⟨q, hq⟩ := List.mem_iff_getElem?.1 hio
  have hql : q < o.length := (List.getElem?_eq_some_iff.1 hq).1
  have h1 := ht.len
  have h2 := h.len
  simp only [List.length_map] at h1
  simp only [Option.map_some, Option.some.injEq]
  exact expF_stable ht q i hq _ _ (by omega) (by omega)
theorem Used.cyclic {l : List Cla} {e : Ex} {u : List Cla} (h : Used l e u) {o : ZN} (ho : OInv (u.map Cla.dfn) o []) (hc : o.length < countOf (u.map Cla.dfn)) : expanded l e = 2001 := by
 have hbad : ∀ f i, (hi : i < u.length) -> i ∉ o -> expF u f u[i].cond = 2001 := by
  intro f
  induction f with
  | zero => intro i _ _; rfl
  | succ f ih =>
   intro i hi hio
   have hdef : isDef (u.map Cla.dfn) i = true := by rw [isDef_dfn hi, (h.defs _ (List.getElem_mem hi)).1]; rfl
   have hm : missL (u.map Cla.dfn) o i ≠ [] := fun hm => hio (by have := (ho.ready i).2 ⟨hdef, hm⟩; simpa using this)
   obtain ⟨s, hs⟩ := List.exists_mem_of_ne_nil _ hm
   obtain ⟨h1, d, h2, h3⟩ := mem_miss.1 hs
   rw [usesAt_dfn hi, refNames_mem] at h1
   rw [firstAt_dfn] at h2
   have hdl := defAt_lt h2
   refine expF_ge h1 h2 ?_
   rw [getD_cla hdl]
   exact ih d hdl h3
 obtain ⟨i, hi, hio⟩ : ∃ i, i < u.length /\ i ∉ o := by
  refine Classical.byContradiction fun hn => ?_
  have := nodup_le _ o (List.nodup_range.filter (isDef (u.map Cla.dfn))) fun i hi => Classical.byContradiction fun hio => hn ⟨i, by simpa using isDef_lt (mem_defs.1 hi), hio⟩
  unfold countOf at hc
  omega
 obtain ⟨_, d, h1, h2, h3⟩ := h.defs _ (List.getElem_mem hi)
 refine h3.large (fun f => ?_) _
 rw [<- h2, <- h.same f u[i].cond (h.closed _ (List.getElem_mem hi))]
 exact hbad f i hi hio
open Go.RowKit
theorem pile_cell {e : TypeId} {g : Nat} {cur : Array Value} {xs : ZI} {w : World} (hg : w.heap[g]? = some (.cells cur e (0, 0))) (h4 : cur.toList.take xs.length = xs.map fun z => Value.int .i64 z) {i : Nat} (hi : i < xs.length) : w.cell? ⟨g, i, none⟩ = some (.int .i64 xs[i]) /\ w.frozen? ⟨g, i, none⟩ = false := by
 have h5 : (cur.toList.take xs.length)[i]? = some (.int .i64 xs[i]) := by rw [h4]; simp [hi]
 rw [List.getElem?_take, if_pos hi] at h5
 refine ⟨?_, Lib.frozen_of_heap hg i⟩
 rw [Lib.cell_of_heap hg]
 simpa using h5
theorem meth_push (n b : Nat) (w : World) : (method (n + 1) 168 (.pointer (some ⟨b, 0, none⟩)) "Push").run Tryz.prog w = .ok (233, .pointer (some ⟨b, 0, none⟩)) w := by kernel_rfl
theorem meth_pop (n b : Nat) (w : World) : (method (n + 1) 168 (.pointer (some ⟨b, 0, none⟩)) "Pop").run Tryz.prog w = .ok (232, .pointer (some ⟨b, 0, none⟩)) w := by kernel_rfl
theorem meth_len (n b : Nat) (v : Value) (w : World) (h : w.cell? ⟨b, 0, none⟩ = some v) : (method (n + 1) 168 (.pointer (some ⟨b, 0, none⟩)) "Len").run Tryz.prog w = .ok (111, v) w := by
 have e : (method (n + 1) 168 (.pointer (some ⟨b, 0, none⟩)) "Len").run Tryz.prog w = (loadVar 169 ⟨b, 0, none⟩ >>= fun v => pure (111, v)).run Tryz.prog w := by kernel_rfl
 rw [e]
 simp [loadVar, go_sem, h]
theorem meth_less (n b : Nat) (v : Value) (w : World) (h : w.cell? ⟨b, 0, none⟩ = some v) : (method (n + 1) 168 (.pointer (some ⟨b, 0, none⟩)) "Less").run Tryz.prog w = .ok (231, v) w := by
 have e : (method (n + 1) 168 (.pointer (some ⟨b, 0, none⟩)) "Less").run Tryz.prog w = (loadVar 169 ⟨b, 0, none⟩ >>= fun v => pure (231, v)).run Tryz.prog w := by kernel_rfl
 rw [e]
 simp [loadVar, go_sem, h]
theorem meth_swap (n b : Nat) (v : Value) (w : World) (h : w.cell? ⟨b, 0, none⟩ = some v) : (method (n + 1) 168 (.pointer (some ⟨b, 0, none⟩)) "Swap").run Tryz.prog w = .ok (235, v) w := by
 have e : (method (n + 1) 168 (.pointer (some ⟨b, 0, none⟩)) "Swap").run Tryz.prog w = (loadVar 169 ⟨b, 0, none⟩ >>= fun v => pure (235, v)).run Tryz.prog w := by kernel_rfl
 rw [e]
 simp [loadVar, go_sem, h]
theorem ahead_len (n b : Nat) (w : World) : (nilAhead (n + 1) 168 (.pointer (some ⟨b, 0, none⟩)) "Len").run Tryz.prog w = .ok (some false) w := by kernel_rfl
theorem ahead_less (n b : Nat) (w : World) : (nilAhead (n + 1) 168 (.pointer (some ⟨b, 0, none⟩)) "Less").run Tryz.prog w = .ok (some false) w := by kernel_rfl
theorem ahead_swap (n b : Nat) (w : World) : (nilAhead (n + 1) 168 (.pointer (some ⟨b, 0, none⟩)) "Swap").run Tryz.prog w = .ok (some false) w := by kernel_rfl
theorem ahead_push (n b : Nat) (w : World) : (nilAhead (n + 1) 168 (.pointer (some ⟨b, 0, none⟩)) "Push").run Tryz.prog w = .ok (some false) w := by kernel_rfl
theorem ahead_pop (n b : Nat) (w : World) : (nilAhead (n + 1) 168 (.pointer (some ⟨b, 0, none⟩)) "Pop").run Tryz.prog w = .ok (some false) w := by kernel_rfl
theorem ilen_calls (a : OA) (n c : Nat) (w : World) : Calls Tryz.prog 111 #[.slice a n c] w (Gives (.int .i64 n) w) := by
 go_enter Tryz.func111, Tryz.ntmps111
 go_wp2_with fail
 go_ret
 exact ⟨rfl, rfl⟩
theorem iless_calls (g n c i j : Nat) (x y : Int) (w : World) (hi : i < n) (hj : j < n) (h1 : w.cell? ⟨g, i, none⟩ = some (.int .i64 x)) (h2 : w.cell? ⟨g, j, none⟩ = some (.int .i64 y)) :
  Calls Tryz.prog 231 #[.slice (some ⟨g, 0, none⟩) n c, .int .i64 i, .int .i64 j] w (GivesE (.bool (decide (x < y))) w) := by
 go_enter Tryz.func231, Tryz.ntmps231
 go_upto_region 1 with fail
 go_quiet (fail)
 go_wp2_with fail
 go_ret
 exact ⟨rfl, Ext.drewN (Ext.refl _) _⟩
def tabS (g n c i j : Nat) (x y : Int) : List Value :=
 [.slice (some ⟨g, 0, none⟩) n c, .int .i64 i, .slice (some ⟨g, 0, none⟩) n c, .int .i64 j, .slice (some ⟨g, 0, none⟩) n c, .int .i64 j, .pointer (some ⟨g, j, none⟩), .int .i64 y, .slice (some ⟨g, 0, none⟩) n c, .int .i64 i, .pointer (some ⟨g, i, none⟩), .int .i64 x, .pointer (some ⟨g, i, none⟩), undef, .pointer (some ⟨g, j, none⟩)]
def RS (tab : List Value) (i : Nat) (u : Value) (_ : World) : Prop := u = tab.getD i undef
def GS (w w1 : World) (L : ZN) (W : World) : Prop := (13 ∉ L -> ∃ k, W = w.drewN k) /\ (13 ∈ L -> ∃ k, W = w1.drewN k)
def ES (_ : Nat) (_ _ : World) : Prop := True
theorem GS.plain {w w1 : World} {L : ZN} {W : World} (h : GS w w1 L W) {i : Nat} (hi : i ≠ 13) : GS w w1 (L ++ [i]) W := by
 have hm : 13 ∈ L ++ [i] ↔ 13 ∈ L := by simp; omega
 unfold GS
 rw [hm]; exact h
theorem swap_before {ops : Array Oper} {m : Nat} {L : ZN} {i : Nat} (hg : (13 == i || comesAfter ops m 13 i) = true) (hi : i ∉ L) (hL : ∀ j ∈ L, comesAfter ops m j i = false) : 13 ∉ L := by
 intro h
 rw [hL 13 h] at hg
 simp only [Bool.or_false, beq_iff_eq] at hg
 exact hi (hg ▸ h)
theorem iswap_calls (g n c i j : Nat) (x y : Int) (w : World) (hi : i < n) (hj : j < n) (h1 : w.cell? ⟨g, i, none⟩ = some (.int .i64 x)) (h2 : w.cell? ⟨g, j, none⟩ = some (.int .i64 y)) (hf : ∀ k, w.frozen? ⟨g, k, none⟩ = false) :
  Calls Tryz.prog 235 #[.slice (some ⟨g, 0, none⟩) n c, .int .i64 i, .int .i64 j] w (fun e w' => e = .returned (.tuple #[]) /\ ∃ k, w' = ((w.setCell ⟨g, i, none⟩ (.int .i64 y)).setCell ⟨g, j, none⟩ (.int .i64 x)).drewN k) := by
 go_enter Tryz.func235, Tryz.ntmps235
 go_upto_region 0 with fail
 refine wp_region_growL (m := 15) [11, 14] (GS w (w.setCell ⟨g, i, none⟩ (.int .i64 y))) ES (RS (tabS g n c i j x y)) (by kernel_rfl) (by kernel_rfl) ⟨fun _ => ⟨1, rfl⟩, fun h => by simp at h⟩ (fun _ _ _ _ _ _ _ _ _ hR _ => hR) ?_ ?_
 ·intro q o hq ho L vs W hiL hnc hG hd ρ hρ
  have hq' := ltc15 hq
  clear hq
  have o0 : ρ (.tmp 0) = .slice (some ⟨g, 0, none⟩) n c := hρ.out 0 rfl
  have o1 : ρ (.tmp 1) = .int .i64 i := hρ.out 1 rfl
  have o2 : ρ (.tmp 2) = .int .i64 j := hρ.out 2 rfl
  have hcs := hρ.const
  have HG := hI hG
  clear hG
  rcases hq' with rfl | rfl | rfl | rfl | rfl | rfl | rfl | rfl | rfl | rfl | rfl | rfl | rfl | rfl | rfl
  ·cases ho
   clear hρ hd
   unfold GivesOp
   go_simp
   exact ⟨trivial, HG.out.plain (by omega), rfl⟩
  ·cases ho
   clear hρ hd
   unfold GivesOp
   go_simp
   exact ⟨trivial, HG.out.plain (by omega), rfl⟩
  ·cases ho
   clear hρ hd
   unfold GivesOp
   go_simp
   exact ⟨trivial, HG.out.plain (by omega), rfl⟩
  ·cases ho
   clear hρ hd
   unfold GivesOp
   go_simp
   exact ⟨trivial, HG.out.plain (by omega), rfl⟩
  ·cases ho
   clear hρ hd
   unfold GivesOp
   go_simp
   exact ⟨trivial, HG.out.plain (by omega), rfl⟩
  ·cases ho
   clear hρ hd
   unfold GivesOp
   go_simp
   exact ⟨trivial, HG.out.plain (by omega), rfl⟩
  ·cases ho
   have i4 := hρ.i 4 10
   have d4 : vs 4 = _ := hd ⟨4, .data⟩ (by simp) rfl
   rw [d4] at i4
   dsimp only [tabS, List.getD_cons_zero, List.getD_cons_succ] at i4
   have i5 := hρ.i 5 11
   have d5 : vs 5 = _ := hd ⟨5, .data⟩ (by simp) rfl
   rw [d5] at i5
   dsimp only [tabS, List.getD_cons_zero, List.getD_cons_succ] at i5
   clear hρ hd
   unfold GivesOp
   go_simp
   exact ⟨trivial, HG.out.plain (by omega), rfl⟩
  ·cases ho
   have i6 := hρ.i 6 12
   have d6 : vs 6 = _ := hd ⟨6, .data⟩ (by simp) rfl
   rw [d6] at i6
   dsimp only [tabS, List.getD_cons_zero, List.getD_cons_succ] at i6
   obtain ⟨kw, rfl⟩ := HG.out.1 (swap_before (by decide +kernel) hiL hnc)
   have c1 : (w.drewN kw).cell? ⟨g, i, none⟩ = some (.int .i64 x) := h1
   have c2 : (w.drewN kw).cell? ⟨g, j, none⟩ = some (.int .i64 y) := h2
   have cf : ∀ k, (w.drewN kw).frozen? ⟨g, k, none⟩ = false := hf
   clear hρ hd
   unfold GivesOp
   go_simp
   exact ⟨trivial, HG.out.plain (by omega), rfl⟩
  ·cases ho
   clear hρ hd
   unfold GivesOp
   go_simp
   exact ⟨trivial, HG.out.plain (by omega), rfl⟩
  ·cases ho
   clear hρ hd
   unfold GivesOp
   go_simp
   exact ⟨trivial, HG.out.plain (by omega), rfl⟩
  ·cases ho
   have i8 := hρ.i 8 14
   have d8 : vs 8 = _ := hd ⟨8, .data⟩ (by simp) rfl
   rw [d8] at i8
   dsimp only [tabS, List.getD_cons_zero, List.getD_cons_succ] at i8
   have i9 := hρ.i 9 15
   have d9 : vs 9 = _ := hd ⟨9, .data⟩ (by simp) rfl
   rw [d9] at i9
   dsimp only [tabS, List.getD_cons_zero, List.getD_cons_succ] at i9
   clear hρ hd
   unfold GivesOp
   go_simp
   exact ⟨trivial, HG.out.plain (by omega), rfl⟩
  ·cases ho
   have i10 := hρ.i 10 16
   have d10 : vs 10 = _ := hd ⟨10, .data⟩ (by simp) rfl
   rw [d10] at i10
   dsimp only [tabS, List.getD_cons_zero, List.getD_cons_succ] at i10
   obtain ⟨kw, rfl⟩ := HG.out.1 (swap_before (by decide +kernel) hiL hnc)
   have c1 : (w.drewN kw).cell? ⟨g, i, none⟩ = some (.int .i64 x) := h1
   have c2 : (w.drewN kw).cell? ⟨g, j, none⟩ = some (.int .i64 y) := h2
   have cf : ∀ k, (w.drewN kw).frozen? ⟨g, k, none⟩ = false := hf
   clear hρ hd
   unfold GivesOp
   go_simp
   exact ⟨trivial, HG.out.plain (by omega), rfl⟩
  ·cases ho
   have i0 := hρ.i 0 6
   have d0 : vs 0 = _ := hd ⟨0, .data⟩ (by simp) rfl
   rw [d0] at i0
   dsimp only [tabS, List.getD_cons_zero, List.getD_cons_succ] at i0
   have i1 := hρ.i 1 7
   have d1 : vs 1 = _ := hd ⟨1, .data⟩ (by simp) rfl
   rw [d1] at i1
   dsimp only [tabS, List.getD_cons_zero, List.getD_cons_succ] at i1
   clear hρ hd
   unfold GivesOp
   go_simp
   exact ⟨trivial, HG.out.plain (by omega), rfl⟩
  ·cases ho
   have i12 := hρ.i 12 18
   have d12 : vs 12 = _ := hd ⟨12, .data⟩ (by simp) rfl
   rw [d12] at i12
   dsimp only [tabS, List.getD_cons_zero, List.getD_cons_succ] at i12
   have i7 := hρ.i 7 13
   have d7 : vs 7 = _ := hd ⟨7, .data⟩ (by simp) rfl
   rw [d7] at i7
   dsimp only [tabS, List.getD_cons_zero, List.getD_cons_succ] at i7
   obtain ⟨kw, rfl⟩ := HG.out.1 (swap_before (by decide +kernel) hiL hnc)
   have c1 : (w.drewN kw).cell? ⟨g, i, none⟩ = some (.int .i64 x) := h1
   have c2 : (w.drewN kw).cell? ⟨g, j, none⟩ = some (.int .i64 y) := h2
   have cf : ∀ k, (w.drewN kw).frozen? ⟨g, k, none⟩ = false := hf
   clear hρ hd
   unfold GivesOp
   go_simp
   exact ⟨trivial, ⟨fun h => absurd (by simp) h, fun _ => ⟨kw, rfl⟩⟩, rfl⟩
  cases ho
  have i2 := hρ.i 2 8
  have d2 : vs 2 = _ := hd ⟨2, .data⟩ (by simp) rfl
  rw [d2] at i2
  dsimp only [tabS, List.getD_cons_zero, List.getD_cons_succ] at i2
  have i3 := hρ.i 3 9
  have d3 : vs 3 = _ := hd ⟨3, .data⟩ (by simp) rfl
  rw [d3] at i3
  dsimp only [tabS, List.getD_cons_zero, List.getD_cons_succ] at i3
  clear hρ hd
  unfold GivesOp
  go_simp
  exact ⟨trivial, HG.out.plain (by omega), rfl⟩
 intro L vs W hall hG hR
 rw [if_neg (by decide +kernel)]
 have r11 : vs 11 = .int .i64 x := hR 11 (by simp) (by omega)
 have r14 : vs 14 = .pointer (some ⟨g, j, none⟩) := hR 14 (by simp) (by omega)
 obtain ⟨kw, rfl⟩ := hG.2 (hall 13 (by omega))
 have c2 : ∃ u, ((w.setCell ⟨g, i, none⟩ (.int .i64 y)).drewN kw).cell? ⟨g, j, none⟩ = some u := by
  by_cases e : i = j
  ·subst e
   exact ⟨_, World.cell?_setCell_same' w ⟨g, i, none⟩ (.int .i64 y) (by simp [h1])⟩
  exact ⟨_, (World.cell?_setCell_other w _ _ _ (by simp only [ne_eq, Addr.mk.injEq, true_and, and_true]; omega)).trans h2⟩
 obtain ⟨u, c2⟩ := c2
 have cf : ((w.setCell ⟨g, i, none⟩ (.int .i64 y)).drewN kw).frozen? ⟨g, j, none⟩ = false := (World.frozen?_setCell _ _ _ _).trans (hf j)
 clear hG hall hR
 unfold wpOp
 simp only [acts, dstAt, List.range, List.range.loop, List.foldl_cons, List.foldl_nil, r11, r14]
 go_simp
 refine Or.inl ?_
 go_wp2_with fail
 go_end0
 exact ⟨rfl, kw, rfl⟩
structure PileG (B b g cap : Nat) (xs : ZI) (w : World) : Prop where
 hB : B <= b
 hg : B <= g
 hgb : g ≠ b
 hb : w.heap[b]? = some (.cells #[.slice (some ⟨g, 0, none⟩) xs.length cap] 171 (0, 0))
 row : ∃ cur : Array Value, w.heap[g]? = some (.cells cur 3 (0, 0)) /\ xs.length <= cap /\ cap <= maxLen /\ cur.size = cap /\ cur.toList.take xs.length = xs.map fun z => Value.int .i64 z
theorem PileG.cell {B b g cap : Nat} {xs : ZI} {w : World} (h : PileG B b g cap xs w) {i : Nat} (hi : i < xs.length) : w.cell? ⟨g, i, none⟩ = some (.int .i64 xs[i]) := by
 obtain ⟨cur, h1, _, _, _, h5⟩ := h.row
 exact (pile_cell h1 h5 hi).1
theorem PileG.free {B b g cap : Nat} {xs : ZI} {w : World} (h : PileG B b g cap xs w) (i : Nat) : w.frozen? ⟨g, i, none⟩ = false := by
 obtain ⟨cur, h1, _⟩ := h.row
 exact Lib.frozen_of_heap h1 i
theorem PileG.head {B b g cap : Nat} {xs : ZI} {w : World} (h : PileG B b g cap xs w) : w.cell? ⟨b, 0, none⟩ = some (.slice (some ⟨g, 0, none⟩) xs.length cap) := blk_cell h.hb 0
theorem PileG.chg {B b g cap : Nat} {xs : ZI} {w w' : World} {N : ZN} (h : PileG B b g cap xs w) (hc : Chg N w w') (h1 : b ∉ N) (h2 : g ∉ N) : PileG B b g cap xs w' := by
 obtain ⟨a1, a2, a3, a4, cur, a5, r⟩ := h
 exact ⟨a1, a2, a3, hc.blk a4 h1, cur, hc.blk a5 h2, r⟩
theorem PileG.ext {B b g cap : Nat} {xs : ZI} {w w' : World} (h : PileG B b g cap xs w) (hx : Ext w w') : PileG B b g cap xs w' := h.chg (hx.chg []) (by simp) (by simp)
theorem PileG.set {B b g cap : Nat} {xs : ZI} {w : World} (h : PileG B b g cap xs w) (i : Nat) (z : Int) : PileG B b g cap (xs.set i z) (w.setCell ⟨g, i, none⟩ (.int .i64 z)) := by
 obtain ⟨a1, a2, a3, a4, cur, a5, a6, a7, a8, a9⟩ := h
 refine ⟨a1, a2, a3, ?_, cur.setIfInBounds i (.int .i64 z), ?_, by simpa using a6, a7, by simpa using a8, ?_⟩
 ·rw [Below.heap_setCell _ _ _ _ (by simpa using fun h => a3 h.symm)]; simpa using a4
 ·simp [World.setCell, Array.getElem?_modify, a5]
 simp only [Array.toList_setIfInBounds, List.length_set]
 rw [List.take_set, a9, List.map_set]
theorem PileG.swap {B b g cap : Nat} {xs : ZI} {w : World} (h : PileG B b g cap xs w) {i j : Nat} (hi : i < xs.length) (hj : j < xs.length) (k : Nat) :
  PileG B b g cap ((xs.set i xs[j]).set j xs[i]) (((w.setCell ⟨g, i, none⟩ (.int .i64 xs[j])).setCell ⟨g, j, none⟩ (.int .i64 xs[i])).drewN k) /\ Chg [g] w (((w.setCell ⟨g, i, none⟩ (.int .i64 xs[j])).setCell ⟨g, j, none⟩ (.int .i64 xs[i])).drewN k) :=
 ⟨((h.set i xs[j]).set j xs[i]).ext ((Ext.refl _).drewN k), (((Chg.refl [g] w).setCell (Or.inl (by simp)) _).setCell (Or.inl (by simp)) _).drewN k⟩
def PermQ (v : Value) (B b g cap : Nat) (xs : ZI) (w : World) (e : Ending) (w' : World) : Prop := e = .returned v /\ ∃ ys : ZI, ys.Perm xs /\ PileG B b g cap ys w' /\ Chg [g] w w'
theorem up_calls (B b g cap : Nat) (xs : ZI) (w : World) (h : PileG B b g cap xs w) (j : Nat) (hj : j < xs.length) :
  Calls Tryz.prog 143 #[.iface 168 (.pointer (some ⟨b, 0, none⟩)), .int .i64 j] w (PermQ (.tuple #[]) B b g cap xs w) := by
 obtain ⟨cur, hr1, hr2, hr3, hr4, hr5⟩ := h.row
 have hlen : xs.length <= 9223372036854775807 := by unfold maxLen at hr3; omega
 have HP := hI h
 clear hr1 hr2 hr3 hr4 hr5 cur h
 go_enter Tryz.func143, Tryz.ntmps143
 go_wp2_with fail
 go_loopw [1, 4] (fun t _ wr => ∃ (k : Nat) (ys : ZI), t = .int .i64 k /\ k < ys.length /\ ys.length = xs.length /\ ys.Perm xs /\ PileG B b g cap ys wr /\ Chg [g] w wr) (fun t _ _ => (intOf t).toNat)
 case atStart => exact ⟨j, xs, rfl, hj, rfl, List.Perm.refl _, HP.out, Chg.refl _ _⟩
 case round =>
  obtain ⟨k, ys, rfl, hk, hyl, hyp, hpl, hch⟩ := hrel
  have HPL := hI hpl
  have HC := hI hch
  have HY := hI hyp
  have HYL := hI hyl
  have hhead := hpl.head
  have hkl : k <= 9223372036854775807 := by omega
  clear hpl hch hyp hyl HP
  have ha := fun n => ahead_less n b
  have hm := fun n => meth_less n b _ wr hhead
  by_cases hk0 : k = 0
  ·subst hk0
   go_wp2_with fail
   go_end0
   exact ⟨rfl, ys, HY.out, HPL.out, HC.out⟩
  obtain ⟨p, hp⟩ : ∃ p : Nat, p = (k - 1) / 2 := ⟨_, rfl⟩
  have q1 : ((k : Int) - 1).tdiv 2 = (p : Int) := by
   rw [Int.tdiv_eq_ediv_of_nonneg (by omega)]
   omega
  have hpk : p < k := by omega
  have hpy : p < ys.length := by omega
  have t0 : ((p : Int) == (k : Int)) = false := by simp; omega
  have HHP := hI hp
  clear hp hk0
  have L := iless_calls g ys.length cap k p ys[k] ys[p] wr hk hpy (HPL.out.cell hk) (HPL.out.cell hpy)
  have HL := hI L
  clear L
  cases hd : decide (ys[k] < ys[p])
  all_goals
   have HD := hI hd
   clear hd
   go_wp2_with fail
   refine HL.out.mono ?_
   rintro r w1 ⟨rfl, hx1⟩
   rw [HD.out]
   have HX1 := hI hx1
   have hh1 := (HPL.out.ext hx1).head
   clear hx1 hm ha hhead
   have ha := fun n => ahead_swap n b
   have hm := fun n => meth_swap n b _ w1 hh1
   go_wp2_with fail
  ·go_end0
   exact ⟨rfl, ys, HY.out, HPL.out.ext HX1.out, HC.out.then (HX1.out.chg _)⟩
  refine (iswap_calls g ys.length cap p k ys[p] ys[k] _ hpy hk ((HPL.out.ext HX1.out).cell hpy) ((HPL.out.ext HX1.out).cell hk) (HPL.out.ext HX1.out).free).mono ?_
  rintro r w2 ⟨rfl, q, rfl⟩
  obtain ⟨hp2, hc2⟩ := (HPL.out.ext HX1.out).swap hpy hk q
  have HP2 := hI hp2
  have HC2 := hI hc2
  clear hp2 hc2
  generalize ((w1.setCell ⟨g, p, none⟩ (.int .i64 ys[k])).setCell ⟨g, k, none⟩ (.int .i64 ys[p])).drewN q = w2 at *
  clear hm ha hh1
  go_wp2_with fail
  go_roundw
  case rel => exact ⟨p, (ys.set p ys[k]).set k ys[p], rfl, by simp; omega, by simp; exact HYL.out, (List.set_set_perm hpy hk).trans HY.out, HP2.out, (HC.out.then (HX1.out.chg _)).then HC2.out⟩
  case measure => simp [intOf]; omega
def PermQ2 (B b g cap : Nat) (xs : ZI) (w : World) (e : Ending) (w' : World) : Prop := (∃ u : Bool, e = .returned (.bool u)) /\ ∃ ys : ZI, ys.Perm xs /\ (∀ z, xs.getLast? = some z -> ys.getLast? = some z) /\ PileG B b g cap ys w' /\ Chg [g] w w'
theorem last_set {xs : ZI} {i : Nat} (h : i + 1 < xs.length) (z : Int) : (xs.set i z).getLast? = xs.getLast? := by
 rw [List.getLast?_eq_getElem?, List.getLast?_eq_getElem?]
 simp only [List.length_set]
 rw [List.getElem?_set_ne (by omega)]
theorem down_calls (B b g cap : Nat) (xs : ZI) (w : World) (h : PileG B b g cap xs w) (n : Nat) (hn : n + 1 = xs.length) (hn2 : n <= 1000000000000000) :
  Calls Tryz.prog 144 #[.iface 168 (.pointer (some ⟨b, 0, none⟩)), .int .i64 0, .int .i64 n] w (PermQ2 B b g cap xs w) := by
 have HP := hI h
 have HN := hI hn
 clear h hn
 go_enter Tryz.func144, Tryz.ntmps144
 go_wp2_with fail
 go_loopw [7, 8, 9, 10] (fun t _ _ _ wr => ∃ (k : Nat) (ys : ZI), t = .int .i64 k /\ k <= n /\ n + 1 = ys.length /\ ys.Perm xs /\ (∀ z, xs.getLast? = some z -> ys.getLast? = some z) /\ PileG B b g cap ys wr /\ Chg [g] w wr) (fun t _ _ _ _ => n - (intOf t).toNat)
 case atStart => exact ⟨0, xs, rfl, by omega, HN.out, List.Perm.refl _, fun _ h => h, HP.out, Chg.refl _ _⟩
 case round =>
  obtain ⟨k, ys, rfl, hk, hyl, hyp, hla, hpl, hch⟩ := hrel
  have HPL := hI hpl
  have HC := hI hch
  have HY := hI hyp
  have HYL := hI hyl
  have HLA := hI hla
  have hhead := hpl.head
  clear hpl hch hyp hyl HP HN hla
  obtain ⟨j1, hj1⟩ : ∃ j1 : Nat, j1 = 2 * k + 1 := ⟨_, rfl⟩
  have q1 : (2 * (k : Int) + 1) = (j1 : Int) := by omega
  have hkj : k < j1 := by omega
  have HJ1 := hI hj1
  have t1 : decide ((j1 : Int) < 0) = false := by simp
  have hj1b : j1 <= 2000000000000001 := by omega
  clear hj1
  by_cases hlt : j1 < n
  ·have t0 : decide (n <= j1) = false := by simp; omega
   have hy1 : j1 < ys.length := by have := HYL.out; omega
   have hyk : k < ys.length := by have := HYL.out; omega
   obtain ⟨j2, hj2⟩ : ∃ j2 : Nat, j2 = j1 + 1 := ⟨_, rfl⟩
   have q2 : ((j1 : Int) + 1) = (j2 : Int) := by omega
   have hj12 : j1 < j2 := by omega
   have hj2n : j2 <= n := by omega
   clear hj2
   by_cases h2 : j2 < n
   case' neg =>
    have t2 : decide (j2 < n) = false := by simp; omega
    go_upto_region 8 with fail
    obtain ⟨j, hj⟩ : ∃ j : Nat, j = j1 := ⟨_, rfl⟩
    obtain ⟨w1, hw1⟩ : ∃ w1 : World, w1 = wr := ⟨_, rfl⟩
    have HX1 := hI (show Ext wr w1 by rw [hw1]; exact Ext.refl _)
    rw [<- hj, <- hw1]
    have hjk : k < j /\ j < n := by omega
    clear hj hw1
   case' pos =>
    have t2 : decide (j2 < n) = true := by simp; omega
    have hy2 : j2 < ys.length := by have := HYL.out; omega
    have HL := hI (iless_calls g ys.length cap j2 j1 ys[j2] ys[j1] wr hy2 hy1 (HPL.out.cell hy2) (HPL.out.cell hy1))
    have ha := fun n => ahead_less n b
    have hm := fun n => meth_less n b _ wr hhead
    cases hd : decide (ys[j2] < ys[j1])
    case' false =>
     have HD := hI hd
     clear hd
     go_wp2_with fail
     refine HL.out.mono ?_
     rintro r w1 ⟨rfl, hx1⟩
     rw [HD.out]
     have HX1 := hI hx1
     clear hx1 hm ha hhead HD
     go_upto_region 8 with fail
     obtain ⟨j, hj⟩ : ∃ j : Nat, j = j1 := ⟨_, rfl⟩
     rw [<- hj]
     have hjk : k < j /\ j < n := by omega
     clear hj
    case' true =>
     have HD := hI hd
     clear hd
     go_wp2_with fail
     refine HL.out.mono ?_
     rintro r w1 ⟨rfl, hx1⟩
     rw [HD.out]
     have HX1 := hI hx1
     clear hx1 hm ha hhead HD
     go_upto_region 8 with fail
     obtain ⟨j, hj⟩ : ∃ j : Nat, j = j2 := ⟨_, rfl⟩
     rw [<- hj]
     have hjk : k < j /\ j < n := by omega
     clear hj
   all_goals
    obtain ⟨hjk, hjn⟩ := hjk
    have hyj : j < ys.length := by have := HYL.out; omega
    have hh1 := (HPL.out.ext HX1.out).head
    have ha := fun n => ahead_less n b
    have hm := fun n => meth_less n b _ w1 hh1
    have HL2 := hI (iless_calls g ys.length cap j k ys[j] ys[k] w1 hyj hyk ((HPL.out.ext HX1.out).cell hyj) ((HPL.out.ext HX1.out).cell hyk))
    cases hd : decide (ys[j] < ys[k])
    ·have HD := hI hd
     clear hd
     go_wp2_with fail
     refine HL2.out.mono ?_
     rintro r w2 ⟨rfl, hx2⟩
     rw [HD.out]
     have HX2 := hI hx2
     clear hx2 hm ha hh1 HD
     go_wp2_with fail
     go_ret
     exact ⟨⟨_, rfl⟩, ys, HY.out, HLA.out, (HPL.out.ext HX1.out).ext HX2.out, (HC.out.then (HX1.out.chg _)).then (HX2.out.chg _)⟩
    have HD := hI hd
    clear hd
    go_wp2_with fail
    refine HL2.out.mono ?_
    rintro r w2 ⟨rfl, hx2⟩
    rw [HD.out]
    have HPX := hI ((HPL.out.ext HX1.out).ext hx2)
    have HCX := hI ((HC.out.then (HX1.out.chg _)).then (hx2.chg _))
    have hh2 := HPX.out.head
    clear hx2 hm ha hh1 HD
    have ha := fun n => ahead_swap n b
    have hm := fun n => meth_swap n b _ w2 hh2
    go_wp2_with fail
    refine (iswap_calls g ys.length cap k j ys[k] ys[j] _ hyk hyj (HPX.out.cell hyk) (HPX.out.cell hyj) HPX.out.free).mono ?_
    rintro r w3 ⟨rfl, q, rfl⟩
    obtain ⟨hp2, hc2⟩ := HPX.out.swap hyk hyj q
    have HP2 := hI hp2
    have HC2 := hI hc2
    clear hp2 hc2
    generalize ((w2.setCell ⟨g, k, none⟩ (.int .i64 ys[j])).setCell ⟨g, j, none⟩ (.int .i64 ys[k])).drewN q = w3 at *
    clear hm ha hh2
    go_wp2_with fail
    go_roundw
    case rel =>
     refine ⟨j, (ys.set k ys[j]).set j ys[k], rfl, by omega, by simp; exact HYL.out, (List.set_set_perm hyk hyj).trans HY.out, fun z hz => ?_, HP2.out, HCX.out.then HC2.out⟩
     rw [last_set (by have := HYL.out; simp; omega), last_set (by have := HYL.out; omega)]
     exact HLA.out z hz
    case measure => simp [intOf]; omega
  have t0 : decide (n <= j1) = true := by simp; omega
  go_wp2_with fail
  go_ret
  exact ⟨⟨_, rfl⟩, ys, HY.out, HLA.out, HPL.out, HC.out⟩
theorem elemIdx : ElemT 169 3 (.int .i64 0) 1 8 := ⟨by kernel_rfl, by kernel_rfl, rfl, by omega⟩
structure PileV (B b : Nat) (v : Value) (xs : ZI) (w : World) : Prop where
 hB : B <= b
 hb : w.heap[b]? = some (.cells #[v] 171 (0, 0))
 own : w.ownsRow B 3 1 v xs.length (xs.map fun z => Value.int .i64 z)
 ne : v.ownBlock ≠ some b
theorem PileV.chg {B b : Nat} {v : Value} {xs : ZI} {w w' : World} {N : ZN} (h : PileV B b v xs w) (hc : Chg N w w') (h1 : b ∉ N) (h2 : ∀ k, v.ownBlock = some k -> k ∉ N) : PileV B b v xs w' := by
 obtain ⟨a1, a2, a3, a4⟩ := h
 refine ⟨a1, hc.blk a2 h1, ?_, a4⟩
 rcases a3 with ⟨l, h0 | ⟨g, cap, cur, e1, e2, e3, r⟩⟩
 ·exact ⟨l, Or.inl h0⟩
 exact ⟨l, Or.inr ⟨g, cap, cur, e1, e2, hc.blk e3 (h2 g (by rw [e1]; rfl)), r⟩⟩
theorem PileV.fresh (w : World) : PileV w.heap.size w.heap.size (.slice none 0 0) [] (w.alloc (.cells #[.slice none 0 0] 171)) :=
 ⟨Nat.le_refl _, heap_alloc_new w _, World.ownsRow_nil _ _ _ _, by simp [Value.ownBlock]⟩
theorem PileV.form {B b : Nat} {v : Value} {xs : ZI} {w : World} (h : PileV B b v xs w) : ∃ a c, v = .slice a xs.length c := by
 rcases h.own.2 with ⟨rfl, h0⟩ | ⟨g, cap, cur, rfl, _⟩
 ·exact ⟨none, 0, by rw [h0]⟩
 exact ⟨_, _, rfl⟩
theorem PileV.g {B b : Nat} {v : Value} {xs : ZI} {w : World} (h : PileV B b v xs w) (hx : 0 < xs.length) : ∃ g cap, v = .slice (some ⟨g, 0, none⟩) xs.length cap /\ PileG B b g cap xs w := by
 obtain ⟨a1, a2, a3, a4⟩ := h
 rcases a3.2 with ⟨rfl, h0⟩ | ⟨g, cap, cur, rfl, h1, h2, h3, h4, h5, h6⟩
 ·omega
 exact ⟨g, cap, rfl, a1, h1, fun e => a4 (by rw [e]; rfl), a2, cur, h2, h3, h4, by simpa using h5, by simpa using h6⟩
theorem PileG.v {B b g cap : Nat} {xs : ZI} {w : World} (h : PileG B b g cap xs w) : PileV B b (.slice (some ⟨g, 0, none⟩) xs.length cap) xs w := by
 obtain ⟨a1, a2, a3, a4, cur, h2, h3, h4, h5, h6⟩ := h
 refine ⟨a1, a4, ⟨by simp, Or.inr ⟨g, cap, cur, rfl, a2, h2, h3, h4, by simpa using h5, by simpa using h6⟩⟩, fun e => a3 (by simpa [Value.ownBlock] using e)⟩
theorem owns_form {w : World} {base : Nat} {e : TypeId} {size : Nat} {v : Value} {n : Nat} {xs : List Value} (h : w.ownsRow base e size v n xs) : ∃ a c, v = .slice a n c := by
 rcases h.2 with ⟨rfl, h0⟩ | ⟨g, cap, cur, rfl, _⟩
 ·exact ⟨none, 0, by rw [h0]⟩
 exact ⟨_, _, rfl⟩
def PushQ (B b : Nat) (v : Value) (ok : ZI -> Prop) (w : World) (e : Ending) (w' : World) : Prop := e = .returned (.tuple #[]) /\ ∃ v' ys, ok ys /\ PileV B b v' ys w' /\ Chg (b :: rowOf v) w w' /\ ∀ k, v'.ownBlock = some k -> v.ownBlock = some k \/ w.heap.size <= k
theorem ipush_calls (B b : Nat) (v : Value) (xs : ZI) (z : Int) (w : World) (h : PileV B b v xs w) (hB : B <= w.heap.size) (hl : xs.length <= 1000000000) :
  Calls Tryz.prog 233 #[.pointer (some ⟨b, 0, none⟩), .iface 3 (.int .i64 z)] w (PushQ B b v (· = xs ++ [z]) w) := by
 have HP := hI h
 have hb0 := blk_cell h.hb 0
 have hbf := blk_free h.hb 0
 have hlt := blk_lt h.hb
 obtain ⟨a, c, hv⟩ := h.form
 subst hv
 simp at hb0
 have t1 : (Value.iface 3 (.int .i64 z)) = (Value.iface 3 (.int .i64 z)) := rfl
 clear h t1
 obtain ⟨i0, hi, hz0, hz1, hz2⟩ := info_parts elemIdx.info
 have hta : ∀ W : World, (Instr.typeAssert (.iface 3 (.int .i64 z)) 20 3 true).run Tryz.prog W = .ok (.tuple #[.int .i64 z, .bool true]) W := fun W => by kernel_rfl
 go_enter Tryz.func233, Tryz.ntmps233
 go_wp2_with (at_builtin; refine wpList_append_own_at _ rfl _ _ 169 rfl B 3 i0 (.int .i64 0) 1 8 elemIdx.ht hi hz0 hz1 hz2 rfl (by decide) _ xs.length _ rfl (HP.out.own.alloc _) ⟨w.heap.size, 0, none⟩ 1 1 [.int .i64 z] rfl rfl ?c1 ?c2 ?c3 ?c4 ?c5 ?_)
 case c1 => exact cell_one_new _ _ _
 case c2 => simp [Value.oneCell']
 case c3 => unfold maxLen; omega
 case c4 => omega
 case c5 => simp; omega
 intro v' w' hown' hgrow' _ hwhere
 have hbn : some b ≠ (Value.slice a xs.length c).ownBlock := fun e => HP.out.ne e.symm
 have hb' : w'.heap[b]? = some (.cells #[.slice a xs.length c] 171 (0, 0)) := (hgrow'.block b (by simp; omega) hbn).trans (blk_alloc HP.out.hb)
 have hb1 := blk_cell hb' 0
 have hf1 := blk_free hb' 0
 have hl1 := blk_lt hb'
 simp at hb1
 have hvb : v'.ownBlock ≠ some b := by
  rcases hwhere with e | e
  ·rw [e]; exact fun h => hbn h.symm
  rw [e]; simp; omega
 obtain ⟨a', c', hv'⟩ := owns_form hown'
 subst hv'
 have HB1 := hI hb'
 have HO := hI hown'
 have HG := hI hgrow'
 have HW := hI hwhere
 clear hb' hown' hgrow' hwhere hb0 hbf hta
 go_wp2_with fail
 go_end0
 have hc1 : Chg (rowOf (.slice a xs.length c)) w w' := (((Ext.refl w).alloc _).chg _).then (grown_chg HG.out)
 have hc2 : Chg [b] w' (w'.setCell ⟨b, 0, none⟩ (.slice a' (xs.length + 1) c')) := (Chg.refl _ _).setCell (Or.inl (by simp)) _
 refine ⟨rfl, .slice a' (xs.length + 1) c', xs ++ [z], rfl, ⟨HP.out.hB, ?_, ?_, hvb⟩, ?_, ?_⟩
 ·have := heap_setCell_same w' b 0 _ _ (.slice a' (xs.length + 1) c') HB1.out
  simpa using this
 ·have := owns_chg HO.out hc2 (fun k hk hm => hvb (by simp at hm; rw [hk, hm]))
  simpa using this
 ·refine Chg.trans (Chg.trans (Chg.refl (b :: rowOf (.slice a xs.length c)) w) hc1 (fun x hx => Or.inl (by simp [hx]))) hc2 (fun x hx => Or.inl (by simp at hx; simp [hx]))
 intro k hk
 rcases HW.out with e | e
 ·exact Or.inl (by rw [<- e]; exact hk)
 rw [e] at hk
 simp at hk
 exact Or.inr (by omega)
theorem getLast_cell {xs : ZI} (hx : 0 < xs.length) : xs.getLast? = some (xs[xs.length - 1]'(by omega)) := by
 rw [List.getLast?_eq_getElem?, List.getElem?_eq_getElem (by omega)]
theorem PileG.pop {B b g cap : Nat} {xs : ZI} {w : World} (h : PileG B b g cap xs w) : PileG B b g cap xs.dropLast (w.setCell ⟨b, 0, none⟩ (.slice (some ⟨g, 0, none⟩) (xs.length - 1) cap)) := by
 obtain ⟨a1, a2, a3, a4, cur, a5, a6, a7, a8, a9⟩ := h
 refine ⟨a1, a2, a3, ?_, cur, ?_, by simp; omega, a7, a8, ?_⟩
 ·simp [World.setCell, Array.getElem?_modify, a4]
 ·rw [Below.heap_setCell _ _ _ _ (by simpa using a3)]; exact a5
 have h5 : cur.toList.take (xs.length - 1) = (cur.toList.take xs.length).take (xs.length - 1) := by rw [List.take_take]; congr 1; omega
 simp only [List.length_dropLast]
 rw [h5, a9, <- List.map_take, List.dropLast_eq_take]
def PopQ (B b : Nat) (v : Value) (ok : Int -> ZI -> Prop) (w : World) (e : Ending) (w' : World) : Prop :=
 ∃ z v' ys, e = .returned (.iface 3 (.int .i64 z)) /\ ok z ys /\ PileV B b v' ys w' /\ Chg (b :: rowOf v) w w' /\ ∀ k, v'.ownBlock = some k -> v.ownBlock = some k \/ w.heap.size <= k
theorem ipop_calls (B b g cap : Nat) (xs : ZI) (w : World) (h : PileG B b g cap xs w) (hx : 0 < xs.length) :
  Calls Tryz.prog 232 #[.pointer (some ⟨b, 0, none⟩)] w (PopQ B b (.slice (some ⟨g, 0, none⟩) xs.length cap) (fun z ys => xs.getLast? = some z /\ ys = xs.dropLast) w) := by
 have HP := hI h
 have hh := h.head
 have hf := blk_free h.hb 0
 have hlt := blk_lt h.hb
 have hc := h.cell (i := xs.length - 1) (by omega)
 have hlast := getLast_cell hx
 obtain ⟨n, hn⟩ : ∃ n : Nat, n + 1 = xs.length := ⟨xs.length - 1, by omega⟩
 obtain ⟨cur, hr1, hr2, hr3, hr4, hr5⟩ := h.row
 have hn2 : n + 1 <= 9223372036854775807 := by unfold maxLen at hr3; omega
 have hcap : n + 1 <= cap := by omega
 have e1 : xs.length - 1 = n := by omega
 have HPL := hI h.pop
 simp only [e1] at hc hlast
 obtain ⟨z, hz⟩ : ∃ z, z = xs[n]'(by omega) := ⟨_, rfl⟩
 rw [<- hz] at hc hlast
 rw [<- hn] at hh
 have HLA := hI hlast
 have HN := hI hn
 have HN2 := hI e1
 have q1 : (((n + 1 : Nat) : Int) - 1) = (n : Int) := by omega
 have q2 : ((n : Int) + 1 - 1) = (n : Int) := by omega
 rw [<- hn]
 clear h hlast hr1 hr2 hr3 hr4 hr5 hz e1 hn
 go_enter Tryz.func232, Tryz.ntmps232
 go_wp2_with fail
 go_ret
 have hp := HPL.out
 rw [HN2.out] at hp
 have hv := hp.v
 rw [List.length_dropLast, HN2.out] at hv
 exact ⟨z, _, _, rfl, ⟨HLA.out, rfl⟩, hv, (Chg.refl _ _).setCell (Or.inl (by simp)) _, fun k hk => Or.inl hk⟩
theorem hpush_calls (B b : Nat) (v : Value) (xs : ZI) (z : Int) (w : World) (h : PileV B b v xs w) (hB : B <= w.heap.size) (hl : xs.length <= 100000000) :
  Calls Tryz.prog 110 #[.iface 168 (.pointer (some ⟨b, 0, none⟩)), .iface 3 (.int .i64 z)] w (PushQ B b v (fun ys => ys.Perm (xs ++ [z])) w) := by
 have ha := fun n => ahead_push n b
 have hm := fun n W => meth_push n b W
 have HP := hI h
 clear h
 go_enter Tryz.func110, Tryz.ntmps110
 go_wp2_with fail
 refine (ipush_calls B b v xs z w HP.out hB (by omega)).mono ?_
 rintro r w1 ⟨rfl, v1, ys, rfl, hp1, hc1, hw1⟩
 obtain ⟨g, cap, rfl, hg1⟩ := hp1.g (by simp)
 have HG1 := hI hg1
 have HC1 := hI hc1
 have HW1 := hI hw1
 have hh := hg1.head
 obtain ⟨n, hn⟩ : ∃ n : Nat, n = xs.length := ⟨_, rfl⟩
 have e1 : (xs ++ [z]).length = n + 1 := by simp [hn]
 rw [e1] at hh
 have HE := hI e1
 have hnb : n <= 100000000 := by omega
 clear hp1 hg1 hc1 hw1 ha hm e1 hn hl
 have ha := fun n => ahead_len n b
 have hm := fun k => meth_len k b _ w1 hh
 go_wp2_with fail
 refine (ilen_calls _ _ _ _).mono ?_
 rintro r w2 ⟨rfl, rfl⟩
 have q1 : (((n + 1 : Nat) : Int) - 1) = (n : Int) := by omega
 have q2 : ((n : Int) + 1 - 1) = (n : Int) := by omega
 clear ha hm
 go_wp2_with fail
 refine (up_calls B b g cap _ _ HG1.out n (by rw [HE.out]; omega)).mono ?_
 rintro r w3 ⟨rfl, ys, hy, hp3, hc3⟩
 have HP3 := hI hp3
 have HC3 := hI hc3
 have HY := hI hy
 clear hp3 hc3 hy
 go_wp2_with fail
 go_end0
 refine ⟨rfl, _, ys, HY.out, HP3.out.v, Chg.trans HC1.out HC3.out (fun x hx => ?_), fun k hk => ?_⟩
 ·simp only [List.mem_singleton] at hx
  subst hx
  rcases HW1.out x rfl with e | e
  ·exact Or.inl (List.mem_cons_of_mem _ (mem_rowOf.2 e))
  exact Or.inr e
 exact HW1.out k hk
theorem hpop_calls (B b : Nat) (v : Value) (xs : ZI) (w : World) (h : PileV B b v xs w) (hx : 0 < xs.length) (hl : xs.length <= 100000000) :
  Calls Tryz.prog 112 #[.iface 168 (.pointer (some ⟨b, 0, none⟩))] w (PopQ B b v (fun z ys => xs.Perm (z :: ys)) w) := by
 obtain ⟨g, cap, rfl, hg⟩ := h.g hx
 have HG := hI hg
 have hh := hg.head
 obtain ⟨n, hn⟩ : ∃ n : Nat, n + 1 = xs.length := ⟨xs.length - 1, by omega⟩
 rw [<- hn] at hh ⊢
 have HN := hI hn
 have hnb : n <= 100000000 := by omega
 have hn0 : 0 < xs.length := hx
 have hnn : n < xs.length := by omega
 clear h hg hn hx hl
 have ha := fun n => ahead_len n b
 have hm := fun k => meth_len k b _ w hh
 have q1 : (((n + 1 : Nat) : Int) - 1) = (n : Int) := by omega
 have q2 : ((n : Int) + 1 - 1) = (n : Int) := by omega
 go_enter Tryz.func112, Tryz.ntmps112
 go_wp2_with fail
 refine (ilen_calls _ _ _ _).mono ?_
 rintro r w1 ⟨rfl, rfl⟩
 clear ha hm
 have ha := fun n => ahead_swap n b
 have hm := fun k => meth_swap k b _ w hh
 go_wp2_with fail
 refine (iswap_calls g (n + 1) cap 0 n xs[0] xs[n] w (by omega) (by omega) (HG.out.cell hn0) (HG.out.cell hnn) HG.out.free).mono ?_
 rintro r w2 ⟨rfl, q, rfl⟩
 obtain ⟨hp2, hc2⟩ := HG.out.swap hn0 hnn q
 generalize ((w.setCell ⟨g, 0, none⟩ (.int .i64 xs[n])).setCell ⟨g, n, none⟩ (.int .i64 xs[0])).drewN q = w2 at *
 have HP2 := hI hp2
 have HC2 := hI hc2
 have HY2 := hI (show ((xs.set 0 xs[n]).set n xs[0]).Perm xs from List.set_set_perm hn0 hnn)
 have HL2 := hI (show n + 1 = ((xs.set 0 xs[n]).set n xs[0]).length by simp; exact HN.out)
 generalize (xs.set 0 xs[n]).set n xs[0] = ys at *
 clear hp2 hc2 ha hm hh
 go_wp2_with fail
 refine (down_calls B b g cap ys w2 HP2.out n HL2.out (by omega)).mono ?_
 rintro r w3 ⟨⟨u, rfl⟩, zs, hzy, _, hp3, hc3⟩
 have HP3 := hI hp3
 have HC3 := hI hc3
 have HZY := hI hzy
 have HL3 := hI (show zs.length = n + 1 by rw [hzy.length_eq]; exact HL2.out.symm)
 have ha := fun n => ahead_pop n b
 have hm := fun n W => meth_pop n b W
 clear hp3 hc3 hzy
 go_wp2_with fail
 refine (ipop_calls B b g cap zs _ HP3.out (by rw [HL3.out]; omega)).mono ?_
 rintro r w4 ⟨z, v', us, rfl, ⟨hla, rfl⟩, hp4, hc4, hw4⟩
 have HP4 := hI hp4
 have HC4 := hI hc4
 have HW4 := hI hw4
 have HLA := hI hla
 clear hp4 hc4 hw4 hla ha hm
 go_wp2_with fail
 go_ret
 refine ⟨z, v', _, rfl, ?_, HP4.out, ?_, fun k hk => ?_⟩
 ·refine (HY2.out.symm.trans HZY.out.symm).trans ?_
  have e : zs.dropLast ++ [z] = zs := by
   have := HLA.out
   rw [List.getLast?_eq_some_iff] at this
   obtain ⟨us, rfl⟩ := this
   simp
  exact (List.Perm.of_eq e.symm).trans (List.perm_append_singleton _ _)
 ·refine ((Chg.trans (Chg.trans (Chg.refl _ _) HC2.out ?_) HC3.out ?_).trans HC4.out ?_)
  ·intro x hx; exact Or.inl (by simp at hx; subst hx; simp [rowOf, Value.ownBlock])
  ·intro x hx; exact Or.inl (by simp at hx; subst hx; simp [rowOf, Value.ownBlock])
  intro x hx; exact Or.inl (by simpa [rowOf, Value.ownBlock] using hx)
 rcases HW4.out k hk with e | e
 ·exact Or.inl e
 have := HC2.out.size
 have := HC3.out.size
 exact Or.inr (by omega)
end Go.Proofs.YtefjomofjejklaaGreatDoor
