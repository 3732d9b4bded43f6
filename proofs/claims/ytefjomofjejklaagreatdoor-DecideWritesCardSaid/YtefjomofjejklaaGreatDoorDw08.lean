/-
  Texts of the claim, joined: Reach0, Reach, Expd, CClas.
-/
import Derived.Test.YtefjomofjejklaaGreatDoorDw07
namespace Go.Proofs.YtefjomofjejklaaGreatDoor
set_option maxRecDepth 100000
set_option maxHeartbeats 32000000
open Go.RowKit Go.Maps
def nmsOf (u : List Cla) : ZB := u.map (·.name)
def ClosedE (l u : List Cla) (x : Ex) : Prop := ∀ s ∈ namesE x, ∀ d, defAt l s = some d -> s ∈ nmsOf u
structure RP (l : List Cla) (e : Ex) (u : List Cla) (xs : List Ex) : Prop where
 defs : ∀ c ∈ u, c.kind = 1 /\ ∃ d, defAt l c.name = some d /\ c.cond = (l.getD d cla0).cond /\ Reach l e d
 names : (nmsOf u).Nodup
 top : e ∈ xs \/ ClosedE l u e
 closed : ∀ c ∈ u, c.cond ∈ xs \/ ClosedE l u c.cond
 stack : ∀ x ∈ xs, x = e \/ ∃ c ∈ u, c.cond = x
 slen : xs.length <= u.length + 1
structure RPi (l : List Cla) (e : Ex) (u : List Cla) (xs : List Ex) (x : Ex) (ns : ZB) (j : Nat) : Prop where
 defs : ∀ c ∈ u, c.kind = 1 /\ ∃ d, defAt l c.name = some d /\ c.cond = (l.getD d cla0).cond /\ Reach l e d
 names : (nmsOf u).Nodup
 top : e ∈ xs \/ e = x \/ ClosedE l u e
 closed : ∀ c ∈ u, c.cond ∈ xs \/ c.cond = x \/ ClosedE l u c.cond
 stack : ∀ y ∈ xs, y = e \/ ∃ c ∈ u, c.cond = y
 cur : x = e \/ ∃ c ∈ u, c.cond = x
 done : ∀ i (h : i < ns.length), i < j -> ∀ d, defAt l ns[i] = some d -> ns[i] ∈ nmsOf u
 slen : xs.length <= u.length
theorem RP.start (l : List Cla) (e : Ex) : RP l e [] [e] := ⟨by simp, by simp [nmsOf], Or.inl (by simp), by simp, fun x hx => Or.inl (by simpa using hx), by simp⟩
theorem RP.pop {l : List Cla} {e : Ex} {u : List Cla} {xs : List Ex} {x : Ex} (h : RP l e u (xs ++ [x])) (ns : ZB) : RPi l e u xs x ns 0 := by
 refine ⟨h.defs, h.names, ?_, fun c hc => ?_, fun y hy => h.stack y (by simp [hy]), h.stack x (by simp), fun i _ h => by omega, by have := h.slen; simpa using this⟩
 ·rcases h.top with h1 | h1
  ·rcases List.mem_append.1 h1 with h2 | h2
   ·exact Or.inl h2
   exact Or.inr (Or.inl (by simpa using h2))
  exact Or.inr (Or.inr h1)
 rcases h.closed c hc with h1 | h1
 ·rcases List.mem_append.1 h1 with h2 | h2
  ·exact Or.inl h2
  exact Or.inr (Or.inl (by simpa using h2))
 exact Or.inr (Or.inr h1)
theorem RPi.end {l : List Cla} {e : Ex} {u : List Cla} {xs : List Ex} {x : Ex} {ns : ZB} {j : Nat} (h : RPi l e u xs x ns j) (hj : ns.length <= j) (hns : ∀ s, s ∈ ns ↔ s ∈ namesE x) : RP l e u xs := by
 have hx : ClosedE l u x := fun s hs d hd => by
  obtain ⟨i, hi, rfl⟩ := List.mem_iff_getElem.1 ((hns s).2 hs)
  exact h.done i hi (by omega) d hd
 refine ⟨h.defs, h.names, ?_, fun c hc => ?_, h.stack, Nat.le_succ_of_le h.slen⟩
 ·rcases h.top with h1 | rfl | h1
  ·exact Or.inl h1
  ·exact Or.inr hx
  exact Or.inr h1
 rcases h.closed c hc with h1 | h1 | h1
 ·exact Or.inl h1
 ·exact Or.inr (h1 ▸ hx)
 exact Or.inr h1
theorem RPi.skip {l : List Cla} {e : Ex} {u : List Cla} {xs : List Ex} {x : Ex} {ns : ZB} {j : Nat} (h : RPi l e u xs x ns j) (hj : j < ns.length) (hs : defAt l ns[j] = none \/ ns[j] ∈ nmsOf u) : RPi l e u xs x ns (j + 1) :=
 ⟨h.defs, h.names, h.top, h.closed, h.stack, h.cur, fun i hi hij d hd => by
  by_cases e' : i = j
  ·subst e'
   rcases hs with h1 | h1
   ·rw [h1] at hd; cases hd
   exact h1
  exact h.done i hi (by omega) d hd, h.slen⟩
theorem nmsOf_snoc (u : List Cla) (c : Cla) : nmsOf (u ++ [c]) = nmsOf u ++ [c.name] := by simp [nmsOf]
theorem RPi.step {l : List Cla} {e : Ex} {u : List Cla} {xs : List Ex} {x : Ex} {ns : ZB} {j : Nat} (h : RPi l e u xs x ns j) (hj : j < ns.length) (hns : ∀ s, s ∈ ns ↔ s ∈ namesE x) {d : Nat} (hd : defAt l ns[j] = some d) (hn : ns[j] ∉ nmsOf u) {c : Cla} (hk : c.kind = 1) (hnm : c.name = ns[j]) (hc : c.cond = (l.getD d cla0).cond) :
  RPi l e (u ++ [c]) (xs ++ [c.cond]) x ns (j + 1) := by
 have up : ∀ y, ClosedE l u y -> ClosedE l (u ++ [c]) y := fun y hy s hs d hd => by rw [nmsOf_snoc]; exact List.mem_append_left _ (hy s hs d hd)
 refine ⟨fun c' hc' => ?_, ?_, ?_, fun c' hc' => ?_, fun y hy => ?_, ?_, fun i hi hij d' hd' => ?_, by have := h.slen; simp; omega⟩
 ·rcases List.mem_append.1 hc' with h1 | h1
  ·exact h.defs c' h1
  obtain rfl : c' = c := by simpa using h1
  refine ⟨hk, d, by rw [hnm]; exact hd, hc, ?_⟩
  have hm := (hns _).1 (List.getElem_mem hj)
  rcases h.cur with rfl | ⟨c2, h2, rfl⟩
  ·exact Reach.base hm hd
  obtain ⟨_, d2, g1, g2, g3⟩ := h.defs c2 h2
  exact Reach.step g3 (g2 ▸ hm) hd
 ·rw [nmsOf_snoc, List.nodup_append]
  refine ⟨h.names, by simp, fun a ha b hb e => ?_⟩
  simp only [List.mem_singleton] at hb
  subst e hb
  exact hn (hnm ▸ ha)
 ·rcases h.top with h1 | h1 | h1
  ·exact Or.inl (List.mem_append_left _ h1)
  ·exact Or.inr (Or.inl h1)
  exact Or.inr (Or.inr (up _ h1))
 ·rcases List.mem_append.1 hc' with h1 | h1
  ·rcases h.closed c' h1 with h2 | h2 | h2
   ·exact Or.inl (List.mem_append_left _ h2)
   ·exact Or.inr (Or.inl h2)
   exact Or.inr (Or.inr (up _ h2))
  obtain rfl : c' = c := by simpa using h1
  exact Or.inl (by simp)
 ·rcases List.mem_append.1 hy with h1 | h1
  ·rcases h.stack y h1 with h2 | ⟨c2, h2, h3⟩
   ·exact Or.inl h2
   exact Or.inr ⟨c2, List.mem_append_left _ h2, h3⟩
  exact Or.inr ⟨c, by simp, (List.mem_singleton.1 h1).symm⟩
 ·rcases h.cur with h1 | ⟨c2, h2, h3⟩
  ·exact Or.inl h1
  exact Or.inr ⟨c2, List.mem_append_left _ h2, h3⟩
 rw [nmsOf_snoc]
 by_cases e' : i = j
 ·subst e'; simp [hnm]
 exact List.mem_append_left _ (h.done i hi (by omega) d' hd')
theorem RP.used {l : List Cla} {e : Ex} {u : List Cla} (h : RP l e u []) : Used l e u :=
 ⟨h.defs, h.names, fun s hs d hd => by
   rcases h.top with h1 | h1; · simp at h1
   exact h1 s hs d hd,
 fun c hc s hs d hd => by
   rcases h.closed c hc with h1 | h1; · simp at h1
   exact h1 s hs d hd⟩
theorem defs_len {l : List Cla} {e : Ex} {u : List Cla} (h1 : ∀ c ∈ u, c.kind = 1 /\ ∃ d, defAt l c.name = some d /\ c.cond = (l.getD d cla0).cond /\ Reach l e d) (h2 : (nmsOf u).Nodup) : u.length <= l.length := by
 have key := nodup_le (u.map fun c => (defAt l c.name).getD 0) (List.range l.length) ?_ ?_
 ·simpa using key
 ·rw [List.Nodup, List.pairwise_map]
  rw [List.Nodup, nmsOf, List.pairwise_map] at h2
  refine h2.imp_of_mem fun {a b} ha hb hne he => ?_
  obtain ⟨_, d, g2, _⟩ := h1 a ha
  obtain ⟨_, d', g3, _⟩ := h1 b hb
  rw [g2, g3] at he
  simp only [Option.getD_some] at he
  subst he
  exact hne ((defAt_name g2).1.symm.trans (defAt_name g3).1)
 intro x hx
 obtain ⟨c, hc, rfl⟩ := List.mem_map.1 hx
 obtain ⟨_, d, g2, _⟩ := h1 c hc
 rw [g2]
 exact List.mem_range.2 (defAt_lt g2)
structure RcS (w : World) (bs : Nat) (lv xv : Value) (u : List Cla) (vs : List ClV) (xs : List Ex) (evs : List ExV) (wr : World) : Prop where
 ext : Ext w wr
 cla : ClasR w u vs
 own : wr.ownsRow w.heap.size 48 10 lv u.length (vs.flatMap ClV.cells)
 ex : ExsR w xs evs
 xown : wr.ownsRow w.heap.size 45 6 xv xs.length (evs.flatMap ExV.cells)
 seen : MapAt wr 9 bs u.length (strF (memF fun s => s ∈ nmsOf u))
 bsn : w.heap.size <= bs
 d1 : ∀ g, lv.ownBlock = some g -> g ≠ bs
 d2 : ∀ g, xv.ownBlock = some g -> g ≠ bs
 d3 : ∀ g, lv.ownBlock = some g -> xv.ownBlock ≠ some g
theorem RcS.extd {w : World} {bs : Nat} {lv xv : Value} {u : List Cla} {vs : List ClV} {xs : List Ex} {evs : List ExV} {wr wr' : World} (h : RcS w bs lv xv u vs xs evs wr) (hx : Ext wr wr') : RcS w bs lv xv u vs xs evs wr' :=
 {h with ext := h.ext.trans hx, own := owns_chg h.own (hx.chg []) (by simp), xown := owns_chg h.xown (hx.chg []) (by simp), seen := h.seen.ext hx }
theorem flat_take {xs : List ExV} {x : ExV} : ((xs ++ [x]).flatMap ExV.cells).take (xs.length * 6) = xs.flatMap ExV.cells := by
 rw [List.flatMap_append, List.take_left']
 clear x
 induction xs with
 | nil => rfl
 | cons y r ih => simp only [List.flatMap_cons, List.length_append, exV_len, ih, List.length_cons]; omega
theorem owns_drop {w : World} {base : Nat} {g n cap : Nat} {xs : List ExV} {x : ExV} (hn : n = xs.length) (h : w.ownsRow base 45 6 (.slice (some ⟨g, 0, none⟩) (n + 1) cap) (n + 1) ((xs ++ [x]).flatMap ExV.cells)) :
  w.ownsRow base 45 6 (.slice (some ⟨g, 0, none⟩) n cap) n (xs.flatMap ExV.cells) := by
 obtain ⟨h1, h2⟩ := h
 have hl : (xs.flatMap ExV.cells).length = n * 6 := by
  subst hn
  clear h1 h2 x
  induction xs with
  | nil => rfl
  | cons y r ih => simp only [List.flatMap_cons, List.length_append, exV_len, ih, List.length_cons]; omega
 refine ⟨hl, Or.inr ?_⟩
 rcases h2 with ⟨h3, _⟩ | ⟨g', cap', cur, h3, h4, h5, h6, h7, h8, h9⟩
 ·simp at h3
 simp only [Value.slice.injEq, Option.some.injEq, Addr.mk.injEq, and_true, true_and] at h3
 obtain ⟨rfl, rfl⟩ := h3
 refine ⟨g, cap, cur, rfl, h4, h5, by omega, h7, h8, ?_⟩
 have e1 : cur.toList.take (n * 6) = (cur.toList.take ((n + 1) * 6)).take (n * 6) := by rw [List.take_take]; congr 1; omega
 rw [e1, h9, hn, flat_take]
theorem owns_last {w : World} {base : Nat} {n : Nat} {v : Value} {xs : List ExV} {x : ExV} (hn : n = xs.length) (h : w.ownsRow base 45 6 v (n + 1) ((xs ++ [x]).flatMap ExV.cells)) :
  ∃ g cap, v = .slice (some ⟨g, 0, none⟩) (n + 1) cap /\ w.cell? ⟨g, n * 6, none⟩ = some (.int .i64 x.op) /\ w.cell? ⟨g, n * 6 + 1, none⟩ = some (.string x.name) /\ w.cell? ⟨g, n * 6 + 2, none⟩ = some (.slice x.aw x.nw x.cw) /\ w.cell? ⟨g, n * 6 + 3, none⟩ = some (.int .i64 x.lo) /\ w.cell? ⟨g, n * 6 + 4, none⟩ = some (.int .i64 x.hi) /\ w.cell? ⟨g, n * 6 + 5, none⟩ = some (.slice x.aa x.na x.ca) := by
 subst hn
 have e0 : xs.length + 1 = (xs ++ [x]).length := by simp
 rw [e0] at h
 obtain ⟨a, c, rfl, hr⟩ := IsRows.of_owns exV_len h
 obtain ⟨b, off, rfl, hc⟩ := hr.2.2.2 xs.length (by simp)
 have ha : off = 0 := by
  obtain ⟨_, h2⟩ := h
  rcases h2 with ⟨h3, _⟩ | ⟨g', cap', cur, h3, _⟩
  ·simp at h3
  simp only [Value.slice.injEq, Option.some.injEq, Addr.mk.injEq, and_true] at h3
  exact h3.1.2
 subst ha
 have key : ∀ j (hj : j < 6), w.cell? ⟨b, xs.length * 6 + j, none⟩ = some (x.cells[j]'(by rw [exV_len]; exact hj)) := fun j hj => by
  have := hc j (by rw [exV_len]; exact hj)
  simpa using this
 refine ⟨b, c, by simp, ?_, ?_, ?_, ?_, ?_, ?_⟩
 ·exact key 0 (by omega)
 ·exact key 1 (by omega)
 ·exact key 2 (by omega)
 ·exact key 3 (by omega)
 ·exact key 4 (by omega)
 exact key 5 (by omega)
theorem owns_bounds {w : World} {base : Nat} {e : TypeId} {size g n cap : Nat} {xs : List Value} (h : w.ownsRow base e size (.slice (some ⟨g, 0, none⟩) n cap) n xs) : base <= g /\ n <= cap /\ g < w.heap.size /\ cap <= maxLen := by
 obtain ⟨_, h2⟩ := h
 rcases h2 with ⟨h3, _⟩ | ⟨g', cap', cur, h3, h4, h5, h6, h7, _⟩
 ·simp at h3
 simp only [Value.slice.injEq, Option.some.injEq, Addr.mk.injEq, and_true, true_and] at h3
 obtain ⟨rfl, rfl⟩ := h3
 exact ⟨h4, h6, blk_lt h5, h7⟩
theorem RcS.step {w W w3 w8 w9 : World} {bs : Nat} {lv xv lv' xv' : Value} {u : List Cla} {vs : List ClV} {xs : List Ex} {evs : List ExV} (h : RcS w bs lv xv u vs xs evs W) {c : Cla} {cv : ClV} (hcv : IsCla w c cv) {x : Ex} {ev : ExV} (hev : IsEx w x ev.val) {F : Lit -> Option Value}
  (hm : MapAt w3 9 bs (u.length + 1) F) (hF : ∀ y, F y = strF (memF fun s => s ∈ nmsOf (u ++ [c])) y) (hc3 : Chg [bs] W w3)
  (ho8 : w8.ownsRow w.heap.size 48 10 lv' (u.length + 1) (vs.flatMap ClV.cells ++ cv.cells)) (hc8 : Chg (rowOf lv) w3 w8) (hw8 : ∀ k, lv'.ownBlock = some k -> lv.ownBlock = some k \/ w3.heap.size <= k)
  (ho9 : w9.ownsRow w.heap.size 45 6 xv' (xs.length + 1) (evs.flatMap ExV.cells ++ ev.cells)) (hc9 : Chg (rowOf xv) w8 w9) (hw9 : ∀ k, xv'.ownBlock = some k -> xv.ownBlock = some k \/ w8.heap.size <= k) :
  RcS w bs lv' xv' (u ++ [c]) (vs ++ [cv]) (xs ++ [x]) (evs ++ [ev]) w9 := by
 have s3 := hc3.size
 have s8 := hc8.size
 have hbl := hm.lt
 have xlt : ∀ q, xv.ownBlock = some q -> q < W.heap.size := fun q hq => (h.xown.lt q hq).2
 have llt : ∀ q, lv.ownBlock = some q -> q < W.heap.size := fun q hq => (h.own.lt q hq).2
 exact {
  ext := hc9.ext (hc8.ext (hc3.ext h.ext (by simpa using h.bsn)) fun q hq => (h.own.lt q (mem_rowOf.1 hq)).1) fun q hq => (h.xown.lt q (mem_rowOf.1 hq)).1
  cla := h.cla.snoc hcv
  own := by
   have := owns_chg ho8 hc9 fun q hq hm => by
    have h2 := mem_rowOf.1 hm
    rcases hw8 q hq with h1 | h1
    ·exact h.d3 q h1 h2
    have := xlt q h2; omega
   simpa using this
  ex := h.ex.snoc hev
  xown := by simpa using ho9
  seen := by
   have := ((hm.chg hc8 fun hm => h.d1 bs (mem_rowOf.1 hm) rfl).chg hc9 fun hm => h.d2 bs (mem_rowOf.1 hm) rfl).congr hF
   simpa using this
  bsn := h.bsn
  d1 := fun q hq e => by
   rcases hw8 q hq with h1 | h1
   ·exact h.d1 q h1 e
   omega
  d2 := fun q hq e => by
   rcases hw9 q hq with h1 | h1
   ·exact h.d2 q h1 e
   omega
  d3 := fun q hq hq2 => by
   have h8 := (ho8.lt q hq).2
   rcases hw9 q hq2 with h2 | h2
   ·rcases hw8 q hq with h1 | h1
    ·exact h.d3 q h1 h2
    have := xlt q h2; omega
   omega }
theorem owns_new (w : World) (arr : Array Value) (e : TypeId) {size n base : Nat} (hs : arr.size = n * size) (hn : n <= maxLen) (hb : base <= w.heap.size) : (w.alloc (.cells arr e)).ownsRow base e size (.slice (some ⟨w.heap.size, 0, none⟩) n n) n arr.toList :=
 ⟨by simpa using hs, Or.inr ⟨w.heap.size, n, arr, rfl, hb, alloc_new w _, Nat.le_refl _, hn, hs, by rw [List.take_of_length_le (by simp; omega)]⟩⟩
theorem zeroUnit (w : World) : (zeroValue 176).run Tryz.prog w = .ok (.agg #[]) w := by kernel_rfl
def ReachQ (l : List Cla) (e : Ex) (w : World) (r : Ending) (w' : World) : Prop := ∃ u a n c, r = .returned (.slice a n c) /\ IsClas w' u a n c /\ Used l e u /\ Ext w w'
def RL1 (w : World) (l : List Cla) (e : Ex) (bs m : Nat) (lv xv : Value) (wr : World) : Prop := ∃ u vs xs evs, m = 2 * (l.length - u.length) + xs.length /\ RcS w bs lv xv u vs xs evs wr /\ RP l e u xs
def RL2 (w : World) (l : List Cla) (e x : Ex) (ns : ZB) (na : OA) (nc bs m : Nat) (lv xv i : Value) (wr : World) : Prop := ∃ u vs xs evs j, i = .int .i64 (j : Nat) /\ j <= ns.length /\ 2 * (l.length - u.length) + xs.length <= m /\ RcS w bs lv xv u vs xs evs wr /\ RPi l e u xs x ns j /\ IsStrs wr ns na ns.length nc /\ (∀ b off, na = some ⟨b, off, none⟩ -> b ≠ bs /\ some b ≠ lv.ownBlock /\ some b ≠ xv.ownBlock)
theorem exs_last {w : World} {xs : List Ex} {evs : List ExV} (h : ExsR w xs evs) (hne : xs ≠ []) : ∃ xs' x evs' v, xs = xs' ++ [x] /\ evs = evs' ++ [v] /\ ExsR w xs' evs' /\ IsEx w x v.val := by
 obtain ⟨xs', x, rfl⟩ : ∃ r i, xs = r ++ [i] := ⟨xs.dropLast, xs.getLast hne, (List.dropLast_concat_getLast hne).symm⟩
 have hne2 : evs ≠ [] := by intro e0; have := h.1; rw [e0] at this; simp at this
 obtain ⟨evs', v, rfl⟩ : ∃ r i, evs = r ++ [i] := ⟨evs.dropLast, evs.getLast hne2, (List.dropLast_concat_getLast hne2).symm⟩
 have hl : xs'.length = evs'.length := by have := h.1; simpa using this
 refine ⟨xs', x, evs', v, rfl, rfl, ⟨hl, fun i h1 h2 => ?_⟩, ?_⟩
 ·have := h.2 i (by simp; omega) (by simp; omega)
  rwa [List.getElem_append_left h1, List.getElem_append_left h2] at this
 have := h.2 xs'.length (by simp) (by simp; omega)
 rw [List.getElem_append_right (Nat.le_refl _)] at this
 simpa [hl] using this
theorem to_mask_nil (w : World) : Sub w (mask w []) := fun p v h => by rw [mask_cell, if_neg (by simp)]; exact h
theorem cond_of {l u : List Cla} {e : Ex} (h1 : ∀ c ∈ u, c.kind = 1 /\ ∃ d, defAt l c.name = some d /\ c.cond = (l.getD d cla0).cond /\ Reach l e d) (hsz : ∀ x ∈ l, x.cond.size <= 100000 /\ x.cond.fits) {c : Cla} (hc : c ∈ u) : c.cond.size <= 100000 /\ c.cond.fits := by
 obtain ⟨_, d, hd, h2, _⟩ := h1 c hc
 rw [h2, getD_cla (defAt_lt hd)]
 exact hsz _ (List.getElem_mem _)
theorem reached_calls (l : List Cla) (e : Ex) (ev : Value) (b n : Nat) (w : World) (hd : DefsAt w l b n) (he : IsEx w e ev) (hes : e.size <= 100000 /\ e.fits) (hl : l.length <= 100000) (hsz : ∀ x ∈ l, x.cond.size <= 100000 /\ x.cond.fits) :
  Calls Tryz.prog 173 #[.map (some b), ev] w (ReachQ l e w) := by
 obtain ⟨g, hmp, hdg⟩ := hd
 obtain ⟨aw, nw, cw, aa, na, ca, rfl, -⟩ := he.parts
 have HMP := hI hmp
 have HDG := hI hdg
 have HE := hI he
 have HSZ := hI hsz
 have HES := hI hes
 clear hmp hdg he hsz hes
 unfold exV
 have hmm := @run_makeMap Tryz.prog
 obtain ⟨wa, hwa⟩ : ∃ wa, wa = w.alloc (.cells #[.int .i64 e.op, .string e.name, .slice aw nw cw, .int .i64 e.lo, .int .i64 e.hi, .slice aa na ca] 45) := ⟨_, rfl⟩
 have hxa : Ext w wa := by rw [hwa]; exact (Ext.refl _).alloc _
 have hb1 : wa.heap[w.heap.size]? = some (.cells #[.int .i64 e.op, .string e.name, .slice aw nw cw, .int .i64 e.lo, .int .i64 e.hi, .slice aa na ca] 45 (0, 0)) := by rw [hwa]; exact alloc_new w _
 have hsa : wa.heap.size = w.heap.size + 1 := by rw [hwa]; simp
 have HXA := hI hxa
 have HSA := hI hsa
 clear hsa
 go_enter Tryz.func173, Tryz.ntmps173
 go_upto_region 1 with fail
 rw [<- hwa]
 clear hwa
 obtain ⟨bs, hbs⟩ : ∃ bs, bs = wa.heap.size := ⟨_, rfl⟩
 have HM0 := hI (MapAt.made wa 9)
 rw [<- hbs] at HM0
 have HBS := hI hbs
 go_upto_region 3 with fail
 rw [<- hbs]
 clear hbs
 obtain ⟨wb, hwb⟩ : ∃ wb, wb = wa.alloc (.map #[] 0) := ⟨_, rfl⟩
 have HXB := hI (show Ext wa wb by rw [hwb]; exact (Ext.refl _).alloc _)
 obtain ⟨f0, f1, f2, f3, f4, f5, ff⟩ := blk6 (HXB.out.blk hb1)
 rw [<- hwb] at HM0 ⊢
 have hsb : wb.heap.size = w.heap.size + 2 := by rw [hwb]; simp; have := HSA.out; omega
 have HSB := hI hsb
 clear hwb hb1 hsb
 go_wp2_with fail
 have HRS := hI (show RcS w bs (.slice none 0 0) (.slice (some ⟨wb.heap.size, 0, none⟩) 1 1) [] [] [e] [⟨e.op, e.name, aw, nw, cw, e.lo, e.hi, aa, na, ca⟩] (wb.alloc (.cells #[.int .i64 e.op, .string e.name, .slice aw nw cw, .int .i64 e.lo, .int .i64 e.hi, .slice aa na ca] 45)) from
  {ext := (HXA.out.trans HXB.out).alloc _
   cla := ⟨rfl, fun i h => by simp at h⟩
   own := World.ownsRow_nil _ _ _ _
   ex := ⟨rfl, fun i h1 h2 => by
     obtain rfl : i = 0 := by simp at h1; exact h1
     exact HE.out⟩
   xown := owns_new wb _ _ (n := 1) (by simp) (by unfold maxLen; omega) (by have := HSB.out; omega)
   seen := (HM0.out.ext ((Ext.refl _).alloc _)).congr fun x => by cases x <;> simp [strF, memF, nmsOf]
   bsn := by have := HBS.out; have := HSA.out; omega
   d1 := by simp [Value.ownBlock]
   d2 := by simp [Value.ownBlock]; have := HBS.out; have := HSA.out; have := HSB.out; omega
   d3 := by simp [Value.ownBlock] })
 clear f0 f1 f2 f3 f4 f5 ff HM0 HXB HXA
 go_loopg [5, 7] (2 * l.length + 1) (RL1 w l e bs)
 case atStart => exact ⟨[], [], [e], _, rfl, HRS.out, RP.start l e⟩
 case round =>
  obtain ⟨u, vs, xs, evs, hm, hrs, hrp⟩ := hrel
  obtain ⟨wo, rfl⟩ : ∃ wo : World, wo = wr := ⟨_, rfl⟩
  clear HRS
  have HM := hI hm
  have HR := hI hrs
  have HP := hI hrp
  have hul := defs_len hrp.defs hrp.names
  obtain ⟨la, lc, hlv⟩ := owns_form hrs.own
  subst hlv
  clear hm
  by_cases hne : xs = []
  ·subst hne
   obtain ⟨xa, xc, hxv⟩ := owns_form hrs.xown
   subst hxv
   obtain ⟨a', c', hv, hcl⟩ := clas_owns (M := []) hrs.own (by simp) (hrs.cla.mono (hrs.ext.sub.trans (to_mask_nil _)))
   have HCL := hI hcl
   have HV := hI hv
   clear hrs hrp hv hcl
   go_wp2_with fail
   go_ret
   rw [HV.out]
   exact ⟨u, a', _, c', rfl, HCL.out.mono (mask_sub _ _), HP.out.used, HR.out.ext⟩
  obtain ⟨xs', x, evs', v, rfl, rfl, hx1, hx2⟩ := exs_last hrs.ex hne
  obtain ⟨n', hn'⟩ : ∃ n', n' = xs'.length := ⟨_, rfl⟩
  have hl' : n' = evs'.length := by rw [hn']; exact hx1.1
  have hxo := hrs.xown
  have e0 : (xs' ++ [x]).length = n' + 1 := by simp [hn']
  rw [e0] at hxo
  obtain ⟨g2, cap, rfl, c0, c1, c2, c3, c4, c5⟩ := owns_last hl' hxo
  have hsx : x.size <= 100000 /\ x.fits := by
   rcases hrp.stack x (by simp) with rfl | ⟨c, hc, rfl⟩
   ·exact HES.out
   exact cond_of hrp.defs HSZ.out hc
  have HX2 := hI (hx2.ext hrs.ext)
  have HSX := hI hsx
  have HLN := hI hn'
  have HL' := hI hl'
  obtain ⟨hg2, hcap, hgw, -⟩ := owns_bounds hxo
  have HRI := hI (show RcS w bs (.slice la u.length lc) (.slice (some ⟨g2, 0, none⟩) n' cap) u vs xs' evs' wo from { hrs with ex := hx1, xown := (by rw [<- hn']; exact owns_drop hl' hxo), d2 := (fun g hg => hrs.d2 g (by simpa [Value.ownBlock] using hg)), d3 := fun g hg hg2 => hrs.d3 g hg (by simpa [Value.ownBlock] using hg2) })
  have HPP := hI (hrp.pop (refNames (namesE x)))
  have hnn : n' <= u.length := by have := hrp.slen; simp at this; omega
  clear hrs hrp hx1 hx2 hsx hn' hl' hxo e0 hne
  have e1 : (((n' + 1 : Nat) : Int) - 1) = (n' : Int) := by omega
  have t1 : decide ((0 : Int) < ((n' + 1 : Nat) : Int)) = true := decide_eq_true (by omega)
  go_wp2_with fail
  refine (synNamesF_calls x _ wo (by have := HSX.out.1; omega) HSX.out.2 HX2.out).mono ?_
  obtain ⟨ns, hns⟩ : ∃ ns, ns = refNames (namesE x) := ⟨_, rfl⟩
  have HNM := hI (show ∀ s, s ∈ ns ↔ s ∈ namesE x by intro s; rw [hns, refNames_mem])
  rw [<- hns] at HPP ⊢
  have HNS := hI (show ∀ s ∈ ns, s.size <= 1000000000000000 from fun s hs => names_fit x HSX.out.2 s ((HNM.out s).1 hs))
  have hnl : ns.length <= 100000 := by rw [hns]; exact Nat.le_trans (refNames_len2 _) (Nat.le_trans (namesE_len _) HSX.out.1)
  clear hns
  rintro r w5 ⟨sa, sc, rfl, hst, hx5, hfr⟩
  have HST := hI hst
  have hbw := HRI.out.seen.lt
  have HFR := hI (show ∀ b off, sa = some ⟨b, off, none⟩ -> b ≠ bs /\ some b ≠ (Value.slice la u.length lc).ownBlock /\ some b ≠ (Value.slice (some ⟨g2, 0, none⟩) n' cap).ownBlock from fun b' off' e' => by
   have h1 := hfr b' off' e'
   refine ⟨by omega, fun e2 => ?_, fun e2 => ?_⟩
   ·have := (HRI.out.own.lt b' e2.symm).2; omega
   simp [Value.ownBlock] at e2; omega)
  have HR5 := hI (HRI.out.extd hx5)
  clear hst hx5 hfr HRI c0 c1 c2 c3 c4 c5 HX2 HSX
  go_wp2_with fail
  go_loopw [5, 7, 35] (RL2 w l e x ns sa sc bs (2 * (l.length - u.length) + n')) (fun _ _ i _ => ns.length - (intOf i).toNat)
  case atStart => exact ⟨u, vs, xs', evs', 0, rfl, by omega, by have := HLN.out; omega, HR5.out, HPP.out, HST.out, HFR.out⟩
  case round =>
   obtain ⟨u2, vs2, xs2, ev2, j, rfl, hj, hm2, hr2, hp2, hst2, hfr2⟩ := hrel
   obtain ⟨la2, lc2, hlv2⟩ := owns_form hr2.own
   subst hlv2
   obtain ⟨xa2, xc2, hxv2⟩ := owns_form hr2.xown
   subst hxv2
   have HR2 := hI hr2
   have HP2 := hI hp2
   have HS2 := hI hst2
   have HF2 := hI hfr2
   have HM2 := hI hm2
   have hu2 := defs_len hp2.defs hp2.names
   have hx2l := hp2.slen
   clear hr2 hp2 hst2 hfr2 hm2 HR5 HPP HST HFR
   by_cases hjl : j < ns.length
   ·have tj : decide ((j : Int) < (ns.length : Int)) = true := decide_eq_true (by omega)
    obtain ⟨bn, offn, rfl, cn0⟩ := HS2.out.2.2.2 j hjl
    have hsz1 := HNS.out _ (List.getElem_mem hjl)
    have HXW := hI HR2.out.ext
    by_cases hmem : ns[j] ∈ nmsOf u2
    ·have HSN := hI (show strF (memF fun s => s ∈ nmsOf u2) (.string ns[j].data.toList) = some (.agg #[]) by rw [strF_at]; simp [memF, hmem])
     have HSK := hI (HP2.out.skip hjl (Or.inr hmem))
     cases hda : defAt l ns[j] with
     | none =>
      have HF := hI (show strF g (.string ns[j].data.toList) = none by rw [strF_at]; exact (HDG.out _).1 hda)
      clear hda hmem
      go_wp2_with (first
       | (at_lookup; refine wpList_map_ok _ rfl _ _ 131 rfl 9 45 keyedStr uMapSE (zeroEx _) b n _ rfl (HMP.out.ext HXW.out) _ _ rfl (keyStr hsz1) trivial ?_; rw [HF.out])
       | (at_lookup; refine wpList_map_ok _ rfl _ _ 174 rfl 9 176 keyedStr uSet (zeroUnit _) bs u2.length _ rfl (HR2.out.seen.ext ((Ext.refl wr).alloc _)) _ _ rfl (keyStr hsz1) trivial ?_; rw [HSN.out]))
      go_roundw
      case rel => exact ⟨u2, vs2, xs2, ev2, j + 1, by go_num, by omega, HM2.out, HR2.out.extd (((Ext.refl wr).alloc _).alloc _), HSK.out, HS2.out.ext (((Ext.refl wr).alloc _).alloc _), HF2.out⟩
      case measure => simp [intOf]; omega
     | some d =>
      obtain ⟨uv, hu, hux⟩ := (HDG.out ns[j]).2 d hda
      obtain ⟨aw2, nw2, cw2, aa2, na2, ca2, rfl, -, -, -, -, -⟩ := hux.parts
      have HF := hI (show strF g (.string ns[j].data.toList) = some _ by rw [strF_at]; exact hu)
      unfold exV at HF
      clear hda hmem hu hux
      go_wp2_with (first
       | (at_lookup; refine wpList_map_ok _ rfl _ _ 131 rfl 9 45 keyedStr uMapSE (zeroEx _) b n _ rfl (HMP.out.ext HXW.out) _ _ rfl (keyStr hsz1) trivial ?_; rw [HF.out])
       | (at_lookup; refine wpList_map_ok _ rfl _ _ 174 rfl 9 176 keyedStr uSet (zeroUnit _) bs u2.length _ rfl (HR2.out.seen.ext ((Ext.refl wr).alloc _)) _ _ rfl (keyStr hsz1) trivial ?_; rw [HSN.out]))
      go_roundw
      case rel => exact ⟨u2, vs2, xs2, ev2, j + 1, by go_num, by omega, HM2.out, HR2.out.extd (((Ext.refl wr).alloc _).alloc _), HSK.out, HS2.out.ext (((Ext.refl wr).alloc _).alloc _), HF2.out⟩
      case measure => simp [intOf]; omega
    have HSN := hI (show strF (memF fun s => s ∈ nmsOf u2) (.string ns[j].data.toList) = none by rw [strF_at]; simp [memF, hmem])
    cases hda : defAt l ns[j] with
    | none =>
     have HSK := hI (HP2.out.skip hjl (Or.inl hda))
     have HF := hI (show strF g (.string ns[j].data.toList) = none by rw [strF_at]; exact (HDG.out _).1 hda)
     clear hda hmem
     go_wp2_with (first
      | (at_lookup; refine wpList_map_ok _ rfl _ _ 131 rfl 9 45 keyedStr uMapSE (zeroEx _) b n _ rfl (HMP.out.ext HXW.out) _ _ rfl (keyStr hsz1) trivial ?_; rw [HF.out])
      | (at_lookup; refine wpList_map_ok _ rfl _ _ 174 rfl 9 176 keyedStr uSet (zeroUnit _) bs u2.length _ rfl (HR2.out.seen.ext ((Ext.refl wr).alloc _)) _ _ rfl (keyStr hsz1) trivial ?_; rw [HSN.out]))
     go_roundw
     case rel => exact ⟨u2, vs2, xs2, ev2, j + 1, by go_num, by omega, HM2.out, HR2.out.extd (((Ext.refl wr).alloc _).alloc _), HSK.out, HS2.out.ext (((Ext.refl wr).alloc _).alloc _), HF2.out⟩
     case measure => simp [intOf]; omega
    | some d =>
     obtain ⟨uv, hu, hux⟩ := (HDG.out ns[j]).2 d hda
     have hux2 := hux
     obtain ⟨aw2, nw2, cw2, aa2, na2, ca2, rfl, -, -, -, -, -⟩ := hux.parts
     have HF := hI (show strF g (.string ns[j].data.toList) = some _ by rw [strF_at]; exact hu)
     obtain ⟨xe, hxe⟩ : ∃ xe, xe = (l.getD d cla0).cond := ⟨_, rfl⟩
     rw [<- hxe] at HF hux2
     have HST := hI (HP2.out.step hjl HNM.out hda hmem (c := ⟨1, ns[j], xe, [], 0⟩) rfl rfl hxe)
     have HUX := hI hux2
     unfold exV at HF
     clear hda hmem hu hux hux2 hxe
     go_wp2_with (first
      | (at_lookup; refine wpList_map_ok _ rfl _ _ 131 rfl 9 45 keyedStr uMapSE (zeroEx _) b n _ rfl (HMP.out.ext HXW.out) _ _ rfl (keyStr hsz1) trivial ?_; rw [HF.out])
      | (at_lookup; refine wpList_map_ok _ rfl _ _ 174 rfl 9 176 keyedStr uSet (zeroUnit _) bs u2.length _ rfl (HR2.out.seen.ext ((Ext.refl wr).alloc _)) _ _ rfl (keyStr hsz1) trivial ?_; rw [HSN.out])
      | (at_mapUpdate; refine wpList_map_put _ rfl _ _ _ 174 rfl 9 176 keyedStr uSet bs u2.length _ rfl (HR2.out.seen.ext (((Ext.refl wr).alloc _).alloc _)) ?c3 _ _ _ rfl rfl (keyStr hsz1) trivial ?_))
     case c3 => unfold maxLen; omega
     intro w3 hm3 hc3
     have hbx := hc3.blk (((Ext.refl _).alloc _).blk (alloc_new wr (.cells #[.int .i64 xe.op, .string xe.name, .slice aw2 nw2 cw2, .int .i64 xe.lo, .int .i64 xe.hi, .slice aa2 na2 ca2] 45))) (by have := HR2.out.seen.lt; simp; omega)
     have HBX := hI hbx
     obtain ⟨f0, f1, f2, f3, f4, f5, ff⟩ := blk6 hbx
     have HW3 := hI hc3
     have HM3 := hI hm3
     have HRW := hI (HR2.out.extd (((Ext.refl wr).alloc (.cells #[.int .i64 xe.op, .string xe.name, .slice aw2 nw2 cw2, .int .i64 xe.lo, .int .i64 xe.hi, .slice aa2 na2 ca2] 45)).alloc (.cells #[] 176)))
     have HO3 := hI (owns_chg HRW.out.own hc3 fun q hq hm => by simp only [List.mem_singleton] at hm; exact HRW.out.d1 q hq hm)
     have h3s := hc3.size
     have h3s2 : wr.heap.size <= w3.heap.size := Nat.le_trans (((Ext.refl wr).alloc _).alloc _).size hc3.size
     have hww := HRW.out.ext.size
     clear hm3 hc3 HF HSN hbx
     go_wp2_with (at_builtin; refine wpList_append_at elemCla rfl _ _ rfl w.heap.size _ u2.length _ rfl HO3.out _ 1 1 rfl ?f0 rfl ?f1 ?f2 ?f3 ?f4 ?_)
     case f0 => simp
     case f1 => simp [Value.oneCell']
     case f2 => unfold maxLen; omega
     case f3 => omega
     case f4 => omega
     intro v8 w8 hown8 hc8 hw8
     obtain ⟨a8, c8, hv8⟩ := owns_form hown8
     subst hv8
     obtain ⟨f0, f1, f2, f3, f4, f5, ff⟩ := blk6 (hc8.blk HBX.out fun hm => by have := (HR2.out.own.lt _ (mem_rowOf.1 hm)).2; omega)
     have HX8 := hI (owns_chg (owns_chg HRW.out.xown HW3.out fun q hq hm => by simp only [List.mem_singleton] at hm; exact HRW.out.d2 q hq hm) hc8 fun q hq hm => HRW.out.d3 q (mem_rowOf.1 hm) hq)
     have HO8 := hI hown8
     have HC8 := hI hc8
     have HW8 := hI hw8
     have h8s := hc8.size
     clear hown8 hc8 hw8
     go_wp2_with (at_builtin; refine wpList_append_at elemEx rfl _ _ rfl w.heap.size _ xs2.length _ rfl HX8.out _ 1 1 rfl ?g0 rfl ?g1 ?g2 ?g3 ?g4 ?_)
     case g0 => simp
     case g1 => simp [Value.oneCell']
     case g2 => unfold maxLen; omega
     case g3 => omega
     case g4 => omega
     intro v9 w9 hown9 hc9 hw9
     obtain ⟨a9, c9, hv9⟩ := owns_form hown9
     subst hv9
     have HR9 := hI (HRW.out.step (c := ⟨1, ns[j], xe, [], 0⟩) (cv := ⟨1, ns[j], ⟨xe.op, xe.name, aw2, nw2, cw2, xe.lo, xe.hi, aa2, na2, ca2⟩, none, 0, 0, 0⟩) ⟨rfl, rfl, HUX.out, rfl, Nat.le_refl _, Or.inl ⟨rfl, rfl⟩, by simp only; unfold WbsD; trivial, rfl⟩ (x := xe) (ev := ⟨xe.op, xe.name, aw2, nw2, cw2, xe.lo, xe.hi, aa2, na2, ca2⟩) HUX.out HM3.out (fun y => by
      rw [memF_step]
      congr 2
      funext z
      rw [nmsOf_snoc]
      simp [or_comm]) HW3.out HO8.out HC8.out HW8.out hown9 hc9 hw9)
     have HS9 := hI ((((HS2.out.ext (((Ext.refl wr).alloc _).alloc _)).chg HW3.out (fun b' off' e' hm => (HF2.out b' off' e').1 (by simpa using hm))).chg HC8.out (fun b' off' e' hm => (HF2.out b' off' e').2.1 (mem_rowOf.1 hm).symm)).chg hc9 (fun b' off' e' hm => (HF2.out b' off' e').2.2 (mem_rowOf.1 hm).symm))
     have HF9 := hI (show ∀ b off, some (⟨bn, offn, none⟩ : Addr) = some ⟨b, off, none⟩ -> b ≠ bs /\ some b ≠ (Value.slice a8 (u2.length + 1) c8).ownBlock /\ some b ≠ (Value.slice a9 (xs2.length + 1) c9).ownBlock from fun b' off' e' => by
      obtain ⟨q1, q2, q3⟩ := HF2.out b' off' e'
      have hbl : b' < wr.heap.size := by
       simp only [Option.some.injEq, Addr.mk.injEq, and_true] at e'
       have := block_lt cn0
       simp only at this; omega
      refine ⟨q1, fun e2 => ?_, fun e2 => ?_⟩
      ·rcases HW8.out b' e2.symm with h | h
       ·exact q2 h.symm
       omega
      rcases hw9 b' e2.symm with h | h
      ·exact q3 h.symm
      omega)
     clear hown9 hc9 hw9 f0 f1 f2 f3 f4 f5 ff cn0
     go_wp2_with fail
     go_roundw
     case rel =>
      have hmm : 2 * (l.length - (u2 ++ [(⟨1, ns[j], xe, [], 0⟩ : Cla)]).length) + (xs2 ++ [xe]).length <= 2 * (l.length - u.length) + n' := by
       have h1 := HM2.out
       have h2 := defs_len HST.out.defs HST.out.names
       simp only [List.length_append, List.length_singleton] at h2 ⊢
       omega
      exact ⟨u2 ++ [⟨1, ns[j], xe, [], 0⟩], _, xs2 ++ [xe], _, j + 1, by go_num, by omega, hmm, HR9.out, HST.out, HS9.out, HF9.out⟩
     case measure => simp [intOf]; omega
   have tj : decide ((j : Int) < (ns.length : Int)) = false := decide_eq_false (by omega)
   have HPE := hI (HP2.out.end (by omega) HNM.out)
   go_wp2_with fail
   go_roundg (2 * (l.length - u2.length) + xs2.length)
   case rel => exact ⟨u2, vs2, xs2, ev2, rfl, HR2.out, HPE.out⟩
   case measure => have h1 := HM.out; have h2 := HM2.out; have h3 := HLN.out; simp at h1; omega
def expd1R (l : List Cla) (e : Ex) (aw : OA) (nw cw : Nat) (aa : OA) (na ca : Nat) (a : OA) (n c : Nat) : Nat -> Value -> World -> Prop
 | 0, u, _ => u = .slice a n c
 | 1, u, W => ∃ bd, u = .map (some bd) /\ DefsAt W l bd n
 | 2, u, _ => u = .agg #[.int .i64 e.op, .string e.name, .slice aw nw cw, .int .i64 e.lo, .int .i64 e.hi, .slice aa na ca]
 | 3, u, W => ∃ us ua un uc, u = .slice ua un uc /\ (IsClas W us ua un uc /\ Used l e us)
 | _, u, W => ∃ us ua un uc, u = .slice ua un uc /\ (IsClas W us ua un uc /\ Used l e us)
def expd5R (_l : List Cla) (e : Ex) (aw : OA) (nw cw : Nat) (aa : OA) (na ca : Nat) (_a : OA) (_n _c : Nat) (us : List Cla) (ua : OA) (un uc : Nat) (oa : OA) (oc : Nat) (o : ZN) (R : Nat) : Nat -> Value -> World -> Prop
 | 0, u, _ => u = .slice ua un uc
 | 1, u, _ => u = .slice oa o.length oc
 | 2, u, W => ∃ bd, u = .map (some bd) /\ MapAt W 9 bd o.length (strF (natF (sizesF us o)))
 | 3, u, _ => u = .agg #[.int .i64 e.op, .string e.name, .slice aw nw cw, .int .i64 e.lo, .int .i64 e.hi, .slice aa na ca]
 | 4, u, _ => u = .int .i64 R
 | _, u, _ => u = .int .i64 R
theorem cExpanded_calls (l : List Cla) (a : OA) (n c : Nat) (e : Ex) (ev : Value) (w : World) (hl : IsClas w l a n c) (he : IsEx w e ev) (hes : e.size <= 100000 /\ e.fits /\ bareE e = true) (hn : n <= 1000) (hsz : ∀ x ∈ l, x.name.size <= 1000000000000000 /\ x.cond.size <= 100000 /\ x.cond.fits /\ bareE x.cond = true) :
  Calls Tryz.prog 146 #[.slice a n c, ev] w (GivesE (.int .i64 (expanded l e : Nat)) w) := by
 have hln := hl.len
 obtain ⟨aw, nw, cw, aa, na, ca, rfl, -⟩ := he.parts
 have HL := hI hl
 have HE := hI he
 have HES := hI hes
 have HSZ := hI hsz
 have HLN := hI hln
 have HR := hI (show ∀ b m W, DefsAt W l b m -> Ext w W -> Calls Tryz.prog 173 #[.map (some b), exV e.op e.name aw nw cw e.lo e.hi aa na ca] W (ReachQ l e W) from fun b m W hd hx => reached_calls l e _ b m W hd (he.ext hx) ⟨hes.1, hes.2.1⟩ (by omega) fun x hx => ⟨(hsz x hx).2.1, (hsz x hx).2.2.1⟩)
 clear hl he hes hsz hln
 unfold exV at HR
 unfold exV
 obtain ⟨wa, hwa⟩ : ∃ wa, wa = w.alloc (.cells #[.int .i64 e.op, .string e.name, .slice aw nw cw, .int .i64 e.lo, .int .i64 e.hi, .slice aa na ca] 45) := ⟨_, rfl⟩
 have hxa : Ext w wa := by rw [hwa]; exact (Ext.refl _).alloc _
 have hb1 : wa.heap[w.heap.size]? = some (.cells #[.int .i64 e.op, .string e.name, .slice aw nw cw, .int .i64 e.lo, .int .i64 e.hi, .slice aa na ca] 45 (0, 0)) := by rw [hwa]; exact alloc_new w _
 have HXA := hI hxa
 have HB1 := hI hb1
 clear hxa
 go_enter Tryz.func146, Tryz.ntmps146
 go_upto_region 1 with fail
 rw [<- hwa]
 clear hwa
 obtain ⟨f0, f1, f2, f3, f4, f5, ff⟩ := blk6 hb1
 clear hb1
 have HD := hI (fun (W : World) (hW : Ext wa W) => definitions_calls l a n c W (HL.out.ext (HXA.out.trans hW)) (by omega) fun x hx => (HSZ.out x hx).1)
 refine wp_region_grow (m := 5) [4] (GrG wa) GrE (GrP (expd1R l e aw nw cw aa na ca a n c)) (by kernel_rfl) (by kernel_rfl) ((Ext.refl wa).drew) ?_ ?_ ?_
 ·intro i k v W W' hi hk hne hout h hE
  have hE : Ext W W' := hE
  have hi' := ltc5 hi
  clear hi hk hne hout
  rcases hi' with rfl | rfl | rfl | rfl | rfl
  ·exact h
  ·obtain ⟨bd, e0, h⟩ := h
   exact ⟨bd, e0, h.ext hE⟩
  ·exact h
  ·obtain ⟨us, ua, un, uc, e0, h⟩ := h
   exact ⟨us, ua, un, uc, e0, ⟨h.1.ext hE, h.2⟩⟩
  obtain ⟨us, ua, un, uc, e0, h⟩ := h
  exact ⟨us, ua, un, uc, e0, ⟨h.1.ext hE, h.2⟩⟩
 ·intro q op hq ho vs W hW hd ρ hρ
  have hq' := ltc5 hq
  clear hq
  have o0 : ρ (.tmp 0) = .slice a n c := hρ.out 0 rfl
  have i0 := hρ.i 0 8
  have o3 : ρ (.tmp 3) = .pointer (some ⟨w.heap.size, 0, none⟩) := hρ.out 3 rfl
  have i1 := hρ.i 1 9
  have i2 := hρ.i 2 10
  have i3 := hρ.i 3 11
  have hc := hρ.const
  have hfn := hρ.func
  clear hρ
  have HW := hI (show Ext wa W from hW)
  rcases hq' with rfl | rfl | rfl | rfl | rfl
  ·cases ho
   clear hd
   unfold GivesOp
   go_simp
   exact ⟨Ext.refl W, rfl⟩
  ·cases ho
   have h0 : vs 0 = _ := hd ⟨0, .data⟩ (by simp) rfl
   rw [h0] at i0
   clear hd
   unfold GivesOp
   go_simp
   refine (HD.out W HW.out).mono ?_
   rintro r w5 ⟨bd, rfl, hd5, hx5⟩
   exact ⟨_, rfl, hx5, HW.out.trans hx5, _, rfl, hd5⟩
  ·cases ho
   clear hd
   have g0 := HW.out.cell f0
   have g1 := HW.out.cell f1
   have g2 := HW.out.cell f2
   have g3 := HW.out.cell f3
   have g4 := HW.out.cell f4
   have g5 := HW.out.cell f5
   unfold GivesOp
   go_simp
   exact ⟨Ext.refl W, rfl⟩
  ·cases ho
   obtain ⟨bd, h1, hs1⟩ : ∃ bd, vs 1 = .map (some bd) /\ DefsAt W l bd n := hd ⟨1, .data⟩ (by simp) rfl
   have HS1 := hI hs1
   clear hs1
   rw [h1] at i1
   have h2 : vs 2 = _ := hd ⟨2, .data⟩ (by simp) rfl
   rw [h2] at i2
   clear hd
   unfold GivesOp
   go_simp
   refine (HR.out _ n W HS1.out (HXA.out.trans HW.out)).mono ?_
   rintro r w5 ⟨us, ua, un, uc, rfl, hc5, hu5, hx5⟩
   exact ⟨_, rfl, hx5, HW.out.trans hx5, _, _, _, _, rfl, hc5, hu5⟩
  cases ho
  obtain ⟨us, ua, un, uc, h3, hs3⟩ : ∃ us ua un uc, vs 3 = .slice ua un uc /\ (IsClas W us ua un uc /\ Used l e us) := hd ⟨3, .data⟩ (by simp) rfl
  have HS3 := hI hs3
  clear hs3
  rw [h3] at i3
  clear hd
  unfold GivesOp
  go_simp
  exact ⟨Ext.refl W, _, _, _, _, rfl, HS3.out⟩
 intro vs W hW hR
 rw [if_pos (by decide +kernel)]
 obtain ⟨us, ua, un, uc, h4, hs4⟩ : ∃ us ua un uc, vs 4 = .slice ua un uc /\ (IsClas W us ua un uc /\ Used l e us) := hR 4 (by simp) (by omega)
 have HS4 := hI hs4
 clear hs4
 simp only [acts, dstAt, List.range, List.range.loop, List.foldl_cons, List.foldl_nil, h4]
 go_simp
 have hW2 : Ext wa W := hW
 clear hR hW h4
 obtain ⟨w2, hw2⟩ : ∃ w2, w2 = W := ⟨_, rfl⟩
 rw [<- hw2] at hW2 HS4 ⊢
 have hle : us.length <= 1000 := by have := HS4.out.2.len; have := HLN.out; omega
 have HX2 := hI (HXA.out.trans hW2)
 have HB2 := hI (hW2.blk HB1.out)
 clear hw2 hW2 f0 f1 f2 f3 f4 f5 ff
 have HUS := hI (HS4.out.2)
 have HCL := hI (HS4.out.1)
 have HUN := hI HS4.out.1.len
 have HUZ := hI (show ∀ x ∈ us, x.name.size <= 1000000000000000 /\ x.cond.size <= 100000 /\ x.cond.fits /\ bareE x.cond = true by
  intro x hx
  obtain ⟨_, d, h1, h2, _⟩ := HUS.out.defs x hx
  have hd := defAt_lt h1
  have := HSZ.out _ (List.getElem_mem hd)
  rw [h2, getD_cla hd]
  refine ⟨?_, this.2⟩
  rw [<- (defAt_name h1).1, getD_cla hd]
  exact this.1)
 clear HS4
 go_wp2_with fail
 refine (order_calls (us.map Cla.cl) ua un uc w2 HCL.out.cls (by have := HLN.out; have := HUN.out; omega) (by
  intro x hx
  obtain ⟨c', hc', rfl⟩ := List.mem_map.1 hx
  have := HUZ.out c' hc'
  exact ⟨this.2.1, this.2.2.1, this.1⟩)).mono ?_
 rw [show (us.map Cla.cl).map Cl.dfn = us.map Cla.dfn by rw [List.map_map]; rfl]
 rintro r w3 ⟨hx3, ⟨o, oa, oc, ht, rfl, hoi⟩ | ⟨o, h1, h2, rfl⟩⟩
 ·have HT := hI ht
  have HOI := hI hoi
  have HX3 := hI (HX2.out.trans hx3)
  obtain ⟨f0, f1, f2, f3, f4, f5, ff⟩ := blk6 (hx3.blk HB2.out)
  have HCL3 := hI (HCL.out.ext hx3)
  have hol : o.length <= 1000 := by have h1 := ht.len; simp at h1; omega
  clear ht hoi hx3
  go_upto_region 5 with fail
  have HSI := hI (fun (W : World) (hW : Ext w3 W) => sizes_calls us ua un uc o oa oc W (HCL3.out.ext hW) (by have := HLN.out; have := HUN.out; omega) (HOI.out.mono hW.sub) (by omega) (fun i hi => by have := HT.out.lt hi; simpa using this) (fun x hx => ⟨(HUZ.out x hx).1, Nat.le_trans (HUZ.out x hx).2.1 (by omega), (HUZ.out x hx).2.2.1⟩))
  have HCE := hI (fun (bd : Nat) (W : World) (hW : Ext w3 W) (hm : MapAt W 9 bd o.length (strF (natF (sizesF us o)))) => cexp_calls (sizesF us o) (sizesF_le us o) bd o.length 1000000000000000 e _ W (by have := HES.out.1; omega) (by omega) HES.out.2.1 hm (HE.out.ext (HX3.out.trans hW)))
  obtain ⟨R, hR⟩ : ∃ R, R = szE (sizesF us o) e := ⟨_, rfl⟩
  have HRR := hI (hR.trans (HUS.out.good HT.out (fun c hc => (HUZ.out c hc).2.2.2) HES.out.2.2))
  rw [<- hR] at HCE
  clear hR
  unfold exV at HCE
  refine wp_region_grow (m := 6) [5] (GrG w3) GrE (GrP (expd5R l e aw nw cw aa na ca a n c us ua un uc oa oc o R)) (by kernel_rfl) (by kernel_rfl) ((Ext.refl w3).drew) ?_ ?_ ?_
  ·intro i k v W W' hi hk hne hout h hE
   have hE : Ext W W' := hE
   have hi' := ltc6 hi
   clear hi hk hne hout
   rcases hi' with rfl | rfl | rfl | rfl | rfl | rfl
   ·exact h
   ·exact h
   ·obtain ⟨bd, e0, h⟩ := h
    exact ⟨bd, e0, h.ext hE⟩
   ·exact h
   ·exact h
   exact h
  ·intro q op hq ho vs W hW hd ρ hρ
   have hq' := ltc6 hq
   clear hq
   have o5 : ρ (.tmp 5) = .slice ua un uc := hρ.out 5 rfl
   have o6 : ρ (.tmp 6) = .slice oa o.length oc := hρ.out 6 rfl
   have i0 := hρ.i 0 19
   have i1 := hρ.i 1 20
   have o3 : ρ (.tmp 3) = .pointer (some ⟨w.heap.size, 0, none⟩) := hρ.out 3 rfl
   have i2 := hρ.i 2 21
   have i3 := hρ.i 3 22
   have i4 := hρ.i 4 23
   have hc := hρ.const
   have hfn := hρ.func
   clear hρ
   have HW := hI (show Ext w3 W from hW)
   rcases hq' with rfl | rfl | rfl | rfl | rfl | rfl
   ·cases ho
    clear hd
    unfold GivesOp
    go_simp
    exact ⟨Ext.refl W, rfl⟩
   ·cases ho
    clear hd
    unfold GivesOp
    go_simp
    exact ⟨Ext.refl W, rfl⟩
   ·cases ho
    have h0 : vs 0 = _ := hd ⟨0, .data⟩ (by simp) rfl
    rw [h0] at i0
    have h1 : vs 1 = _ := hd ⟨1, .data⟩ (by simp) rfl
    rw [h1] at i1
    clear hd
    unfold GivesOp
    go_simp
    refine (HSI.out W HW.out).mono ?_
    rintro r w5 ⟨bd, rfl, hd5, hx5⟩
    exact ⟨_, rfl, hx5, HW.out.trans hx5, _, rfl, hd5⟩
   ·cases ho
    clear hd
    have g0 := HW.out.cell f0
    have g1 := HW.out.cell f1
    have g2 := HW.out.cell f2
    have g3 := HW.out.cell f3
    have g4 := HW.out.cell f4
    have g5 := HW.out.cell f5
    unfold GivesOp
    go_simp
    exact ⟨Ext.refl W, rfl⟩
   ·cases ho
    obtain ⟨bd, h2, hs2⟩ : ∃ bd, vs 2 = .map (some bd) /\ MapAt W 9 bd o.length (strF (natF (sizesF us o))) := hd ⟨2, .data⟩ (by simp) rfl
    have HS2 := hI hs2
    clear hs2
    rw [h2] at i2
    have h3 : vs 3 = _ := hd ⟨3, .data⟩ (by simp) rfl
    rw [h3] at i3
    clear hd
    unfold GivesOp
    go_simp
    refine (HCE.out _ W HW.out HS2.out).mono ?_
    rintro r w5 ⟨rfl, hx5⟩
    exact ⟨_, rfl, hx5, HW.out.trans hx5, rfl⟩
   cases ho
   have h4 : vs 4 = _ := hd ⟨4, .data⟩ (by simp) rfl
   rw [h4] at i4
   clear hd
   unfold GivesOp
   go_simp
   exact ⟨Ext.refl W, rfl⟩
  intro vs W hW hR
  rw [if_pos (by decide +kernel)]
  have h5 : vs 5 = .int .i64 R := hR 5 (by simp) (by omega)
  simp only [acts, dstAt, List.range, List.range.loop, List.foldl_cons, List.foldl_nil, h5]
  go_simp
  have hW2 : Ext w3 W := hW
  clear hR hW h5
  go_wp2_with fail
  go_ret
  exact givesE_of (by rw [HRR.out]) (HX3.out.trans hW2)
 have HX3 := hI (HX2.out.trans hx3)
 have HRR := hI (HUS.out.cyclic h1 h2)
 clear hx3 h1 h2
 go_wp2_with fail
 go_ret
 exact givesE_of (by rw [HRR.out]; rfl) HX3.out
mutual
theorem okTree_bare : (e : Ex) -> okTree e -> bareE e = true
 | .mk op name words lo hi args, h => by
  rw [okTree] at h
  obtain ⟨hn, ha⟩ := h
  rw [bareE, okTrees_bare args ha, Bool.and_true]
  unfold okNode at hn
  simp only [Ex.op, Ex.args, Ex.name, Ex.words, Ex.lo, Ex.hi] at hn
  by_cases h3 : op = 3
  ·have : args = [] := by
    rcases hn with ⟨h, -⟩ | ⟨h, -⟩ | ⟨-, -, -, -, -, h⟩ | ⟨h, -⟩ | ⟨h, -⟩ | ⟨h, -⟩ | ⟨h, -⟩
    ·omega
    ·omega
    ·exact h
    ·omega
    ·omega
    ·omega
    omega
   simp [this]
  simp [h3]
theorem okTrees_bare : (l : List Ex) -> okTrees l -> bareL l = true
 | [], _ => by rw [bareL]
 | e :: r, h => by
  rw [okTrees] at h
  rw [bareL, okTree_bare e h.1, okTrees_bare r h.2]; rfl
end
theorem ref_bare {e : Ex} (h : refExprB e = true) : bareE e = true := okTree_bare e (ref_okTree h)
theorem claLarge_conds {l : List Cla} {i : Nat} (hi : i < l.length) : claLarge l i = if (condsC l[i]).any (fun x => decide (2000 < expanded l x)) = true then 4 else 0 := by
 unfold claLarge
 rw [getD_cla hi, backsLarge_conds]
 simp only [condsC, List.any_cons, Bool.or_eq_true, decide_eq_true_eq]
theorem defs_own {s : List Attr} {l : List Cla} (h : ∀ j, j < l.length -> claErr s l j = 0) {i : Nat} (hi : i < l.length) (hk : l[i].kind = 1) : defAt l l[i].name = some i := by
 have h0 := h i hi
 rw [<- ccErr_eq s l hi] at h0
 unfold ccErr at h0
 have hnone : findAt (l.take i) l[i].name = none := by
  cases hf : findAt (l.take i) l[i].name with
  | none => rfl
  | some q =>
   rw [hf] at h0
   split at h0
   ·cases h0
   simp at h0
 unfold defAt
 rw [List.findIdx?_eq_some_iff_getElem]
 refine ⟨hi, by simp [hk], fun j hj => ?_⟩
 unfold findAt at hnone
 rw [List.findIdx?_eq_none_iff] at hnone
 have := hnone l[j] (List.mem_iff_getElem.2 ⟨j, by simp; omega, by simp⟩)
 simp only [decide_eq_false_iff_not] at this
 simp [this]
def cclas10R (sa : OA) (sn sc bm b off n c k : Nat) (v : ClV) (E : Int) : Nat -> Value -> World -> Prop
 | 0, u, _ => u = .agg #[.slice sa sn sc]
 | 1, u, _ => u = .map (some bm)
 | 2, u, _ => u = .slice (some ⟨b, off, none⟩) n c
 | 3, u, _ => u = .int .i64 ((k : Nat) : Int)
 | 4, u, _ => u = .slice (some ⟨b, off, none⟩) k c
 | 5, u, _ => u = .agg #[.int .i64 v.kind, .string v.name, .int .i64 v.x.op, .string v.x.name, .slice v.x.aw v.x.nw v.x.cw, .int .i64 v.x.lo, .int .i64 v.x.hi, .slice v.x.aa v.x.na v.x.ca, .slice v.au v.nu v.cu, .int .i64 v.amount]
 | 6, u, _ => u = .int .i64 E
 | _, u, _ => u = .int .i64 E
def CcL2 (l : List Cla) (n : Nat) (w3 : World) (t : Value) (wr : World) : Prop := ∃ k : Nat, t = .int .i64 ((k : Nat) : Int) /\ k <= n /\ (∀ j, j < k -> claLarge l j = 0) /\ Ext w3 wr
theorem cClauses_calls (s : List Attr) (l : List Cla) (sv : Value) (a : OA) (n c : Nat) (w : World) (hs : IsSchema w s sv) (hf : ∀ x ∈ s, x.fits) (hsl : s.length <= 1000000000000000) (hl : IsClas w l a n c) (hn : n <= 1000000000000000) (hok : ∀ x ∈ l, x.fit) (ho : HasOps w) :
  Calls Tryz.prog 56 #[sv, .slice a n c] w (GivesE (clsV (clausesErr s l)) w) := by
 obtain ⟨sa, sn, sc, rfl, hsn⟩ := hs.slice
 have HL := hI hl
 have HN := hI hl.len
 have HOK := hI hok
 have hnc : n <= c := by obtain ⟨vs, h1, _⟩ := hl; exact h1.2.1
 have HVA := hI (fun (W : World) (hW : Ext w W) => sValidate_calls s (.agg #[.slice sa sn sc]) W (hs.ext hW) hf hsl)
 have HCC := hI (fun (hz : schemaErr s = 0) (bm nm : Nat) (ba : OA) (bn bc i : Nat) (hi : i < l.length) (v : ClV) (W : World) (hW : Ext w W) (hd : DefsAt W l bm nm) (hb : IsClas W (l.take i) ba bn bc) (hbn : bn <= 1000000000000000) (hc : IsCla W l[i] v) => cclause_calls s hz l (l.take i) hf hsl bm nm ba bn bc l[i] v (.agg #[.slice sa sn sc]) W (hok _ (List.getElem_mem hi)) (ho.ext hW) (hs.ext hW) hd hb hbn hc)
 obtain ⟨R, hR⟩ : ∃ R, R = clausesErr s l := ⟨_, rfl⟩
 rw [<- hR]
 have HR := hI hR
 obtain ⟨wa, hwa⟩ : ∃ wa, wa = w.alloc (.cells #[.slice sa sn sc] 24) := ⟨_, rfl⟩
 have hxa : Ext w wa := by rw [hwa]; exact (Ext.refl _).alloc _
 have hb : wa.heap[w.heap.size]? = some (.cells #[.slice sa sn sc] 24 (0, 0)) := by rw [hwa]; exact alloc_new w _
 have HXA := hI hxa
 have HBA := hI hb
 obtain ⟨d0, df⟩ := blk1 hb
 have hlta := blk_lt hb
 clear hs hl hf hok hR hsn hxa hb ho
 go_enter Tryz.func56, Tryz.ntmps56
 go_upto_region 1 with fail
 rw [<- hwa]
 clear hwa
 go_wp2_with fail
 refine (HVA.out wa HXA.out).mono ?_
 rintro r w1 ⟨rfl, hx1⟩
 have HX1 := hI (HXA.out.trans hx1)
 have HB1 := hI (hx1.blk HBA.out)
 clear hx1 d0 df HVA hlta
 by_cases hse : schemaErr s = 0
 case neg =>
  have tz : (schemaErr s != 0) = true := by simp [hse]
  have HQ := hI (HR.out.trans (cls_bad hse))
  go_wp2_with fail
  go_ret2
  exact givesE_cls HQ.out HX1.out
 have tz : (schemaErr s != 0) = false := by simp [hse]
 have HSE := hI hse
 clear hse
 by_cases hm : 100 < n
 ·have tm : decide ((100 : Int) < (n : Int)) = true := decide_eq_true (by omega)
  have HQ := hI (HR.out.trans (cls_many HSE.out (by have := HN.out; omega)))
  go_wp2_with fail
  go_ret2
  exact givesE_cls HQ.out HX1.out
 have tm : decide ((100 : Int) < (n : Int)) = false := decide_eq_false (by omega)
 have HM := hI (show ¬ 100 < l.length by have := HN.out; omega)
 go_wp2_with fail
 refine (definitions_calls l a n c w1 (HL.out.ext HX1.out) (by omega) fun x hx => (HOK.out x hx).1).mono ?_
 rintro r w2 ⟨bm, rfl, hd2, hx2⟩
 have HD2 := hI hd2
 have HX2 := hI (HX1.out.trans hx2)
 have HB2 := hI (hx2.blk HB1.out)
 clear hd2 hx2
 go_wp2_with fail
 go_loopw [30] (fun t wr => ∃ k : Nat, t = .int .i64 ((k : Nat) : Int) /\ k <= n /\ (∀ j, j < k -> claErr s l j = 0) /\ Ext w2 wr) (fun t _ => n - (intOf t).toNat)
 case atStart => exact ⟨0, rfl, by omega, fun j h => by omega, Ext.refl _⟩
 case round =>
  obtain ⟨k, rfl, hk, hno, hxr⟩ := hrel
  have HNO := hI hno
  have HXR := hI hxr
  clear hno hxr
  by_cases hkn : k < n
  ·have hkl : k < l.length := by have := HN.out; omega
   have t1 : decide ((k : Int) < (n : Int)) = true := decide_eq_true (by omega)
   obtain ⟨b, off, v, rfl, hcla, hrow⟩ := (HL.out.ext (HX2.out.trans HXR.out)).at hkl
   obtain ⟨c0, c1, c2, c3, c4, c5, c6, c7, c8, c9⟩ := hrow.ten
   have ti0 : (0 : Int) <= (k : Int) := by omega
   have ti1 : (k : Int) <= (n : Int) := by omega
   have hkc : k <= c := by omega
   have HCE := hI (ccErr_eq s l hkl)
   have HHIT := hI (fun (e : Int) (h : claErr s l k = e) (h0 : e ≠ 0) => HR.out.trans (by rw [cls_hit HSE.out HM.out hkl HNO.out (by rw [h]; exact h0), h]))
   obtain ⟨y, hy⟩ : ∃ y, y = wr.heap.size := ⟨_, rfl⟩
   obtain ⟨wx, hwx⟩ : ∃ wx, wx = wr.alloc (.cells #[.int .i64 v.kind, .string v.name, .int .i64 v.x.op, .string v.x.name, .slice v.x.aw v.x.nw v.x.cw, .int .i64 v.x.lo, .int .i64 v.x.hi, .slice v.x.aa v.x.na v.x.ca, .slice v.au v.nu v.cu, .int .i64 v.amount] 48) := ⟨_, rfl⟩
   have hxx : Ext wr wx := by rw [hwx]; exact (Ext.refl _).alloc _
   have hby : wx.heap[y]? = some (.cells #[.int .i64 v.kind, .string v.name, .int .i64 v.x.op, .string v.x.name, .slice v.x.aw v.x.nw v.x.cw, .int .i64 v.x.lo, .int .i64 v.x.hi, .slice v.x.aa v.x.na v.x.ca, .slice v.au v.nu v.cu, .int .i64 v.amount] 48 (0, 0)) := by rw [hwx, hy]; exact alloc_new wr _
   have HXX := hI (HXR.out.trans hxx)
   have HCF := hI (fun (W : World) (hW : Ext wx W) => HCC.out HSE.out bm n (some ⟨b, off, none⟩) k c k hkl v W ((HX2.out.trans HXX.out).trans hW) (HD2.out.ext (HXX.out.trans hW)) ((HL.out.ext ((HX2.out.trans HXX.out).trans hW)).take (by omega)) (by omega) (hcla.mono (hxx.trans hW).sub))
   rw [HCE.out] at HCF
   obtain ⟨E, hE⟩ : ∃ E, E = claErr s l k := ⟨_, rfl⟩
   rw [<- hE] at HCF
   have HE := hI hE
   clear hcla hrow hE HCE
   go_upto_region 10 with fail
   rw [<- hwx, <- hy]
   clear hwx hy c0 c1 c2 c3 c4 c5 c6 c7 c8 c9
   obtain ⟨d0, df⟩ := blk1 ((HXX.out).blk HB2.out)
   obtain ⟨b0, b1, b2, b3, b4, b5, b6, b7, b8, b9, bf⟩ := blk10r hby
   clear hxx hby
   refine wp_region_grow (m := 8) [7] (GrG wx) GrE (GrP (cclas10R sa sn sc bm b off n c k v E)) (by kernel_rfl) (by kernel_rfl) ((Ext.refl wx).drew) ?_ ?_ ?_
   ·intro i k v W W' hi hk hne hout h hE
    have hE : Ext W W' := hE
    have hi' := ltc8 hi
    clear hi hk hne hout
    rcases hi' with rfl | rfl | rfl | rfl | rfl | rfl | rfl | rfl
    ·exact h
    ·exact h
    ·exact h
    ·exact h
    ·exact h
    ·exact h
    ·exact h
    exact h
   ·intro q op hq ho vs W hW hd ρ hρ
    have hq' := ltc8 hq
    clear hq
    have o2 : ρ (.tmp 2) = .pointer (some ⟨w.heap.size, 0, none⟩) := hρ.out 2 rfl
    have o7 : ρ (.tmp 7) = .map (some bm) := hρ.out 7 rfl
    have o1 : ρ (.tmp 1) = .slice (some ⟨b, off, none⟩) n c := hρ.out 1 rfl
    have o8 : ρ (.tmp 8) = .int .i64 ((k : Nat) : Int) := hρ.out 8 rfl
    have i2 := hρ.i 2 37
    have i3 := hρ.i 3 38
    have o9 : ρ (.tmp 9) = .pointer (some ⟨y, 0, none⟩) := hρ.out 9 rfl
    have i0 := hρ.i 0 35
    have i1 := hρ.i 1 36
    have i4 := hρ.i 4 39
    have i5 := hρ.i 5 40
    have i6 := hρ.i 6 41
    have hc := hρ.const
    have hfn := hρ.func
    clear hρ
    have HW := hI (show Ext wx W from hW)
    rcases hq' with rfl | rfl | rfl | rfl | rfl | rfl | rfl | rfl
    ·cases ho
     clear hd
     have g0 := HW.out.cell d0
     unfold GivesOp
     go_simp
     exact ⟨Ext.refl W, rfl⟩
    ·cases ho
     clear hd
     unfold GivesOp
     go_simp
     exact ⟨Ext.refl W, rfl⟩
    ·cases ho
     clear hd
     unfold GivesOp
     go_simp
     exact ⟨Ext.refl W, rfl⟩
    ·cases ho
     clear hd
     unfold GivesOp
     go_simp
     exact ⟨Ext.refl W, rfl⟩
    ·cases ho
     have h2 : vs 2 = _ := hd ⟨2, .data⟩ (by simp) rfl
     rw [h2] at i2
     have h3 : vs 3 = _ := hd ⟨3, .data⟩ (by simp) rfl
     rw [h3] at i3
     clear hd
     unfold GivesOp
     go_simp
     exact ⟨Ext.refl W, rfl⟩
    ·cases ho
     clear hd
     have g0 := HW.out.cell b0
     have g1 := HW.out.cell b1
     have g2 := HW.out.cell b2
     have g3 := HW.out.cell b3
     have g4 := HW.out.cell b4
     have g5 := HW.out.cell b5
     have g6 := HW.out.cell b6
     have g7 := HW.out.cell b7
     have g8 := HW.out.cell b8
     have g9 := HW.out.cell b9
     unfold GivesOp
     go_simp
     exact ⟨Ext.refl W, rfl⟩
    ·cases ho
     have h0 : vs 0 = _ := hd ⟨0, .data⟩ (by simp) rfl
     rw [h0] at i0
     have h1 : vs 1 = _ := hd ⟨1, .data⟩ (by simp) rfl
     rw [h1] at i1
     have h4 : vs 4 = _ := hd ⟨4, .data⟩ (by simp) rfl
     rw [h4] at i4
     have h5 : vs 5 = _ := hd ⟨5, .data⟩ (by simp) rfl
     rw [h5] at i5
     clear hd
     unfold GivesOp
     go_simp
     refine (HCF.out W HW.out).mono ?_
     rintro r5 w5 ⟨rfl, hx5⟩
     exact ⟨_, rfl, hx5, HW.out.trans hx5, rfl⟩
    cases ho
    have h6 : vs 6 = _ := hd ⟨6, .data⟩ (by simp) rfl
    rw [h6] at i6
    clear hd
    unfold GivesOp
    go_simp
    exact ⟨Ext.refl W, rfl⟩
   intro vs W hW hR
   rw [if_pos (by decide +kernel)]
   have h7 : vs 7 = .int .i64 E := hR 7 (by simp) (by omega)
   simp only [acts, dstAt, List.range, List.range.loop, List.foldl_cons, List.foldl_nil, h7]
   go_simp
   have hW2 : Ext wx W := hW
   clear hR hW h7
   have HX10 := hI (HXX.out.trans hW2)
   clear hW2 d0 df b0 b1 b2 b3 b4 b5 b6 b7 b8 b9 bf HCF
   by_cases hz : E = 0
   ·have tz0 : (E != 0) = false := by simp [hz]
    have HZ := hI (HE.out.symm.trans hz)
    clear hz
    go_wp2_with fail
    go_roundw
    case rel =>
     refine ⟨k + 1, by go_num, by omega, fun j hj => ?_, HX10.out⟩
     by_cases e0 : j = k
     ·subst e0; exact HZ.out
     exact HNO.out j (by omega)
    case measure => simp [intOf]; omega
   have tz0 : (E != 0) = true := by simp [hz]
   have HQ := hI (HHIT.out E HE.out.symm hz)
   clear hz
   go_wp2_with fail
   go_ret2
   exact givesE_cls HQ.out (HX2.out.trans HX10.out)
  have t1 : decide ((k : Int) < (n : Int)) = false := decide_eq_false (by omega)
  have HNA := hI (show ∀ j, j < l.length -> claErr s l j = 0 from fun j hj => HNO.out j (by have := HN.out; omega))
  have HSZ := hI (show ∀ x ∈ l, x.name.size <= 1000000000000000 /\ x.cond.size <= 100000 /\ x.cond.fits /\ (∀ y ∈ condsC x, refExprB y = true) /\ wbN x.unl <= 40 by
   intro x hx
   obtain ⟨j, hj, rfl⟩ := List.mem_iff_getElem.1 hx
   have hv := claErr_valid (HNA.out j hj) hj
   have hf := HOK.out _ hx
   exact ⟨hf.1, refExprB_size (clauseB_cond hv), hf.2.1, (clause_refs hv).1, (clause_refs hv).2⟩)
  have HXW := hI (HX2.out.trans HXR.out)
  clear HNO
  go_wp2_with fail
  refine (order_calls (l.map Cla.cl) a n c wr (HL.out.ext HXW.out).cls (by omega) (by
   intro x hx
   obtain ⟨c', hc', rfl⟩ := List.mem_map.1 hx
   have := HSZ.out c' hc'
   exact ⟨this.2.1, this.2.2.1, this.1⟩)).mono ?_
  rw [show (l.map Cla.cl).map Cl.dfn = l.map Cla.dfn by rw [List.map_map]; rfl]
  rintro r w3 ⟨hx3, ⟨o, oa, oc, ht, rfl, hoi⟩ | ⟨o, q1, q2, rfl⟩⟩
  ·have HT := hI ht
   have HOI := hI hoi
   have HX3 := hI (HXW.out.trans hx3)
   have HSO := hI (show Sorts (l.map Cla.dfn) from ⟨o, ht⟩)
   have hol : o.length <= 1000 := by have h1 := ht.len; have := HN.out; simp at h1; omega
   have HSE2 := hI (fun (x : Ex) (hx : bareE x = true) => sizes_exp ht (fun i hi => by
    have hil : i < l.length := by simpa using ht.lt hi
    rw [getD_cla hil]
    exact defs_own HNA.out hil (by have := (ht.all i).1 hi; rw [isDef_dfn hil] at this; simpa using this)) (fun i hi => by
    have hil : i < l.length := by simpa using ht.lt hi
    rw [getD_cla hil]
    exact ref_bare ((HSZ.out _ (List.getElem_mem hil)).2.2.2.1 _ (by simp [condsC]))) x hx)
   clear ht hoi hx3
   go_wp2_with fail
   refine (sizes_calls l a n c o oa oc w3 (HL.out.ext HX3.out) (by omega) HOI.out (by omega) (fun i hi => by simpa using HT.out.lt hi) (fun x hx => by have := HSZ.out x hx; exact ⟨this.1, by omega, this.2.2.1⟩)).mono ?_
   rintro r w4 ⟨bs, rfl, hm4, hx4⟩
   have HM4 := hI hm4
   have HX4 := hI (HX3.out.trans hx4)
   clear hm4 hx4
   go_wp2_with fail
   go_loopw [60] (CcL2 l n w4) (fun t _ => n - (intOf t).toNat)
   case atStart => exact ⟨0, rfl, by omega, fun j h => by omega, Ext.refl _⟩
   case round =>
    obtain ⟨k2, rfl, hk2, hno, hxr⟩ := hrel
    obtain ⟨wo, rfl⟩ : ∃ wo : World, wo = wr := ⟨_, rfl⟩
    have HNO := hI hno
    have HXR2 := hI hxr
    clear hno hxr
    by_cases hkn2 : k2 < n
    ·have hkl : k2 < l.length := by have := HN.out; omega
     have t2 : decide ((k2 : Int) < (n : Int)) = true := decide_eq_true (by omega)
     obtain ⟨b, off, v, rfl, hcla, hrow⟩ := (HL.out.ext (HX4.out.trans HXR2.out)).at hkl
     obtain ⟨c0, c1, c2, c3, c4, c5, c6, c7, c8, c9⟩ := hrow.ten
     have HFT := hI (condsC_fit (HOK.out _ (List.getElem_mem hkl)))
     have HRF := hI (HSZ.out _ (List.getElem_mem hkl)).2.2.2.1
     have hwb := (HSZ.out _ (List.getElem_mem hkl)).2.2.2.2
     have HLG := hI (claLarge_conds hkl)
     have HHIT := hI (fun (h : claLarge l k2 = 4) => HR.out.trans (cls_large HSE.out HM.out HNA.out HSO.out hkl HNO.out h))
     have HCN := hI (fun (W : World) (hW : Ext wo W) => conditions_calls l[k2] v W (hcla.mono hW.sub) (by omega))
     have HCL := hI (condsC_len l[k2])
     clear hcla hrow
     go_wp2_with fail
     refine (HCN.out _ ((Ext.refl wo).alloc _)).mono ?_
     rintro r w6 ⟨ea, en, ek, rfl, hen, henk, hed, hx6⟩
     have HX6 := hI ((HXR2.out.alloc _).trans hx6)
     have HED := hI hed
     have HEN := hI hen
     have hen2 : en <= 41 := by have := HCL.out; omega
     clear hx6 hed hen c0 c1 c2 c3 c4 c5 c6 c7 c8 c9 HCN
     go_wp2_with fail
     go_loopw [68] (fun t wr => ∃ q : Nat, t = .int .i64 ((q : Nat) : Int) /\ q <= en /\ (∀ j (h : j < (condsC l[k2]).length), j < q -> ¬ 2000 < expanded l (condsC l[k2])[j]) /\ Ext w6 wr) (fun t _ => en - (intOf t).toNat)
     case atStart => exact ⟨0, rfl, by omega, fun j _ h => by omega, Ext.refl _⟩
     case round =>
      obtain ⟨q, rfl, hq, hall, hxq⟩ := hrel
      have HALL := hI hall
      have HXQ := hI hxq
      clear hall hxq
      by_cases hqn : q < en
      ·have hql : q < (condsC l[k2]).length := by have := HEN.out; omega
       have t3 : decide ((q : Int) < (en : Int)) = true := decide_eq_true (by omega)
       obtain ⟨b', off', rfl, aw1, nw1, cw1, aa1, na1, ca1, h0, h1, h2, h3, h4, h5, h6⟩ := ExsD.at (condsC l[k2]) _ (ExsD.ext HXQ.out (condsC l[k2]) _ HED.out) q hql
       have hmem := List.getElem_mem hql
       have hxs := refExprB_size (HRF.out _ hmem)
       have HCX := hI (fun (W : World) (hW : Ext wr W) => cexp_calls (sizesF l o) (sizesF_le l o) bs o.length 1000000000000000 (condsC l[k2])[q] _ W (by omega) (by omega) (HFT.out _ hmem).1 (HM4.out.ext ((HX6.out.trans HXQ.out).trans hW)) (h6.ext hW))
       have hblt := block_lt h0
       simp only at hblt
       rw [HSE2.out _ (ref_bare (HRF.out _ hmem))] at HCX
       unfold exV at HCX
       obtain ⟨E, hE⟩ : ∃ E, E = expanded l (condsC l[k2])[q] := ⟨_, rfl⟩
       rw [<- hE] at HCX
       have hel : E <= 2001 := by rw [hE]; exact expF_le l _ _
       have HE := hI hE
       clear h6 hE
       go_wp2_with fail
       refine (HCX.out _ ((Ext.refl wr).alloc _)).mono ?_
       rintro r w7 ⟨rfl, hx7⟩
       have HX7 := hI ((HXQ.out.alloc _).trans hx7)
       clear hx7 h0 h1 h2 h3 h4 h5 HCX
       by_cases hlg : 2000 < E
       ·have t4 : decide ((2000 : Int) < (E : Int)) = true := decide_eq_true (by omega)
        have HQ := hI (HHIT.out (by
         rw [HLG.out, if_pos]
         rw [List.any_eq_true]
         exact ⟨_, hmem, by rw [<- HE.out]; simpa using hlg⟩))
        clear hmem
        go_wp2_with fail
        go_ret2
        exact givesE_cls HQ.out (HX4.out.trans (HX6.out.trans HX7.out))
       have t4 : decide ((2000 : Int) < (E : Int)) = false := decide_eq_false (by omega)
       have HNL := hI (show ¬ 2000 < expanded l (condsC l[k2])[q] by rw [<- HE.out]; exact hlg)
       clear hmem hlg
       go_wp2_with fail
       go_roundw
       case rel =>
        refine ⟨q + 1, by go_num, by omega, fun j hj hjk => ?_, HX7.out⟩
        by_cases e0 : j = q
        ·subst e0; exact HNL.out
        exact HALL.out j hj (by omega)
       case measure => simp [intOf]; omega
      have t3 : decide ((q : Int) < (en : Int)) = false := decide_eq_false (by omega)
      have HZ := hI (show claLarge l k2 = 0 by
       rw [HLG.out, if_neg]
       rw [Bool.not_eq_true, List.any_eq_false]
       intro x hx
       obtain ⟨j, hj, rfl⟩ := List.mem_iff_getElem.1 hx
       simpa using HALL.out j hj (by have := HEN.out; omega))
      go_wp2_with fail
      go_roundw
      case rel =>
       refine ⟨k2 + 1, by go_num, by omega, fun j hj => ?_, HX6.out.trans HXQ.out⟩
       by_cases e0 : j = k2
       ·subst e0; exact HZ.out
       exact HNO.out j (by omega)
      case measure => simp [intOf]; omega
    have t2 : decide ((k2 : Int) < (n : Int)) = false := decide_eq_false (by omega)
    have HQ := hI (HR.out.trans (cls_good HSE.out HM.out HNA.out HSO.out fun j hj => HNO.out j (by have := HN.out; omega)))
    go_wp2_with fail
    go_ret2
    exact givesE_cls HQ.out (HX4.out.trans HXR2.out)
  have HQ := hI (HR.out.trans (cls_cycle HSE.out HM.out HNA.out (q1.none q2)))
  have HX3 := hI (HXW.out.trans hx3)
  clear hx3 q1 q2
  go_wp2_with fail
  go_ret2
  exact givesE_cls HQ.out HX3.out
end Go.Proofs.YtefjomofjejklaaGreatDoor
