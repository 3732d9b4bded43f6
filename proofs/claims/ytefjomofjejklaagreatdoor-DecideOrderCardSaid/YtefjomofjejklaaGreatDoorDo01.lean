/-
  Texts of the claim, joined: Part, Ch3, PermC, IntB, Ordr, DOrd.
-/
import Derived.Test.YtefjomofjejklaaGreatDoorDt25
namespace Go.Proofs.YtefjomofjejklaaGreatDoor
set_option maxRecDepth 100000
set_option maxHeartbeats 32000000
open Go.RowKit
theorem run_make1 {t e : TypeId} {z : Value} {size bytes : Nat} (E : ElemT t e z size bytes) (W : World) (n : Nat) (hb : bytes * n <= 281474976710656) (hn : n <= 1000000000000000) :
  Sem.run Tryz.prog (Instr.makeSlice t (.int .i64 (n : Int)) (.int .i64 (n : Int))) W = .ok (.slice (some ⟨W.heap.size, 0, none⟩) n n) (W.alloc (.cells (madeCells z.cells (n * size)) e)) := by
 obtain ⟨i, hi, hz, hs, hby⟩ := info_parts E.info
 have := run_make (P := Tryz.prog) W t e i z E.ht hi hz .i64 .i64 n n (by omega) (by omega) (by rw [hby, <- Int.natCast_mul]; omega) (by omega)
 rw [hs] at this
 simpa using this
section
variable {P : Program} {ops : Array Oper} {π : Nat -> Nat} {Q : Exit -> Act -> World -> Prop} {m : Nat} {Er : World -> World -> Prop} {C : World -> Prop} {k : Nat} {o : Oper} {r l : List Oper} {ac : Act} {Φ FA : World -> Prop} {A : Nat -> Prop} {gh pf : ZN}
theorem chn_chg {id : Nat} {a : Act} {w : World} (m : Nat) (N : ZN) (Φ : World -> Prop) (hΦ : Φ w.drew) (hs : ∀ W W', Ext W W' -> Φ W -> Φ W') (h : Chn P l.toArray (fun k => k) Q m (Chg N) (Chg N w) 0 l a Φ (fun _ => True) (fun _ => True) [] []) (hm : P.follows .mixedOrders = true := by kernel_rfl) (hok : okCh l.toArray m = true := by kernel_rfl) : (Code.region id l.toArray true).wp P Q a w :=
 chn_start (Chg.refl N) (fun _ _ h => h.chg N) (fun _ _ h k => h.then k) ((Ext.refl w).drew.chg N) hΦ hs h hm hok
end
instance (w : World) : Nonempty (WIn (Ext w)) := ⟨⟨w, Ext.refl w⟩⟩
instance (N : ZN) (w : World) : Nonempty (WIn (Chg N w)) := ⟨⟨w, Chg.refl N w⟩⟩
def Uni (l : List Cla) : Prop := l.Pairwise (fun a b => a.name ≠ b.name)
theorem uni_of {s : List Attr} {l : List Cla} (h : Chk s l) : Uni l := by
 unfold Uni
 rw [List.pairwise_iff_getElem]
 intro i j hi hj hij
 have := h.uniq j i hj hij
 rw [getD_cla hi, getD_cla hj] at this
 exact this
theorem uni_perm {l l' : List Cla} (hp : l'.Perm l) (h : Uni l) : Uni l' := (hp.pairwise_iff (fun h e => h e.symm)).2 h
theorem Uni.at {l : List Cla} (h : Uni l) {i j : Nat} (hi : i < l.length) (hj : j < l.length) (e : l[i].name = l[j].name) : i = j := by
 unfold Uni at h
 rw [List.pairwise_iff_getElem] at h
 rcases Nat.lt_trichotomy i j with h1 | h1 | h1
 ·exact absurd e (h i j hi hj h1)
 ·exact h1
 exact absurd e.symm (h j i hj hi h1)
theorem Uni.eq {l : List Cla} (h : Uni l) {x y : Cla} (hx : x ∈ l) (hy : y ∈ l) (e : x.name = y.name) : x = y := by
 obtain ⟨i, hi, rfl⟩ := List.getElem_of_mem hx
 obtain ⟨j, hj, rfl⟩ := List.getElem_of_mem hy
 have := h.at hi hj e
 subst this
 rfl
def isD (t : BA) (c : Cla) : Bool := (c.kind == 1) && decide (c.name = t)
theorem defAt_of {α : Type} (t : BA) (g : Cla -> α) : (l : List Cla) -> (Proofs.YtefjomofjejklaaGreatDoor.defAt l t).map (fun d => g (l.getD d cla0)) = (l.find? (isD t)).map g
 | [] => rfl
 | c :: r => by
  have ih := defAt_of t g r
  unfold Proofs.YtefjomofjejklaaGreatDoor.defAt at ih ⊢
  rw [List.findIdx?_cons, List.find?_cons]
  by_cases hc : isD t c = true
  ·rw [if_pos (show ((c.kind == 1) && decide (c.name = t)) = true from hc), hc]
   simp
  rw [if_neg (show ¬ ((c.kind == 1) && decide (c.name = t)) = true from hc), Bool.eq_false_iff.2 hc]
  simp only
  rw [<- ih, Option.map_map]
  congr 1
theorem find_perm {p : Cla -> Bool} {l l' : List Cla} (hp : l'.Perm l) (hu : ∀ x ∈ l, ∀ y ∈ l, p x = true -> p y = true -> x = y) : l'.find? p = l.find? p := by
 cases h1 : l'.find? p with
 | none =>
  symm
  rw [List.find?_eq_none] at h1 ⊢
  exact fun x hx => h1 x (hp.mem_iff.2 hx)
 | some x =>
  have hx := hp.mem_iff.1 (List.mem_of_find?_eq_some h1)
  have hpx := List.find?_some h1
  cases h2 : l.find? p with
  | none => rw [List.find?_eq_none] at h2; exact absurd hpx (h2 x hx)
  | some y => rw [hu x hx y (List.mem_of_find?_eq_some h2) hpx (List.find?_some h2)]
theorem def_perm {l l' : List Cla} (hp : l'.Perm l) (h : Uni l) (t : BA) : l'.find? (isD t) = l.find? (isD t) := find_perm hp fun x hx y hy h1 h2 => by
 simp only [isD, Bool.and_eq_true, decide_eq_true_eq] at h1 h2
 exact h.eq hx hy (h1.2.trans h2.2.symm)
section
variable {l l' : List Cla} (hp : l'.Perm l) (h : Uni l)
include hp h
theorem expF_perm : (k : Nat) -> (e : Ex) -> expF l' k e = expF l k e
 | 0, _ => rfl
 | k + 1, e => by
  rw [expF, expF]
  refine expE_congr _ fun t _ => ?_
  rw [defAt_of t (fun c => expF l' k c.cond), defAt_of t (fun c => expF l k c.cond), def_perm hp h]
  exact congrArg (fun g => Option.map g _) (funext fun c => expF_perm k c.cond)
theorem expanded_perm (e : Ex) : expanded l' e = expanded l e := by
 unfold expanded
 rw [hp.length_eq, expF_perm hp h]
theorem valF_perm (s : List Attr) (f : ZI) : (k : Nat) -> (e : Ex) -> Proofs.YtefjomofjejklaaGreatDoor.valF s l' f k e = Proofs.YtefjomofjejklaaGreatDoor.valF s l f k e
 | 0, _ => rfl
 | k + 1, e => by
  rw [Proofs.YtefjomofjejklaaGreatDoor.valF, Proofs.YtefjomofjejklaaGreatDoor.valF]
  refine valE_congr _ fun t _ => ?_
  rw [defAt_of t (fun c => Proofs.YtefjomofjejklaaGreatDoor.valF s l' f k c.cond), defAt_of t (fun c => Proofs.YtefjomofjejklaaGreatDoor.valF s l f k c.cond), def_perm hp h]
  exact congrArg (fun g => Option.map g _) (funext fun c => valF_perm s f k c.cond)
theorem val_perm (s : List Attr) (f : ZI) : val s l' f = val s l f := by
 funext e
 unfold val
 rw [hp.length_eq, valF_perm hp h]
theorem some_perm (t : BA) : (Proofs.YtefjomofjejklaaGreatDoor.defAt l' t).isSome = (Proofs.YtefjomofjejklaaGreatDoor.defAt l t).isSome := by
 have h1 := defAt_of t (fun _ => ()) l'
 have h2 := defAt_of t (fun _ => ()) l
 rw [def_perm hp h, <- h2] at h1
 have := congrArg Option.isSome h1
 simpa using this
theorem nodes_perm (s : List Attr) : (x : Ex) -> nodesErr s l' x = nodesErr s l x
 | .mk op name words lo hi args => by
  have hn : nodeErr s l' op name words lo hi = nodeErr s l op name words lo hi := by
   unfold nodeErr
   rw [some_perm hp h]
  rw [nodesErr, nodesErr, hn, nodesL args]
where
 nodesL : (r : List Ex) -> nodesErrL s l' r = nodesErrL s l r
  | [] => by rw [nodesErrL, nodesErrL]
  | x :: r => by rw [nodesErrL, nodesErrL, nodes_perm s x, nodesL r]
theorem backsErr_perm (s : List Attr) : (u : List Wb) -> backsErr s l' u = backsErr s l u
 | [] => by rw [backsErr, backsErr]
 | .mk n x u :: r => by rw [backsErr, backsErr, nodes_perm hp h, backsErr_perm s u, backsErr_perm s r]
theorem backsLarge_perm : (u : List Wb) -> backsLarge l' u = backsLarge l u
 | [] => by rw [backsLarge, backsLarge]
 | .mk n x u :: r => by rw [backsLarge, backsLarge, expanded_perm hp h, backsLarge_perm u, backsLarge_perm r]
theorem sorts_perm (hs : Sorts (l.map Cla.dfn)) : Sorts (l'.map Cla.dfn) := by
 obtain ⟨o, ht⟩ := hs
 have hu' := uni_perm hp h
 have hex : ∀ j, ∃ i, j < l.length -> i < l'.length /\ l'.getD i cla0 = l.getD j cla0 := fun j => by
  by_cases hj : j < l.length
  ·obtain ⟨i, hi, e⟩ := List.getElem_of_mem (hp.mem_iff.2 (List.getElem_mem hj))
   exact ⟨i, fun _ => ⟨hi, by rw [getD_cla hi, getD_cla hj, e]⟩⟩
  exact ⟨0, fun h => absurd h hj⟩
 obtain ⟨τ, hτ⟩ : ∃ τ : Nat -> Nat, ∀ j, j < l.length -> τ j < l'.length /\ l'.getD (τ j) cla0 = l.getD j cla0 := ⟨fun j => (hex j).choose, fun j => (hex j).choose_spec⟩
 have hol : ∀ j ∈ o, j < l.length := fun j hj => by have := isDef_lt ((ht.all j).1 hj); simpa using this
 have hback : ∀ i j (hi : i < l'.length) (hj : j < l.length), l'[i] = l[j] -> τ j = i := fun i j hi hj e => by
  obtain ⟨h1, h2⟩ := hτ j hj
  rw [getD_cla h1, getD_cla hj] at h2
  exact hu'.at h1 hi (by rw [h2, e])
 refine ⟨o.map τ, ?_, fun i => ?_, fun p i hpi t hts d hd => ?_⟩
 ·unfold List.Nodup
  rw [List.pairwise_map]
  refine List.Pairwise.imp_of_mem (fun {a b} ha hb hab e => hab ?_) ht.nodup
  obtain ⟨h1, h2⟩ := hτ a (hol a ha)
  obtain ⟨h3, h4⟩ := hτ b (hol b hb)
  rw [e, h4, getD_cla (hol a ha), getD_cla (hol b hb)] at h2
  exact h.at (hol a ha) (hol b hb) (by rw [h2])
 ·rw [List.mem_map]
  constructor
  ·rintro ⟨j, hj, rfl⟩
   have hjl := hol j hj
   obtain ⟨h1, h2⟩ := hτ j hjl
   have h3 := (ht.all j).1 hj
   rw [isDef_dfn hjl] at h3
   rw [getD_cla h1, getD_cla hjl] at h2
   rw [isDef_dfn h1, h2, h3]
  intro hi
  have hil : i < l'.length := by have := isDef_lt hi; simpa using this
  obtain ⟨j, hj, e⟩ := List.getElem_of_mem (hp.mem_iff.1 (List.getElem_mem hil))
  rw [isDef_dfn hil, <- e] at hi
  exact ⟨j, (ht.all j).2 (by rw [isDef_dfn hj, hi]), hback i j hil hj e.symm⟩
 rw [List.getElem?_map] at hpi
 obtain ⟨j, hj, rfl⟩ := Option.map_eq_some_iff.1 hpi
 have hjl := hol j (List.mem_of_getElem? hj)
 obtain ⟨h1, h2⟩ := hτ j hjl
 rw [getD_cla h1, getD_cla hjl] at h2
 rw [usesAt_dfn h1, h2, <- usesAt_dfn hjl] at hts
 rw [firstAt_dfn] at hd
 have hdl := defAt_lt hd
 have e1 := defAt_of t (fun c => c) l'
 rw [def_perm hp h, <- defAt_of t (fun c => c) l, hd] at e1
 simp only [Option.map_some] at e1
 obtain ⟨d2, hd2, e2⟩ := Option.map_eq_some_iff.1 e1.symm
 have hd2l := defAt_lt hd2
 rw [getD_cla hd2l, getD_cla hdl] at e2
 have h5 := ht.after p j hj t hts d2 (by rw [firstAt_dfn]; exact hd2)
 rw [<- List.map_take, List.mem_map]
 exact ⟨d2, h5, hback d d2 hdl hd2l e2.symm⟩
theorem clas_perm {s : List Attr} (hc : (clausesErr s l).2 = 0) : (clausesErr s l').2 = 0 := by
 have hck := chk_of hc
 have hu' := uni_perm hp h
 unfold clausesErr at hc
 rw [if_neg (by simp [hck.sch]), if_neg (by have := hck.len; omega)] at hc
 by_cases h3 : (firstI (claErr s l) l.length).2 ≠ 0
 ·rw [if_pos h3] at hc; exact absurd hc h3
 rw [if_neg h3] at hc
 by_cases h4 : ¬ Sorts (l.map Cla.dfn)
 ·rw [if_pos h4] at hc; simp at hc
 rw [if_neg h4] at hc
 have hs : Sorts (l.map Cla.dfn) := Classical.not_not.1 h4
 have h1 := firstI_none l.length (by simpa using h3)
 have h2 := firstI_none l.length hc
 have hz : ∀ i, i < l'.length -> claErr s l' i = 0 /\ claLarge l' i = 0 := by
  intro i hi
  obtain ⟨j, hj, e⟩ := List.getElem_of_mem (hp.mem_iff.1 (List.getElem_mem hi))
  have g1 := h1 j hj
  have g2 := h2 j hj
  have hf : findAt l' l'[i].name = some i := by
   unfold findAt
   rw [List.findIdx?_eq_some_iff_getElem]
   refine ⟨hi, by simp, fun k hk => ?_⟩
   simp only [decide_eq_true_eq]
   intro e2
   have := hu'.at (Nat.lt_trans hk hi) hi e2
   omega
  constructor
  ·unfold claErr at g1 ⊢
   rw [getD_cla hj] at g1
   rw [getD_cla hi, hf, <- e, nodes_perm hp h, backsErr_perm hp h]
   by_cases c1 : clauseB l[j] = false
   ·rw [if_pos c1] at g1; simp at g1
   rw [if_neg c1] at g1
   rw [if_neg c1, if_neg (by simp)]
   by_cases c2 : (findAt l l[j].name).getD 0 < j
   ·rw [if_pos c2] at g1; simp at g1
   rw [if_neg c2] at g1
   exact g1
  unfold claLarge at g2 ⊢
  rw [getD_cla hj] at g2
  rw [getD_cla hi, <- e, expanded_perm hp h, backsLarge_perm hp h]
  exact g2
 unfold clausesErr
 rw [if_neg (by simp [hck.sch]), if_neg (by rw [hp.length_eq]; have := hck.len; omega), firstI_zero _ fun i hi => (hz i hi).1, if_neg (by simp), if_neg (by rw [Classical.not_not]; exact sorts_perm hp h hs), firstI_zero _ fun i hi => (hz i hi).2]
end
theorem someB_any (V : Ex -> Bool) (k : Int) (neg : Bool) : (l : List Cla) -> someB V k neg l = l.any fun x => x.kind == k && (claV V x != neg)
 | [] => rfl
 | x :: r => by rw [someB, List.any_cons, someB_any V k neg r]
theorem any_perm {l l' : List Cla} (hp : l'.Perm l) (p : Cla -> Bool) : l'.any p = l.any p := by
 rw [Bool.eq_iff_iff, List.any_eq_true, List.any_eq_true]
 exact ⟨fun ⟨x, hx, h⟩ => ⟨x, hp.mem_iff.1 hx, h⟩, fun ⟨x, hx, h⟩ => ⟨x, hp.mem_iff.2 hx, h⟩⟩
theorem vdB_perm (V : Ex -> Bool) {l l' : List Cla} (hp : l'.Perm l) (ha : ∀ x ∈ l, x.kind = 5 -> 1 <= x.amount) : vdB V l' = vdB V l := by
 have e1 : limK V l' = limK V l := by
  unfold limK
  refine hp.foldl_eq' (fun x hx y hy z => ?_) _
  have h1 := ha x (hp.mem_iff.1 hx)
  have h2 := ha y (hp.mem_iff.1 hy)
  unfold limS
  cases claV V x <;> cases claV V y <;> by_cases k1 : x.kind = 5 <;> by_cases k2 : y.kind = 5 <;> simp [k1, k2]
  have h3 := h1 k1
  have h4 := h2 k2
  by_cases a1 : z < 0 <;> by_cases a2 : x.amount < z <;> by_cases a3 : y.amount < z <;> by_cases a4 : y.amount < x.amount <;> by_cases a5 : x.amount < y.amount <;> by_cases a6 : x.amount < 0 <;> by_cases a7 : y.amount < 0 <;> simp [a1, a2, a3, a4, a5, a6, a7] <;> omega
 have e2 : ∀ k, greatK V k l' = greatK V k l := fun k => by
  unfold greatK
  refine hp.foldl_eq' (fun x _ y _ z => ?_) _
  unfold greatS
  split <;> split <;> omega
 unfold vdB
 rw [e1, e2, e2, e2]
 simp only [someB_any, any_perm hp]
theorem dec_perm {s : List Attr} {l l' : List Cla} {f : ZI} (hp : l'.Perm l) (hc : (clausesErr s l).2 = 0) (hf : factsB s f = true) (ha : ∀ x ∈ l, x.kind = 5 -> 1 <= x.amount) : decErr s l' f = 0 /\ decD s l' f = decD s l f := by
 have hu := uni_of (chk_of hc)
 obtain ⟨a0, a1⟩ := dec_same hc hf
 obtain ⟨b0, b1⟩ := dec_same (clas_perm hp hu hc) hf
 exact ⟨b0, by rw [b1, a1, val_perm hp hu, vdB_perm _ hp ha]⟩
theorem amount_of {s : List Attr} {l : List Cla} (hc : (clausesErr s l).2 = 0) : ∀ x ∈ l, x.kind = 5 -> 1 <= x.amount := by
 intro x hx h5
 obtain ⟨i, hi, rfl⟩ := List.getElem_of_mem hx
 have hck := chk_of hc
 unfold clausesErr at hc
 rw [if_neg (by simp [hck.sch]), if_neg (by have := hck.len; omega)] at hc
 by_cases h3 : (firstI (claErr s l) l.length).2 ≠ 0
 ·rw [if_pos h3] at hc; exact absurd hc h3
 have g := firstI_none l.length (by simpa using h3) i hi
 unfold claErr at g
 rw [getD_cla hi] at g
 by_cases c1 : clauseB l[i] = false
 ·rw [if_pos c1] at g; simp at g
 simp only [Bool.not_eq_false] at c1
 unfold clauseB at c1
 simp only [Bool.and_eq_true, Bool.or_eq_true, decide_eq_true_eq, h5] at c1
 have := c1.2
 simp [mostOf] at this
 exact this.1
def IB (P : ZN) : Obj := .cells (P.map (fun (x : Nat) => Value.int .i64 x)).toArray 3 (0, 0)
theorem made_zero (n : Nat) : Obj.cells (madeCells (Value.int .i64 0).cells (n * 1)) 3 (0, 0) = IB (List.replicate n 0) := by
 unfold IB
 congr 1
 apply Array.ext
 ·simp [madeCells]
 intro i h1 h2
 simp [madeCells, Value.cells, Nat.mod_one]
theorem IB_cell {w : World} {g k : Nat} {P : ZN} (h : w.heap[g]? = some (IB P)) (hk : k < P.length) : w.cell? ⟨g, k, none⟩ = some (.int .i64 (P[k] : Nat)) := by
 rw [blk_cell h]; simp [hk]
theorem IB_free {w : World} {g : Nat} {P : ZN} (h : w.heap[g]? = some (IB P)) (k : Nat) : w.frozen? ⟨g, k, none⟩ = false := blk_free h k
theorem IB_set {w : World} {g : Nat} {P : ZN} (h : w.heap[g]? = some (IB P)) (k q : Nat) : (w.setCell ⟨g, k, none⟩ (.int .i64 (q : Nat))).heap[g]? = some (IB (P.set k q)) := by
 rw [heap_setCell_same _ _ _ _ _ _ h]
 unfold IB
 rw [List.map_set, List.setIfInBounds_toArray]
theorem set_perm : (T : ZN) -> (k : Nat) -> (h : k < T.length) -> (a : Nat) -> (T.set k a ++ [T[k]]).Perm (T ++ [a])
 | y :: r, 0, _, a => by
  simp only [List.set_cons_zero, List.getElem_cons_zero]
  exact (List.perm_append_singleton y (a :: r)).trans ((List.Perm.swap a y r).trans (List.perm_append_singleton a (y :: r)).symm)
 | y :: r, k + 1, h, a => by
  simp only [List.set_cons_succ, List.getElem_cons_succ, List.cons_append]
  exact (set_perm r k (by simpa using h) a).cons y
theorem swap_perm {P : ZN} {i k : Nat} (hi : i < P.length) (hk : k <= i) (h : (P.take i).Perm (List.range i)) : (((P.set i (P[k]'(by omega))).set k i).take (i + 1)).Perm (List.range (i + 1)) := by
 rw [List.range_succ]
 refine List.Perm.trans ?_ (h.append_right [i])
 rw [List.take_succ_eq_append_getElem (by simpa using hi)]
 by_cases e : k = i
 ·subst e
  rw [List.getElem_set_self, List.take_set_of_le (Nat.le_refl _), List.take_set_of_le (Nat.le_refl _)]
 have hT : k < (P.take i).length := by simp; omega
 have h2 := set_perm (P.take i) k hT i
 rw [List.getElem_set_ne (by omega), List.getElem_set_self, List.take_set, List.take_set_of_le (Nat.le_refl _)]
 rwa [List.getElem_take] at h2
def OrdrQ (w0 : World) (bd n : Nat) (w : World) (e : Ending) (w' : World) : Prop := ∃ (P : ZN) (g : Nat), e = .returned (.slice (some ⟨g, 0, none⟩) n n) /\ P.Perm (List.range n) /\ w'.heap[g]? = some (IB P) /\ w.heap.size <= g /\ DeckAt w0 w' bd /\ Chg [bd] w w'
def OrdrL (w0 : World) (bd n g : Nat) (w : World) (v : Value) (wr : World) : Prop := ∃ (k : Nat) (P : ZN), v = .int .i64 k /\ k <= n /\ P.length = n /\ (P.take k).Perm (List.range k) /\ wr.heap[g]? = some (IB P) /\ DeckAt w0 wr bd /\ Chg [bd] w wr
theorem order_made {w0 w : World} {bd : Nat} (hd : DeckAt w0 w bd) (n : Nat) (hn : n <= 1000) :
  Calls Tryz.prog 18 #[.pointer (some ⟨bd, 0, none⟩), .int .i64 (n : Nat)] w (OrdrQ w0 bd n w) := by
 have hbw := hd.lt
 have hx0 : w0.heap.size <= w.heap.size := by obtain ⟨_, _, _, _, _, _, _, _, hxw, _⟩ := hd; exact hxw.size
 obtain ⟨Z, hZ⟩ : ∃ Z, Z = (List.replicate n 0 : ZN) := ⟨_, rfl⟩
 have hZc : Obj.cells (madeCells (Value.int .i64 0).cells (n * 1)) 3 (0, 0) = IB Z := by rw [hZ]; exact made_zero n
 have hmk : ∀ W, Sem.run Tryz.prog (Instr.makeSlice 26 (.int .i64 (n : Int)) (.int .i64 (n : Int))) W = .ok (.slice (some ⟨W.heap.size, 0, none⟩) n n) (W.alloc (IB Z)) := fun W => by rw [<- hZc]; exact run_make1 elemInts W n (by omega) (by omega)
 obtain ⟨g, hg⟩ : ∃ g, g = w.heap.size := ⟨_, rfl⟩
 obtain ⟨wa, hwa⟩ : ∃ wa, wa = w.alloc (IB Z) := ⟨_, rfl⟩
 have HX := hI (show Ext w wa by rw [hwa]; exact (Ext.refl _).alloc _)
 have HG := hI (show wa.heap[g]? = some (IB Z) by rw [hwa, hg]; exact alloc_new w _)
 have HD := hI (hd.ext HX.out)
 have HZ := hI hZ
 have HLT := hI (show bd < g /\ g = w.heap.size /\ w0.heap.size <= g by omega)
 clear hZ hZc hd hbw hx0
 go_enter Tryz.func18, Tryz.ntmps18
 go_upto_region 2 with fail
 rw [<- hwa, <- hg]
 clear hwa hg hmk
 go_wp2_with fail
 go_loopw [6] (OrdrL w0 bd n g w) (fun v _ => n - (intOf v).toNat)
 case atStart => exact ⟨0, Z, rfl, Nat.zero_le _, by rw [HZ.out]; simp, by simp, HG.out, HD.out, HX.out.chg _⟩
 case round =>
  obtain ⟨k, P, rfl, hk, hl, hp, hb, hd, hc⟩ := hrel
  obtain ⟨wo, rfl⟩ : ∃ wo : World, wo = wr := ⟨_, rfl⟩
  have HL := hI hl
  have HP := hI hp
  have HB := hI hb
  have HDK := hI hd
  have HC := hI hc
  clear hl hp hb hd hc HG HD HX
  by_cases hkn : k < n
  ·have t1 : decide ((k : Int) < (n : Int)) = true := decide_eq_true (by omega)
   go_wp2_with fail
   refine (next_calls HDK.out ((k : Int) + 1) (by omega) (by omega)).mono ?_
   rintro e w2 ⟨z, rfl, hz0, hz1, hd2, hc2⟩
   obtain ⟨q, rfl⟩ : ∃ q : Nat, z = q := ⟨z.toNat, by omega⟩
   have HQ := hI (show q <= k by omega)
   have HB2 := hI (hc2.blk HB.out (by have := HLT.out; simp; omega))
   have HD2 := hI hd2
   have HC2 := hI (HC.out.then hc2)
   clear hd2 hc2
   have d0 := IB_cell HB2.out (show q < P.length by have := HL.out; have := HQ.out; omega)
   have df := IB_free HB2.out
   have d1 := IB_cell HB2.out (show k < P.length by have := HL.out; omega)
   have b0 : (0 : Int) <= (q : Int) := by omega
   have b1 : (q : Int) < (n : Int) := by omega
   have b2 : (0 : Int) <= (k : Int) := by omega
   have b3 : (k : Int) < (n : Int) := by omega
   obtain ⟨x, hx⟩ : ∃ x, x = P[q]'(by have := HL.out; omega) := ⟨_, rfl⟩
   rw [<- hx] at d0
   have HXQ := hI hx
   clear hx
   have hb3 := IB_set HB2.out k x
   have e0 := IB_cell hb3 (show q < (P.set k x).length by simp; have := HL.out; omega)
   have ef := IB_free hb3
   have hb4 := IB_set hb3 q k
   have HB4 := hI hb4
   clear hb3 hb4
   obtain ⟨w4, hw4⟩ : ∃ w4, w4 = (w2.setCell ⟨g, k, none⟩ (.int .i64 (x : Int))).setCell ⟨g, q, none⟩ (.int .i64 (k : Int)) := ⟨_, rfl⟩
   have HC4 := hI (show Chg [g] w2 w4 by rw [hw4]; exact ((Chg.refl _ _).setCell (Or.inl (by simp)) _).setCell (Or.inl (by simp)) _)
   go_upto_region 4 with fail
   rw [<- hw4] at HB4 ⊢
   clear hw4 d0 df d1 e0 ef b0 hz0
   go_wp2_with fail
   go_roundw
   case rel =>
    refine ⟨k + 1, (P.set k x).set q k, by go_num, by omega, by simp; exact HL.out, ?_, HB4.out, HD2.out.chg HC4.out (by have := HLT.out; simp; omega) (fun y hy => by simp only [List.mem_singleton] at hy; have := HLT.out; omega), HC2.out.trans HC4.out (fun y hy => Or.inr (by simp only [List.mem_singleton] at hy; have := HLT.out; omega))⟩
    rw [HXQ.out]
    exact swap_perm (by have := HL.out; omega) HQ.out HP.out
   case measure => simp [intOf]; omega
  have t1 : decide ((k : Int) < (n : Int)) = false := decide_eq_false (by omega)
  go_wp2_with fail
  go_ret
  refine ⟨P, g, rfl, ?_, HB.out, by have := HLT.out; omega, HDK.out, HC.out⟩
  have := HP.out
  rwa [show k = n by omega, List.take_of_length_le (by have := HL.out; omega)] at this
open Go.RowKit Go.Maps
def ErB (base : Nat) (W W' : World) : Prop := ∃ N, Chg N W W' /\ ∀ k ∈ N, base <= k
theorem ErB.refl (base : Nat) (W : World) : ErB base W W := ⟨[], Chg.refl _ _, fun k hk => by simp at hk⟩
theorem ErB.of {base : Nat} {W W' : World} (h : Ext W W') : ErB base W W' := ⟨[], h.chg [], fun k hk => by simp at hk⟩
theorem ErB.ext {w W W' : World} (h : Ext w W) (he : ErB w.heap.size W W') : Ext w W' := by
 obtain ⟨N, hc, hN⟩ := he
 exact hc.ext h hN
theorem win_chg {w : World} {N : ZN} {p : Addr} {v : Value} (h : w.cell? p = some v) (hp : p.block ∉ N) : ∀ τ : WIn (Chg N w), τ.1.cell? p = some v := fun τ => τ.2.cell h hp
def inOrd (l : List Cla) (P : ZN) : List Cla := P.map fun j => l.getD j cla0
theorem inOrd_perm {l : List Cla} {P : ZN} (h : P.Perm (List.range l.length)) : (inOrd l P).Perm l := by
 have e : inOrd l (List.range l.length) = l := by
  unfold inOrd
  refine List.ext_getElem (by simp) fun i h1 h2 => ?_
  simp [h2]
 have := h.map fun j => l.getD j cla0
 unfold inOrd at e ⊢
 rw [e] at this
 exact this
theorem ord_clas {w W : World} {base n : Nat} {a : OA} {c : Nat} {l : List Cla} {vs : List ClV} (ho : W.ownsRow base 48 10 (.slice a n c) n (vs.flatMap ClV.cells)) (hR : ClasR w l vs) (hn : n = l.length) (hx : Ext w W) : IsClas W l a n c := by
 subst hn
 obtain ⟨a', c', e, h⟩ := clas_owns (M := []) ho (by simp) (hR.mono (hx.sub.trans (to_mask_nil _)))
 simp only [Value.slice.injEq, true_and] at e
 obtain ⟨rfl, rfl⟩ := e
 exact h.mono (mask_sub _ _)
def DOrL (w5 w6 : World) (l : List Cla) (P : ZN) (n : Nat) (v i : Value) (wr : World) : Prop := ∃ (k : Nat) (vs : List ClV), i = .int .i64 k /\ k <= n /\ ClasR w5 (inOrd l (P.take k)) vs /\ wr.ownsRow w6.heap.size 48 10 v k (vs.flatMap ClV.cells) /\ Ext w6 wr
theorem dorder_calls (da : OA) (dn dc : Nat) (ma : OA) (mn mc : Nat) (w : World) (h1 : IntsAt w da dn) (hdn : dn <= 1000000000000000) (h2 : IntsAt w ma mn) (hmn : mn <= 1000000000000000) (ho : HasOps w) :
  Calls Tryz.prog 4 #[.slice da dn dc, .slice ma mn mc] w (GivesE (.bool true) w) := by
 have HAW := hI (fun W (hW : Ext w W) => awake12_calls W (ho.ext hW))
 have HO := hI ho
 have HMA := hI (made12_calls da dn dc w h1 hdn)
 have HIM := hI (And.intro h2 hmn)
 clear h1 h2 ho
 go_enter Tryz.func4, Tryz.ntmps4
 go_wp2_with fail
 refine HMA.out.mono ?_
 rintro r w1 ⟨s, l, f, ⟨sa, sn, sc, la, ln, lc, fa, fn, fc⟩, bd0, rfl, hiw, -, hx1⟩
 have hiw1 := hiw.mono (mask_sub _ _)
 obtain ⟨vs, hrows, hvl, hvc⟩ := hiw1.clas
 have hone := hiw1.one
 obtain ⟨lb, lo, hla, -⟩ := hrows.2.2.2 0 (by omega)
 dsimp only at hla hrows
 subst hla
 have HIW := hI hiw1
 have HX1 := hI hx1
 have hlen := hiw1.len
 have hln : ln = vs.length := hrows.1
 have HLN := hI (show l.length = ln from hvl.trans hln.symm)
 have HN1 := hI (show 1 <= ln /\ ln <= 10 by omega)
 clear hiw hiw1 hrows hvl hvc hx1 HMA hone hlen hln
 unfold W12.val
 go_upto_region 2 with fail
 obtain ⟨bw, hbw⟩ : ∃ bw : Nat, bw = w1.heap.size := ⟨_, rfl⟩
 obtain ⟨w5, hw5⟩ : ∃ w5, w5 = w1.alloc (.cells #[.slice sa sn sc, .slice (some ⟨lb, lo, none⟩) ln lc, .slice fa fn fc] 34) := ⟨_, rfl⟩
 have hx5 : Ext w1 w5 := by rw [hw5]; exact (Ext.refl _).alloc _
 have HW5 := hI (show w5.heap[bw]? = some (.cells #[.slice sa sn sc, .slice (some ⟨lb, lo, none⟩) ln lc, .slice fa fn fc] 34 (0, 0)) by rw [hw5, hbw]; exact alloc_new w1 _)
 have HX5 := hI hx5
 rw [<- hw5, <- hbw]
 clear hw5 hbw hx5
 obtain ⟨c0, c1, c2, cf⟩ := blk3 HW5.out
 have C0 := win_cell c0
 have C1 := win_cell c1
 have C2 := win_cell c2
 have HI5 := hI (HIW.out.mono HX5.out.sub)
 have HM5 := hI (show IntsAt w5 ma mn /\ mn <= 1000000000000000 from ⟨fun i hi => by obtain ⟨b, off, q, e, hc⟩ := HIM.out.1 i hi; exact ⟨b, off, q, e, (HX1.out.trans HX5.out).cell hc⟩, HIM.out.2⟩)
 go_upto_region 3 with fail
 refine chn_start (m := 7) (Er := ErB w5.heap.size) (C := Ext w5) (Φ := fun _ => True) (ErB.refl _) (fun _ _ h => ErB.of h) (fun _ _ h q => ErB.ext h q) (Ext.refl w5).drew trivial (fun _ _ _ h => h) ?_
 repeat (refine chn_plain ?_; intro K hK; go_big_quiet_op; go_big_quiet_on)
 refine chn_call (γ := Nat) (fun g => .pointer (some ⟨g, 0, none⟩)) (fun g W => DeckAt w5 W g) (fun W hW _ _ => ?_) (fun g W W' hx h => h.ext hx) ?_ ⟨0⟩
 ·unfold GivesOp; go_simp
  refine (new_callsB ma mn mc w5 W HM5.out.1 hW HM5.out.2).mono ?_
  rintro e wz ⟨g, rfl, hd, hx, _⟩
  exact ⟨_, rfl, ErB.of hx, g, rfl, hd⟩
 intro bd K hK; go_simp; go_big_quiet_on
 repeat (refine chn_plain ?_; intro K hK; go_big_quiet_op; go_big_quiet_on)
 refine chn_call (γ := ZN × Nat) (fun x => .slice (some ⟨x.2, 0, none⟩) ln ln) (fun x W => x.1.Perm (List.range ln) /\ W.heap[x.2]? = some (IB x.1) /\ w5.heap.size <= x.2) (fun W hW h _ => ?_) (fun x W W' hx h => ⟨h.1, hx.blk h.2.1, h.2.2⟩) ?_ ⟨([], 0)⟩
 ·unfold GivesOp; go_simp
  refine (order_made h ln (by have := HN1.out; omega)).mono ?_
  rintro e wz ⟨P, g, rfl, q1, q2, q3, q4, q5⟩
  obtain ⟨_, _, _, _, _, _, _, _, _, hlo⟩ := h
  exact ⟨_, rfl, ⟨[bd], q5, fun k hk => by rw [List.mem_singleton.1 hk]; exact hlo⟩, (P, g), rfl, q1, q2, Nat.le_trans hW.size q3⟩
 rintro ⟨P, g⟩ K hK; go_simp; go_big_quiet_on
 repeat (refine chn_plain ?_; intro K hK; go_big_quiet_op; go_big_quiet_on)
 refine chn_nil fun w6 hx hy _ => ?_
 have HX6 := hI hx
 have HPP := hI hy.1
 have HGB := hI hy.2.1
 have HGL := hI hy.2.2
 clear hx hy c0 c1 c2 cf C0 C1 C2 HM5 HIM
 go_wp2_with fail
 go_loopw [7, 9] (DOrL w5 w6 l P ln) (fun _ i _ => ln - (intOf i).toNat)
 case atStart => exact ⟨0, [], rfl, Nat.zero_le _, ⟨rfl, fun i h => by simp [inOrd] at h⟩, World.ownsRow_nil _ _ _ _, Ext.refl _⟩
 case round =>
  obtain ⟨k, vs, rfl, hk, hcr, hown, hx⟩ := hrel
  obtain ⟨va, vc, rfl⟩ := owns_formG hown
  obtain ⟨wo, rfl⟩ : ∃ wo : World, wo = wr := ⟨_, rfl⟩
  have HCR := hI hcr
  have HOW := hI hown
  have HX := hI hx
  clear hcr hown hx
  have hl10 := HN1.out.2
  by_cases hkn : k < ln
  ·have t1 : decide ((k : Int) < (ln : Int)) = true := decide_eq_true (by omega)
   have hPl : P.length = ln := by rw [HPP.out.length_eq, List.length_range]
   obtain ⟨q, hq⟩ : ∃ q, q = P[k]'(by omega) := ⟨_, rfl⟩
   have hqn : q < ln := by
    have := HPP.out.mem_iff.1 (List.getElem_mem (show k < P.length by omega))
    rw [<- hq] at this
    exact List.mem_range.1 this
   have hql : q < l.length := by have := HLN.out; omega
   obtain ⟨cb, coff, v, e, hcla, hrow⟩ := HI5.out.clas.at hql
   simp only [Option.some.injEq, Addr.mk.injEq, and_true] at e
   obtain ⟨rfl, rfl⟩ := e
   have hbig : lb < w5.heap.size := block_lt (hrow.ten).1
   obtain ⟨N, hN⟩ : ∃ N, N = rowOf (.slice va k vc) := ⟨_, rfl⟩
   have HNN := hI (show ∀ y ∈ N, w6.heap.size <= y /\ y < wo.heap.size from fun y hy => by rw [hN] at hy; exact HOW.out.lt y (mem_rowOf.1 hy))
   have HNE := hI hN
   have hno : ∀ y, y < w6.heap.size -> y ∉ N := fun y hy hm => by have := (HNN.out y hm).1; omega
   have h56 := HX6.out.size
   obtain ⟨d0, d1, d2, d3, d4, d5, d6, d7, d8, d9⟩ := (hrow.mono (HX6.out.trans HX.out).sub).ten
   have D0 := win_chg (N := N) d0 (hno _ (by show lb < _; omega))
   have D1 := win_chg (N := N) d1 (hno _ (by show lb < _; omega))
   have D2 := win_chg (N := N) d2 (hno _ (by show lb < _; omega))
   have D3 := win_chg (N := N) d3 (hno _ (by show lb < _; omega))
   have D4 := win_chg (N := N) d4 (hno _ (by show lb < _; omega))
   have D5 := win_chg (N := N) d5 (hno _ (by show lb < _; omega))
   have D6 := win_chg (N := N) d6 (hno _ (by show lb < _; omega))
   have D7 := win_chg (N := N) d7 (hno _ (by show lb < _; omega))
   have D8 := win_chg (N := N) d8 (hno _ (by show lb < _; omega))
   have D9 := win_chg (N := N) d9 (hno _ (by show lb < _; omega))
   obtain ⟨c0, c1, c2, cf⟩ := blk3 ((HX6.out.trans HX.out).blk HW5.out)
   have C1 := win_chg (N := N) c1 (hno _ (by have := blk_lt HW5.out; show bw < _; omega))
   have p0 := IB_cell (HX.out.blk HGB.out) (show k < P.length by omega)
   rw [<- hq] at p0
   have P0 := win_chg (N := N) p0 (hno _ (by have := blk_lt HGB.out; show g < _; omega))
   have b0 : (0 : Int) <= (k : Int) := by omega
   have b2 : (0 : Int) <= (q : Int) := by omega
   have b3 : (q : Int) < (ln : Int) := by omega
   have b1 : (k : Int) < (ln : Int) := by omega
   have HCL := hI hcla
   have HTS := hI (show inOrd l (P.take (k + 1)) = inOrd l (P.take k) ++ [l[q]] by
    unfold inOrd
    rw [List.take_succ_eq_append_getElem (by omega), List.map_append, List.map_singleton, <- hq, getD_cla hql])
   have HVL := hI (show vs.length = k by
    have h1 := HCR.out.1
    unfold inOrd at h1
    simp at h1
    omega)
   have HPL := hI hPl
   clear hcla hrow hN hno h56 d0 d1 d2 d3 d4 d5 d6 d7 d8 d9 c0 c1 c2 cf p0 hq hPl hbig hqn
   go_upto_region 7 with fail
   refine chn_chg 11 N (fun W => W.ownsRow w6.heap.size 48 10 (.slice va k vc) k (vs.flatMap ClV.cells)) (owns_chg HOW.out ((Ext.refl wo).drew.chg []) (by simp)) (fun _ _ hx h => owns_chg h (hx.chg []) (by simp)) ?_
   repeat (refine chn_plain ?_; intro K hK; go_big_quiet_op; go_big_quiet_on)
   refine chn_new (fun g => .slice (some ⟨g, 0, none⟩) 1 1) (fun g W => W.heap[g]? = some (.cells v.cells.toArray 48 (0, 0)) /\ g ∉ N) (fun W hW => ?_) (fun g W W' h q => ⟨h.blk q.1 q.2, q.2⟩) ?_
   ·unfold GivesOp; go_simp
    exact ⟨(Ext.refl W).alloc _, W.heap.size, rfl, alloc_new W _, fun hm => by have := (HNN.out _ hm).2; have := hW.size; omega⟩
   intro g2 K hK; go_simp; go_big_quiet_on
   refine chn_call (γ := Nat × Nat) (fun x => .slice (some ⟨x.1, 0, none⟩) (k + 1) x.2) (fun x W => W.ownsRow w6.heap.size 48 10 (.slice (some ⟨x.1, 0, none⟩) (k + 1) x.2) (k + 1) ((vs ++ [v]).flatMap ClV.cells)) (fun W hW ho hF => ?_) (fun x W W' hx h => owns_chg h (hx.chg []) (by simp)) ?_ ⟨(0, 0)⟩
   ·refine gives_append elemCla _ _ w6.heap.size (.slice va k vc) k _ rfl g2 1 1 v.cells rfl rfl (by simpa using cla_one [v]) (by omega) (by omega) (by omega) ho (fun j hj => by rw [blk_cell hF.2.1]; simp) (by have := HX.out.size; have := hW.size; omega) ?_
    intro g cap w' ho' hg _ _
    exact ⟨by rw [HNE.out]; exact grown_chg hg, (g, cap), rfl, by simpa using ho'⟩
   rintro ⟨g3, q3⟩ K hK; go_simp; go_big_quiet_on
   refine chn_tail fun w7 hx hy _ => ?_
   have HX7 := hI (hx.ext HX.out (fun y hy => (HNN.out y hy).1))
   have HOW7 := hI hy
   clear hx hy D0 D1 D2 D3 D4 D5 D6 D7 D8 D9 C1 P0 b0 b1 b2 b3
   go_wp2_with fail
   go_roundw
   case rel => exact ⟨k + 1, vs ++ [v], by go_num, by omega, by rw [HTS.out]; exact ClasR.snoc HCR.out HCL.out, HOW7.out, HX7.out⟩
   case measure => simp [intOf]; omega
  have t1 : decide ((k : Int) < (ln : Int)) = false := decide_eq_false (by omega)
  have hPl : P.length = ln := by rw [HPP.out.length_eq, List.length_range]
  have hkl : k = ln := by omega
  have HLE := hI (show (inOrd l P).Perm l from inOrd_perm (by rw [HLN.out]; exact HPP.out))
  have hcr := HCR.out
  rw [List.take_of_length_le (by omega)] at hcr
  have hX5 := HX6.out.trans HX.out
  have hic := ord_clas HOW.out hcr (by rw [HLE.out.length_eq, HLN.out, hkl]) hX5
  have HXW := hI ((HX1.out.trans HX5.out).trans hX5)
  have HIO := hI (HI5.out.mono hX5.sub)
  have HOO := hI (HO.out.ext HXW.out)
  have HWO := hI (hX5.blk HW5.out)
  obtain ⟨P0, P1⟩ := dec_perm (f := f) HLE.out HIO.out.cls HIO.out.fac (amount_of HIO.out.cls)
  obtain ⟨P2, -⟩ := dec_same HIO.out.cls HIO.out.fac
  have HT0 := hI (decide_calls s l f (.agg #[.slice sa sn sc]) (some ⟨lb, lo, none⟩) ln lc fa fn fc wo HIO.out.sch (attrs_fits HIO.out.mem) (by have := (schema_attrs (schema_zero HIO.out.mem)).2.1; omega) HIO.out.clas (by have := HN1.out; omega) HIO.out.cfit HIO.out.ints (by have h1 : fn = f.length := HIO.out.ints.1; rw [h1, factsAll_len HIO.out.facts]; have := (schemas_ok s HIO.out.mem).2.2; omega) HOO.out)
  have HT1 := hI (fun W (hW : Ext wo W) => decide_calls s (inOrd l P) f (.agg #[.slice sa sn sc]) va k vc fa fn fc W (HIO.out.sch.ext hW) (attrs_fits HIO.out.mem) (by have := (schema_attrs (schema_zero HIO.out.mem)).2.1; omega) (hic.ext hW) (by have := HN1.out; omega) (fun x hx => HIO.out.cfit x (HLE.out.mem_iff.1 hx)) (HIO.out.ints.ext hW) (by have h1 : fn = f.length := HIO.out.ints.1; rw [h1, factsAll_len HIO.out.facts]; have := (schemas_ok s HIO.out.mem).2.2; omega) (HOO.out.ext hW))
  unfold decV at HT0 HT1
  rw [P2] at HT0
  simp only [P0, P1] at HT1
  obtain ⟨A, hA⟩ : ∃ A, A = decD s l f := ⟨_, rfl⟩
  rw [<- hA] at HT0
  simp only [<- hA] at HT1
  clear hA P0 P1 P2 HIO HOO hic hcr HOW HCR HX hkl hPl hX5 HPP HGB HGL HX6 HI5 HX1 HX5 HW5
  obtain ⟨a1, a2, a3, a4, a5, a6⟩ := A
  unfold Dec.cells at HT0 HT1
  dsimp only at HT0 HT1
  obtain ⟨c0, c1, c2, cf⟩ := blk3 HWO.out
  go_wp2_with fail
  refine HT0.out.mono ?_
  rintro r wa ⟨rfl, hxa⟩
  go_upto_region 9 with fail
  obtain ⟨w10, hw10⟩ : ∃ w10, w10 = wa.alloc (.cells #[.int .i64 a1, .int .i64 a2, .int .i64 a3, .int .i64 a4, .int .i64 a5, .bool a6] 29) := ⟨_, rfl⟩
  have hxb : Ext wa w10 := by rw [hw10]; exact (Ext.refl _).alloc _
  obtain ⟨p0, hp0⟩ : ∃ p0 : Nat, p0 = wa.heap.size := ⟨_, rfl⟩
  have HP0 := hI (show w10.heap[p0]? = some (.cells #[.int .i64 a1, .int .i64 a2, .int .i64 a3, .int .i64 a4, .int .i64 a5, .bool a6] 29 (0, 0)) by rw [hw10, hp0]; exact alloc_new wa _)
  rw [<- hw10, <- hp0]
  have HX10 := hI (show Ext wo w10 from hxa.trans hxb)
  clear hw10 hp0 hxa hxb c0 c1 c2 cf HT0
  obtain ⟨c0, c1, c2, cf⟩ := blk3 (HX10.out.blk HWO.out)
  go_wp2_with fail
  refine (HT1.out w10 HX10.out).mono ?_
  rintro r wb ⟨rfl, hxa⟩
  go_upto_region 10 with fail
  obtain ⟨w11, hw11⟩ : ∃ w11, w11 = wb.alloc (.cells #[.int .i64 a1, .int .i64 a2, .int .i64 a3, .int .i64 a4, .int .i64 a5, .bool a6] 29) := ⟨_, rfl⟩
  have hxb : Ext wb w11 := by rw [hw11]; exact (Ext.refl _).alloc _
  obtain ⟨p1, hp1⟩ : ∃ p1 : Nat, p1 = wb.heap.size := ⟨_, rfl⟩
  have HP1 := hI (show w11.heap[p1]? = some (.cells #[.int .i64 a1, .int .i64 a2, .int .i64 a3, .int .i64 a4, .int .i64 a5, .bool a6] 29 (0, 0)) by rw [hw11, hp1]; exact alloc_new wb _)
  rw [<- hw11, <- hp1]
  have HXZ := hI (HXW.out.trans (HX10.out.trans (hxa.trans hxb)))
  have HP2 := hI ((hxa.trans hxb).blk HP0.out)
  clear hw11 hp1 hxa hxb c0 c1 c2 cf HT1 HP0
  obtain ⟨r0, r1, r2, r3, r4, r5, rf⟩ := blk6d HP2.out
  obtain ⟨q0, q1, q2, q3, q4, q5, qf⟩ := blk6d HP1.out
  go_wp2_with fail
  refine (HAW.out w11 HXZ.out).mono ?_
  rintro r w17 ⟨rfl, hx17⟩
  have HXY := hI (HXZ.out.trans hx17)
  clear hx17
  go_wp2_with fail
  go_ret
  exact givesE_bool (by simp) HXY.out
end Go.Proofs.YtefjomofjejklaaGreatDoor
