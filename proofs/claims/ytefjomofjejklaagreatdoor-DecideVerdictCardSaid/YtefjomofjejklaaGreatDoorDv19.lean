/-
  Texts of the claim, joined: Ch, Ch2, Ch3, RVer.
-/
import Derived.Test.YtefjomofjejklaaGreatDoorDv18
namespace Go.Proofs.YtefjomofjejklaaGreatDoor
set_option maxRecDepth 100000
set_option maxHeartbeats 32000000
open Go.RowKit
def noCall (o : Oper) : Bool := match o.op with
 | .call c => (match c.callee with | .builtin .len => true | .builtin .cap => true | .builtin .min => true | .builtin .max => true | _ => false)
 | .move _ | .assign _ | .pick .. | .build .. | .load .. | .binOp .. | .unOp .. | .convert .. | .makeInterface .. | .slice .. | .fieldAddr .. | .field .. | .indexAddr .. | .index .. | .lookup .. | .typeAssert .. | .extract .. | .alloc .. | .box .. | .buildSlice .. | .makeSlice .. | .makeMap .. | .makeFunc .. => true
 | _ => false
theorem no_enter_v (s : Sem Value) (P : Program) (W : World) (f : FuncId) (args : Array Value) (W' : World) : (do pure (.value (<- s)) : Sem Next).run P W ≠ .ok (.enter f args) W' := by
 rw [Sem.run_bind]
 cases s.run P W <;> simp [Result.andThen, Sem.run_pure]
theorem no_enter_m (v : Value) (P : Program) (W : World) (f : FuncId) (args : Array Value) (W' : World) : (pure (.value v) : Sem Next).run P W ≠ .ok (.enter f args) W' := by
 simp [Sem.run_pure]
theorem noCall_enter {o : Oper} (h : noCall o = true) (ρ : Operand -> Value) (P : Program) (W : World) (f : FuncId) (args : Array Value) (W' : World) : (execOp ρ o).run P W ≠ .ok (.enter f args) W' := by
 unfold noCall at h
 unfold execOp
 split at h
 ·rename_i c ho
  simp only [ho]
  split at h
  all_goals first
   | (cases h; done)
   | (rename_i hc; simp only [resolve, hc, Sem.run_bind, Sem.run_pure, Result.andThen, invoke, builtin]; generalize (Sem.run P _ W) = r; cases r <;> simp)
 all_goals first
  | (cases h; done)
  | (rename_i ho; simp only [ho]; exact no_enter_v _ _ _ _ _ _)
  | (rename_i ho; simp only [ho]; exact no_enter_m _ _ _ _ _ _)
  | (rename_i ho; simp only [ho]; rw [Sem.run_bind]; generalize (Sem.run P _ W) = r; cases r <;> simp [Result.andThen, Sem.run_pure])
def WIn (C : World -> Prop) := {W : World // C W}
def Det (P : Program) (ops : Array Oper) (o : Oper) (A : Act) (W : World) (v : Value) (W' : World) : Prop :=
 (Region.wanted o (yielded ops A.tmps) = true /\ ((execOp A.eval o).run P W = .ok (.value v) W' \/ ((execOp A.eval o).run P W = .ok .skip W' /\ v = undef))) \/
 (Region.wanted o (yielded ops A.tmps) = false /\ v = undef /\ W' = W)
theorem Det.same {P : Program} {ops : Array Oper} {o : Oper} {A : Act} {W : World} {v v2 : Value} {W' W2 : World} (h : Det P ops o A W v W') (k : Det P ops o A W v2 W2) : v = v2 /\ W' = W2 := by
 unfold Det at h k
 rcases h with ⟨h1, h2⟩ | ⟨h1, h2, h3⟩ <;> rcases k with ⟨k1, k2⟩ | ⟨k1, k2, k3⟩
 ·rcases h2 with h2 | ⟨h2, h4⟩ <;> rcases k2 with k2 | ⟨k2, k4⟩ <;> rw [h2] at k2 <;> cases k2
  ·exact ⟨rfl, rfl⟩
  exact ⟨by rw [h4, k4], rfl⟩
 ·rw [h1] at k1; cases k1
 ·rw [h1] at k1; cases k1
 exact ⟨by rw [h2, k2], by rw [h3, k3]⟩
def Outs (P : Program) (ops : Array Oper) (o : Oper) (A : Act) (W : World) (T : Value -> World -> Prop) : Prop :=
 if Region.wanted o (yielded ops A.tmps) = true then GivesOp P o A.eval W T else T undef W
theorem Det.outs {P : Program} {ops : Array Oper} {o : Oper} {A : Act} {W : World} {v : Value} {W' : World} {T : Value -> World -> Prop} (h : Det P ops o A W v W') (ht : T v W') : Outs P ops o A W T := by
 unfold Outs
 rcases h with ⟨h1, h2⟩ | ⟨h1, h2, h3⟩
 ·rw [if_pos h1]
  unfold GivesOp
  rcases h2 with h2 | ⟨h2, h4⟩ <;> rw [h2]
  ·exact ht
  rw [h4] at ht; exact ht
 rw [h1, if_neg (by simp), <- h2, <- h3]; exact ht
theorem GivesOp.mono {P : Program} {o : Oper} {ρ : Operand -> Value} {W : World} {T T' : Value -> World -> Prop} (h : GivesOp P o ρ W T) (ht : ∀ v W', T v W' -> T' v W') : GivesOp P o ρ W T' := by
 unfold GivesOp at *
 split at h
 ·exact ht _ _ h
 ·exact ht _ _ h
 ·refine Calls.mono h (fun e w'' he => ?_)
  obtain ⟨v, hv, hk⟩ := he
  exact ⟨v, hv, ht _ _ hk⟩
 exact h
theorem Outs.mono {P : Program} {ops : Array Oper} {o : Oper} {A : Act} {W : World} {T T' : Value -> World -> Prop} (h : Outs P ops o A W T) (ht : ∀ v W', T v W' -> T' v W') : Outs P ops o A W T' := by
 unfold Outs at *
 split
 ·rename_i hw; rw [if_pos hw] at h; exact h.mono ht
 rename_i hw; rw [if_neg hw] at h; exact ht _ _ h
def okCh (ops : Array Oper) (m : Nat) : Bool :=
 Region.noSelect ops && decide (m <= ops.size) &&
 ((List.range ops.size).all fun i => (List.range ops.size).all fun j => i == j || dstAt ops i == none || dstAt ops i != dstAt ops j) &&
 ((List.range ops.size).all fun i => match ops[i]? with
  | none => false
  | some o => (o.after.all fun e => !Region.binds .any e || decide (e.on < i)) &&
   (decide (m <= i) || (List.range m).all fun j => match dstAt ops j with
    | none => true
    | some t => !(o.looksAt ops).contains t || o.after.any (fun e => Region.binds .any e && e.on == j)) &&
   (decide (i < m) || (List.range i).all fun j => o.after.any (fun e => Region.binds .any e && e.on == j)))
theorem okCh_spec {ops : Array Oper} {m : Nat} (h : okCh ops m = true) : Region.noSelect ops = true /\ m <= ops.size /\ DstApart ops /\
  (∀ i o, ops[i]? = some o -> (∀ e ∈ o.after, Region.binds .any e = true -> e.on < i) /\ (i < m -> ∀ j t, j < m -> dstAt ops j = some t -> t ∈ o.looksAt ops -> ∃ e ∈ o.after, Region.binds .any e = true /\ e.on = j) /\
   (m <= i -> ∀ j, j < i -> ∃ e ∈ o.after, Region.binds .any e = true /\ e.on = j)) := by
 simp only [okCh, Bool.and_eq_true, decide_eq_true_eq] at h
 obtain ⟨⟨⟨h1, h2⟩, h4⟩, h5⟩ := h
 refine ⟨h1, h2, ?_, ?_⟩
 ·intro i j d hi hj
  have hlt : ∀ i, dstAt ops i = some d -> i < ops.size := fun i hi => by
   unfold dstAt at hi
   rcases Nat.lt_or_ge i ops.size with h | h
   ·exact h
   rw [Array.getElem?_eq_none h] at hi; simp at hi
  have := List.all_eq_true.1 (List.all_eq_true.1 h4 i (by simpa using hlt i hi)) j (by simpa using hlt j hj)
  simpa [hi, hj] using this
 intro i o ho
 have h6 := List.all_eq_true.1 h5 i (by simpa using (Array.getElem?_eq_some_iff.1 ho).1)
 simp only [ho, Bool.and_eq_true] at h6
 obtain ⟨⟨g2, g3⟩, g4⟩ := h6
 have hany : ∀ j, o.after.any (fun e => Region.binds .any e && e.on == j) = true -> ∃ e ∈ o.after, Region.binds .any e = true /\ e.on = j := fun j h => by
  obtain ⟨e, he, hb⟩ := Array.any_eq_true'.1 h
  simp only [Bool.and_eq_true, beq_iff_eq] at hb
  exact ⟨e, he, hb.1, hb.2⟩
 refine ⟨fun e he hb => ?_, fun hm j t hjm hj ht => ?_, fun hm j hj => ?_⟩
 ·have := Array.all_eq_true_iff_forall_mem.1 g2 e he
  rw [hb] at this
  simpa using this
 ·rcases Bool.or_eq_true_iff.1 g3 with g | g
  ·simp only [decide_eq_true_eq] at g; omega
  have := List.all_eq_true.1 g j (by simpa using hjm)
  rw [hj] at this
  simp only [Bool.or_eq_true, Bool.not_eq_true'] at this
  rcases this with h | h
  ·rw [List.contains_iff_mem.2 ht] at h; cases h
  exact hany j h
 rcases Bool.or_eq_true_iff.1 g4 with g | g
 ·simp only [decide_eq_true_eq] at g; omega
 exact hany j (List.all_eq_true.1 g j (by simpa using hj))
def Clsd (ops : Array Oper) (L : ZN) : Prop := ∀ i ∈ L, ∀ o, ops[i]? = some o -> ∀ e ∈ o.after, Region.binds .any e = true -> e.on ∈ L
section
variable {P : Program} {ops : Array Oper} {Q : Exit -> Act -> World -> Prop} {a : Act} {m : Nat}
theorem wpAny_tail (hok : okCh ops m = true) : ∀ (r i fuel : Nat) (listed : Array Bool) (a : Act) (w : World), m <= i -> i + r = ops.size -> r <= fuel -> listed.size = ops.size -> (∀ j, j < ops.size -> (listed.getD j true = true ↔ j < i)) -> wpList P ops Q (ops.toList.drop i) a w -> wpAny P .any ops Q fuel listed a w := by
 obtain ⟨-, -, -, hspec⟩ := okCh_spec hok
 intro r
 induction r with
 | zero =>
  intro i fuel listed a w hmi hir hf hsz hL h
  rw [List.drop_eq_nil_of_le (by simp; omega)] at h
  refine wpAny_done ?_ h fuel
  rw [List.eq_nil_iff_forall_not_mem]
  intro j hj
  obtain ⟨h0, o, ho, _⟩ := mem_ready.1 hj
  have := (hL j (Array.getElem?_eq_some_iff.1 ho).1).2 (by have := (Array.getElem?_eq_some_iff.1 ho).1; omega)
  rw [this] at h0; cases h0
 | succ r ih =>
  intro i fuel listed a w hmi hir hf hsz hL h
  obtain ⟨fuel, rfl⟩ : ∃ f, fuel = f + 1 := ⟨fuel - 1, by omega⟩
  have his : i < ops.size := by omega
  have hget : ∀ j, j < i -> listed.getD j false = true := fun j hj => by
   have := (hL j (by omega)).2 hj
   have hin : j < listed.size := by omega
   simpa [Array.getD, hin] using this
  have hrdy : i ∈ Region.ready .any ops listed := by
   rw [mem_ready]
   refine ⟨?_, ops[i], Array.getElem?_eq_getElem his, fun e he hb => hget _ ((hspec i _ (Array.getElem?_eq_getElem his)).1 e he hb)⟩
   cases hx : listed.getD i true
   ·rfl
   have := (hL i his).1 hx; omega
  refine ⟨fun hr => by rw [hr] at hrdy; simp at hrdy, fun j hj => ?_⟩
  obtain ⟨h0, o, ho, hdep⟩ := mem_ready.1 hj
  have hjs := (Array.getElem?_eq_some_iff.1 ho).1
  have hge : ¬ j < i := fun hlt => by rw [(hL j hjs).2 hlt] at h0; cases h0
  have hji : j = i := by
   rcases Nat.lt_or_ge i j with hlt | hle
   ·obtain ⟨e, he, hb, rfl⟩ := (hspec j o ho).2.2 (by omega) i hlt
    have h1 := hdep e he hb
    have hin : e.on < listed.size := by omega
    have h2 : listed.getD e.on true = true := by simpa [Array.getD, hin] using h1
    have := (hL _ his).1 h2
    omega
   omega
  subst hji
  have hd : ops.toList.drop j = o :: ops.toList.drop (j + 1) := by
   rw [List.drop_eq_getElem_cons (by simpa using hjs)]
   congr 1
   have := (Array.getElem?_eq_some_iff.1 ho).2
   simpa using this
  rw [hd] at h
  have hnext : ∀ a' w', wpList P ops Q (ops.toList.drop (j + 1)) a' w' -> wpAny P .any ops Q fuel (listed.setIfInBounds j true) a' w' := fun a' w' h' => by
   refine ih (j + 1) fuel _ a' w' (by omega) (by omega) (by omega) (by simpa using hsz) (fun q hq => ?_) h'
   by_cases hjq : j = q
   ·subst hjq; simp [hsz, hjs]
   rw [getD_set_ne true hjq, hL q hq]; omega
  unfold wpOp
  simp only [ho]
  unfold wpList at h
  split
  ·rename_i hw; rw [if_pos hw] at h; exact h.imp (Oper.wp_mono hnext) id
  rename_i hw; rw [if_neg hw] at h; exact hnext _ _ h
theorem wpAny_core (G : ZN -> (Nat -> Value) -> World -> Prop) (hok : okCh ops m = true)
  (hstep : ∀ i o, i < m -> ops[i]? = some o -> ∀ L vs W, i ∉ L -> (∀ j ∈ L, j < m) -> Clsd ops L -> (∀ e ∈ o.after, Region.binds .any e = true -> e.on ∈ L) -> G L vs W -> Outs P ops o (acts ops a vs L) W (fun v W' => G (L ++ [i]) (upd vs i v) W'))
  (hend : ∀ L vs W, (∀ j, j < m -> j ∈ L) -> G L vs W -> wpList P ops Q (ops.toList.drop m) (acts ops a vs (List.range m)) W) :
  ∀ (fuel : Nat) (L : ZN) (vs : Nat -> Value) (W : World) (listed : Array Bool), listed.size = ops.size -> (∀ j, j < ops.size -> (listed.getD j true = true ↔ j ∈ L)) -> L.Nodup -> (∀ j ∈ L, j < m) -> ((List.range ops.size).filter (fun j => !L.contains j)).length <= fuel -> Clsd ops L -> G L vs W ->
   wpAny P .any ops Q fuel listed (acts ops a vs L) W := by
 obtain ⟨hns, hm1, hda, hspec⟩ := okCh_spec hok
 -- all below m are done: the rest comes one after another
 have hfin : ∀ (fuel : Nat) (L : ZN) (vs : Nat -> Value) (W : World) (listed : Array Bool), listed.size = ops.size -> (∀ j, j < ops.size -> (listed.getD j true = true ↔ j ∈ L)) -> L.Nodup -> (∀ j ∈ L, j < m) -> (∀ j, j < m -> j ∈ L) -> ((List.range ops.size).filter (fun j => !L.contains j)).length <= fuel -> G L vs W -> wpAny P .any ops Q fuel listed (acts ops a vs L) W := by
  intro fuel L vs W listed hsz hL hnd hLm hcov hlen hE
  have hmem : ∀ j, j ∈ L ↔ j < m := fun j => ⟨hLm j, hcov j⟩
  rw [acts_perm hda (L' := List.range m) ((List.perm_ext_iff_of_nodup hnd List.nodup_range).2 (fun j => by rw [hmem j, List.mem_range]))]
  refine wpAny_tail hok (ops.size - m) m fuel listed _ _ (Nat.le_refl _) (by omega) ?_ hsz (fun j hj => by rw [hL j hj, hmem]) (hend L vs W hcov hE)
  refine Nat.le_trans ?_ hlen
  have h1 : (List.range' m (ops.size - m)).Sublist ((List.range ops.size).filter (fun j => !L.contains j)) := by
   have h2 : (List.range' m (ops.size - m)) = (List.range' m (ops.size - m)).filter (fun j => !L.contains j) := by
    rw [List.filter_eq_self.2]
    intro j hj
    have := List.mem_range'_1.1 hj
    simp only [List.contains_eq_mem, Bool.not_eq_true', decide_eq_false_iff_not, hmem]
    omega
   rw [h2]
   refine List.Sublist.filter _ ?_
   rw [List.range_eq_range']
   have : List.range' 0 ops.size = List.range' 0 m ++ List.range' m (ops.size - m) := by
    have := @List.range'_append 0 m (ops.size - m) 1
    simp only [Nat.one_mul, Nat.zero_add] at this
    rw [this]
    congr 1
    omega
   rw [this]
   exact List.sublist_append_right _ _
  have := h1.length_le
  simpa using this
 intro fuel
 induction fuel with
 | zero =>
  intro L vs W listed hsz hL hnd hLm hlen hcl hE
  refine hfin 0 L vs W listed hsz hL hnd hLm (fun j hj => ?_) hlen hE
  have h0 := List.eq_nil_of_length_eq_zero (Nat.le_zero.1 hlen)
  have : j ∉ (List.range ops.size).filter (fun j => !L.contains j) := by rw [h0]; simp
  have hjs : j < ops.size := by omega
  simpa [hjs] using this
 | succ fuel ih =>
  intro L vs W listed hsz hL hnd hLm hlen hcl hE
  by_cases hcov : ∀ j, j < m -> j ∈ L
  ·exact hfin _ L vs W listed hsz hL hnd hLm hcov hlen hE
  -- the least that is not done is ready
  obtain ⟨j0, hj0, hj1, hj2⟩ : ∃ j, j < m /\ j ∉ L /\ ∀ i, i < j -> i ∈ L := by
   have : ∃ j, j < m /\ j ∉ L := by simpa using hcov
   obtain ⟨j, hj, hn⟩ := this
   induction j using Nat.strongRecOn with
   | _ j ihj =>
    by_cases hx : ∀ i, i < j -> i ∈ L
    ·exact ⟨j, hj, hn, hx⟩
    have : ∃ i, i < j /\ i ∉ L := by simpa using hx
    obtain ⟨i, hi, hin⟩ := this
    exact ihj i hi (by omega) hin
  have hrdy : j0 ∈ Region.ready .any ops listed := by
   have hjs : j0 < ops.size := by omega
   rw [mem_ready]
   refine ⟨?_, ops[j0], Array.getElem?_eq_getElem hjs, fun e he hb => ?_⟩
   ·cases hx : listed.getD j0 true
    ·rfl
    exact absurd ((hL j0 hjs).1 hx) hj1
   have hlt := (hspec j0 _ (Array.getElem?_eq_getElem hjs)).1 e he hb
   have := (hL e.on (by omega)).2 (hj2 _ hlt)
   have hin : e.on < listed.size := by omega
   simpa [Array.getD, hin] using this
  refine ⟨fun hr => by rw [hr] at hrdy; simp at hrdy, fun i hi => ?_⟩
  obtain ⟨h0, o, ho, hdep⟩ := mem_ready.1 hi
  have his : i < ops.size := (Array.getElem?_eq_some_iff.1 ho).1
  have hiL : i ∉ L := fun h => by rw [(hL i his).2 h] at h0; cases h0
  have hdepL : ∀ e ∈ o.after, Region.binds .any e = true -> e.on ∈ L := fun e he hb => by
   have h1 := hdep e he hb
   have hlt := (hspec i o ho).1 e he hb
   have hin : e.on < listed.size := by rw [hsz]; omega
   exact (hL e.on (by omega)).1 (by simpa [Array.getD, hin] using h1)
  have him : i < m := by
   rcases Nat.lt_or_ge i m with h | h
   ·exact h
   obtain ⟨e, he, hb, rfl⟩ := (hspec i o ho).2.2 h j0 (by omega)
   exact absurd (hdepL e he hb) hj1
  have hcont : ∀ v W', G (L ++ [i]) (upd vs i v) W' -> wpAny P .any ops Q fuel (listed.setIfInBounds i true) ((acts ops a vs L).put o.dst v) W' := by
   intro v W' hE'
   have e1 : (acts ops a vs L).put o.dst v = acts ops a (upd vs i v) (L ++ [i]) := by
    rw [acts_snoc, acts_congr (vs := upd vs i v) (vs' := vs) (fun j hj => by unfold upd; rw [if_neg (fun e => hiL (by rw [<- e]; exact hj))])]
    simp [upd, dstAt, ho]
   rw [e1]
   refine ih (L ++ [i]) (upd vs i v) W' _ (by simpa using hsz) (fun j hj => ?_) ?_ ?_ ?_ ?_ hE'
   ·by_cases hij : i = j
    ·subst hij; simp [hsz, his]
    rw [getD_set_ne true hij, hL j hj]; simp; intro e; exact absurd e.symm hij
   ·rw [List.nodup_append]
    exact ⟨hnd, by simp, fun x hx y hy e => by simp at hy; subst hy; subst e; exact hiL hx⟩
   ·intro j hj
    rcases List.mem_append.1 hj with h | h
    ·exact hLm j h
    simp at h; omega
   ·have h1 : (List.range ops.size).filter (fun j => !(L ++ [i]).contains j) = ((List.range ops.size).filter (fun j => !L.contains j)).filter (fun j => j != i) := by
     rw [List.filter_filter]
     congr 1
     funext j
     simp only [List.contains_append, Bool.not_or]
     rw [Bool.and_comm]
     congr 1
     rw [Bool.eq_iff_iff]; simp [bne]
    have h2 : (((List.range ops.size).filter (fun j => !L.contains j)).filter (fun j => j != i)).length < ((List.range ops.size).filter (fun j => !L.contains j)).length := by
     rw [List.length_filter_lt_length_iff_exists]
     exact ⟨i, by simp [his, hiL], by simp⟩
    rw [h1]; omega
   intro j hj o' ho' e he hb
   rcases List.mem_append.1 hj with h | h
   ·exact List.mem_append_left _ (hcl j h o' ho' e he hb)
   simp at h; subst h
   rw [ho] at ho'
   cases ho'
   exact List.mem_append_left _ (hdepL e he hb)
  have hg := hstep i o him ho L vs W hiL hLm hcl hdepL hE
  unfold wpOp
  simp only [ho]
  unfold Outs at hg
  split
  ·rename_i hw
   rw [if_pos hw] at hg
   left
   refine Oper.wp_mono ?_ (hg.wp rfl)
   rintro a' W' ⟨v, rfl, hk⟩
   exact hcont v W' hk
  rename_i hw
  rw [if_neg hw] at hg
  exact hcont _ _ hg
end
inductive Tr : Type 1
 | done
 | plain (v : Value) (next : Tr)
 | later (v : Value) (next : Tr)
 | alloc (val : Nat -> Value) (F : Nat -> World -> Prop) (next : Nat -> Tr)
 | call (γ : Type) (val : γ -> Value) (Φ : γ -> World -> Prop) (next : γ -> Tr)
section
variable (P : Program) (ops : Array Oper) (Q : Exit -> Act -> World -> Prop) (m : Nat) (Er : World -> World -> Prop) (C : World -> Prop)
def Ok : Tr -> Nat -> Act -> (World -> Prop) -> (World -> Prop) -> ZN -> ZN -> Prop
 | .done, k, ac, Φ, FA, _, _ => k = m /\ ∀ W, C W -> Φ W -> FA W -> wpList P ops Q (ops.toList.drop m) ac W
 | .plain v next, k, ac, Φ, FA, gh, pf => k < m /\ (∃ o, ops[k]? = some o /\ ∀ W, C W -> Det P ops o ac W v W) /\ Ok next (k + 1) (ac.put (dstAt ops k) v) Φ FA gh pf
 | .later v next, k, ac, Φ, FA, gh, pf => k < m /\ gh.all (fun j => comesAfter ops m k j) = true /\ (∃ o, ops[k]? = some o /\ ∀ W, C W -> Φ W -> FA W -> Det P ops o ac W v W) /\ Ok next (k + 1) (ac.put (dstAt ops k) v) Φ FA gh (k :: pf)
 | .alloc val F next, k, ac, Φ, FA, gh, pf => k < m /\ (∃ o, ops[k]? = some o /\ ∀ W, C W -> ∃ g W', Det P ops o ac W (val g) W' /\ Ext W W' /\ F g W') /\ (∀ g W W', Er W W' -> F g W -> F g W') /\
   ∀ g, Ok (next g) (k + 1) (ac.put (dstAt ops k) (val g)) Φ (fun W => FA W /\ F g W) (k :: gh) pf
 | .call γ val Φ' next, k, ac, Φ, FA, gh, pf => k < m /\ gh.all (fun j => comesAfter ops m k j) = true /\ pf.all (fun j => comesAfter ops m k j) = true /\
   (∃ o, ops[k]? = some o /\ ∀ W, C W -> Φ W -> FA W -> Outs P ops o ac W (fun v W' => Er W W' /\ ∃ c, v = val c /\ Φ' c W')) /\ Nonempty γ /\ (∀ c W W', Ext W W' -> Φ' c W -> Φ' c W') /\
   ∀ c, Ok (next c) (k + 1) (ac.put (dstAt ops k) (val c)) (Φ' c) FA (k :: gh) pf
def Inv (L : ZN) (vs : Nat -> Value) (W : World) : Tr -> Bool -> Nat -> (World -> Prop) -> Prop
 | .done, b, _, Φ => b = true -> Φ W
 | .plain v next, b, k, Φ => (k ∈ L -> vs k = v) /\ Inv L vs W next b (k + 1) Φ
 | .later v next, b, k, Φ => (k ∈ L -> vs k = v) /\ Inv L vs W next b (k + 1) Φ
 | .alloc val F next, b, k, Φ => (k ∈ L /\ ∃ g, vs k = val g /\ F g W /\ Inv L vs W (next g) b (k + 1) Φ) \/ (k ∉ L /\ ∀ g, Inv L vs W (next g) b (k + 1) Φ)
 | .call _ val Φ' next, b, k, Φ => (b = true /\ k ∈ L /\ ∃ c, vs k = val c /\ Inv L vs W (next c) true (k + 1) (Φ' c)) \/ (k ∉ L /\ (b = true -> Φ W) /\ ∀ c, Inv L vs W (next c) false (k + 1) (Φ' c))
end
section
variable {P : Program} {ops : Array Oper} {Q : Exit -> Act -> World -> Prop} {m : Nat} {Er : World -> World -> Prop} {C : World -> Prop} {L : ZN} {vs : Nat -> Value} {W : World} {a : Act}
theorem Inv.start : ∀ (t : Tr) (b : Bool) (k : Nat) (Φ : World -> Prop), (b = true -> Φ W) -> Inv [] vs W t b k Φ := by
 intro t
 induction t with
 | done => intro b k Φ h; exact h
 | plain v next ih => intro b k Φ h; exact ⟨fun h => by simp at h, ih b _ _ h⟩
 | later v next ih => intro b k Φ h; exact ⟨fun h => by simp at h, ih b _ _ h⟩
 | alloc val F next ih => intro b k Φ h; exact Or.inr ⟨by simp, fun g => ih g b _ _ h⟩
 | call γ val Φ' next ih => intro b k Φ h; exact Or.inr ⟨by simp, h, fun c => ih c false _ _ (fun h => by cases h)⟩
theorem Inv.keep {i : Nat} {v : Value} {W' : World} (hE : Er W W') (hx : Ext W W') : ∀ (t : Tr) (b : Bool) (k : Nat) (ac : Act) (Φ FA : World -> Prop) (gh pf : ZN), Ok P ops Q m Er C t k ac Φ FA gh pf -> (∀ W W', Ext W W' -> Φ W -> Φ W') -> i < k -> Inv L vs W t b k Φ -> Inv (L ++ [i]) (upd vs i v) W' t b k Φ := by
 have hm : ∀ k, i < k -> (k ∈ L ++ [i] ↔ k ∈ L) := fun k hk => by simp; intro e; omega
 have hu : ∀ k, i < k -> upd vs i v k = vs k := fun k hk => by unfold upd; rw [if_neg (by omega)]
 intro t
 induction t with
 | done => intro b k ac Φ FA gh pf _ hs _ h hb; exact hs _ _ hx (h hb)
 | plain u next ih =>
  intro b k ac Φ FA gh pf hok hs hi h
  refine ⟨fun hk => ?_, ih _ _ _ _ _ _ _ hok.2.2 hs (by omega) h.2⟩
  rw [hu k hi]; exact h.1 ((hm k hi).1 hk)
 | later u next ih =>
  intro b k ac Φ FA gh pf hok hs hi h
  refine ⟨fun hk => ?_, ih _ _ _ _ _ _ _ hok.2.2.2 hs (by omega) h.2⟩
  rw [hu k hi]; exact h.1 ((hm k hi).1 hk)
 | alloc val F next ih =>
  intro b k ac Φ FA gh pf hok hs hi h
  rcases h with ⟨hk, g, hv, hF, h⟩ | ⟨hk, h⟩
  ·exact Or.inl ⟨(hm k hi).2 hk, g, by rw [hu k hi]; exact hv, hok.2.2.1 g _ _ hE hF, ih g _ _ _ _ _ _ _ (hok.2.2.2 g) hs (by omega) h⟩
  exact Or.inr ⟨fun h' => hk ((hm k hi).1 h'), fun g => ih g _ _ _ _ _ _ _ (hok.2.2.2 g) hs (by omega) (h g)⟩
 | call γ val Φ' next ih =>
  intro b k ac Φ FA gh pf hok hs hi h
  obtain ⟨-, -, -, -, -, hst, hn⟩ := hok
  rcases h with ⟨hb, hk, c, hv, h⟩ | ⟨hk, hp, h⟩
  ·exact Or.inl ⟨hb, (hm k hi).2 hk, c, by rw [hu k hi]; exact hv, ih c _ _ _ _ _ _ _ (hn c) (hst c) (by omega) h⟩
  exact Or.inr ⟨fun h' => hk ((hm k hi).1 h'), fun hb => hs _ _ hx (hp hb), fun c => ih c _ _ _ _ _ _ _ (hn c) (hst c) (by omega) (h c)⟩
theorem Inv.after {i : Nat} {v : Value} {W' : World} (hE : Er W W') : ∀ (t : Tr) (b : Bool) (k : Nat) (ac : Act) (Φ FA : World -> Prop) (gh pf : ZN), Ok P ops Q m Er C t k ac Φ FA gh pf -> (b = true -> Φ W') -> i < k -> Inv L vs W t false k Φ -> Inv (L ++ [i]) (upd vs i v) W' t b k Φ := by
 have hm : ∀ k, i < k -> (k ∈ L ++ [i] ↔ k ∈ L) := fun k hk => by simp; intro e; omega
 have hu : ∀ k, i < k -> upd vs i v k = vs k := fun k hk => by unfold upd; rw [if_neg (by omega)]
 intro t
 induction t with
 | done => intro b k ac Φ FA gh pf _ hp _ h hb; exact hp hb
 | plain u next ih =>
  intro b k ac Φ FA gh pf hok hp hi h
  refine ⟨fun hk => ?_, ih _ _ _ _ _ _ _ hok.2.2 hp (by omega) h.2⟩
  rw [hu k hi]; exact h.1 ((hm k hi).1 hk)
 | later u next ih =>
  intro b k ac Φ FA gh pf hok hp hi h
  refine ⟨fun hk => ?_, ih _ _ _ _ _ _ _ hok.2.2.2 hp (by omega) h.2⟩
  rw [hu k hi]; exact h.1 ((hm k hi).1 hk)
 | alloc val F next ih =>
  intro b k ac Φ FA gh pf hok hp hi h
  rcases h with ⟨hk, g, hv, hF, h⟩ | ⟨hk, h⟩
  ·exact Or.inl ⟨(hm k hi).2 hk, g, by rw [hu k hi]; exact hv, hok.2.2.1 g _ _ hE hF, ih g _ _ _ _ _ _ _ (hok.2.2.2 g) hp (by omega) h⟩
  exact Or.inr ⟨fun h' => hk ((hm k hi).1 h'), fun g => ih g _ _ _ _ _ _ _ (hok.2.2.2 g) hp (by omega) (h g)⟩
 | call γ val Φ' next ih =>
  intro b k ac Φ FA gh pf hok hp hi h
  obtain ⟨-, -, -, -, -, hst, hn⟩ := hok
  rcases h with ⟨hb, -⟩ | ⟨hk, -, h⟩
  ·cases hb
  exact Or.inr ⟨fun h' => hk ((hm k hi).1 h'), hp, fun c => ih c _ _ _ _ _ _ _ (hn c) (fun h => by cases h) (by omega) (h c)⟩
theorem Inv.front {i : Nat} (hcl : Clsd ops L) (hi : i ∉ L) : ∀ (t : Tr) (k : Nat) (ac : Act) (Φ FA : World -> Prop) (gh pf : ZN), Ok P ops Q m Er C t k ac Φ FA gh pf -> i ∈ pf -> Inv L vs W t true k Φ -> Φ W := by
 intro t
 induction t with
 | done => intro k ac Φ FA gh pf _ _ h; exact h rfl
 | plain u next ih => intro k ac Φ FA gh pf hok hp h; exact ih _ _ _ _ _ _ hok.2.2 hp h.2
 | later u next ih => intro k ac Φ FA gh pf hok hp h; exact ih _ _ _ _ _ _ hok.2.2.2 (List.mem_cons_of_mem _ hp) h.2
 | alloc val F next ih =>
  intro k ac Φ FA gh pf hok hp h
  rcases h with ⟨hk, g, hv, hF, h⟩ | ⟨hk, h⟩
  ·exact ih g _ _ _ _ _ _ (hok.2.2.2 g) hp h
  exact ih 0 _ _ _ _ _ _ (hok.2.2.2 0) hp (h 0)
 | call γ val Φ' next ih =>
  intro k ac Φ FA gh pf hok hp h
  rcases h with ⟨-, hk, -⟩ | ⟨-, hp, -⟩
  ·exact absurd (comesAfter_mem hcl m k i hk (List.all_eq_true.1 hok.2.2.1 i hp)) hi
  exact hp rfl
def Agr (ops : Array Oper) (a : Act) (L : ZN) (vs : Nat -> Value) (k : Nat) (ac : Act) : Prop :=
 ac.tmps.size = a.tmps.size /\ ∀ t, (∀ j, j < k -> j ∈ L -> dstAt ops j = some t -> ac.eval (.tmp t) = if t < a.tmps.size then vs j else undef) /\ ((∀ j, j < k -> dstAt ops j ≠ some t) -> ac.eval (.tmp t) = a.eval (.tmp t))
theorem Agr.step (hda : DstApart ops) {k : Nat} {ac : Act} (h : Agr ops a L vs k ac) {v : Value} (hv : k ∈ L -> vs k = v) : Agr ops a L vs (k + 1) (ac.put (dstAt ops k) v) := by
 refine ⟨by rw [put_size]; exact h.1, fun t => ⟨fun j hj hjL ht => ?_, fun hn => ?_⟩⟩
 ·by_cases hjk : j = k
  ·subst hjk
   rw [ht, put_eval_same, h.1, hv hjL]
  rw [Act.eval_put (fun d hd e => by injection e with e; subst e; exact hjk (hda _ _ _ ht hd))]
  exact (h.2 t).1 j (by omega) hjL ht
 rw [Act.eval_put (fun d hd e => by injection e with e; subst e; exact hn k (by omega) hd)]
 exact (h.2 t).2 fun j hj => hn j (by omega)
theorem wanted_congr {o : Oper} {A B : Act} (hs : A.tmps.size = B.tmps.size) (h : ∀ t ∈ o.looksAt ops, A.eval (.tmp t) = B.eval (.tmp t)) : Region.wanted o (yielded ops A.tmps) = Region.wanted o (yielded ops B.tmps) := by
 unfold Region.wanted
 cases hg : o.guard with
 | none => rfl
 | some gw =>
  obtain ⟨j, b⟩ := gw
  have : yielded ops A.tmps j = yielded ops B.tmps j := by
   unfold yielded
   cases hd : (ops[j]?).bind (·.dst) with
   | none => rfl
   | some t =>
    have hl := h t (by unfold Oper.looksAt; rw [hg]; simp [hd])
    simp only [Act.eval] at hl
    rcases Nat.lt_or_ge t A.tmps.size with hlt | hge
    ·have hlt2 := hs ▸ hlt
     simp only [Array.getD_eq_getD_getElem?, Array.getElem?_eq_getElem hlt, Array.getElem?_eq_getElem hlt2, Option.getD_some] at hl
     simp only [Option.bind_some, Array.getElem?_eq_getElem hlt, Array.getElem?_eq_getElem hlt2, hl]
    simp only [Option.bind_some, Array.getElem?_eq_none hge, Array.getElem?_eq_none (hs ▸ hge)]
  simp only [this]
theorem ok_step (hok : okCh ops m = true) (hR : ∀ W, Er W W) (hXE : ∀ W W', Ext W W' -> Er W W') {i : Nat} {o : Oper} (hi : i < m) (ho : ops[i]? = some o) (hiL : i ∉ L) (hLm : ∀ j ∈ L, j < m) (hcl : Clsd ops L) (hrd : ∀ e ∈ o.after, Region.binds .any e = true -> e.on ∈ L) (hC : C W) :
  ∀ (t : Tr) (b : Bool) (k : Nat) (ac : Act) (Φ FA : World -> Prop) (gh pf : ZN), Ok P ops Q m Er C t k ac Φ FA gh pf -> (∀ W W', Ext W W' -> Φ W -> Φ W') -> Inv L vs W t b k Φ -> Agr ops a L vs k ac -> ((∀ j ∈ gh, j ∈ L) -> FA W) -> k <= i -> (b = false -> ∃ j ∈ gh, j ∉ L) ->
   (∃ v W', Det P ops o (acts ops a vs L) W v W' /\ Ext W W' /\ Inv (L ++ [i]) (upd vs i v) W' t b k Φ) \/
   (b = true /\ (∀ j ∈ gh, j ∈ L) /\ Outs P ops o (acts ops a vs L) W (fun v W' => Er W W' /\ Inv (L ++ [i]) (upd vs i v) W' t b k Φ)) := by
 obtain ⟨hns, hm1, hda, hspec⟩ := okCh_spec hok
 have hanc : ∀ j, comesAfter ops m i j = true -> j ∈ L := fun j h => comesAfter_ready hcl ho hrd m j h
 have hm' : ∀ k, k < i -> (k ∈ L ++ [i] ↔ k ∈ L) := fun k hk => by simp; intro e; omega
 have hu : ∀ v k, k < i -> upd vs i v k = vs k := fun v k hk => by unfold upd; rw [if_neg (by omega)]
 have hui : ∀ v, upd vs i v i = v := fun v => by simp [upd]
 -- what the walk's frame shows of operation i is what the run's frame shows
 have hsee : ∀ ac, Agr ops a L vs i ac -> (∀ W v W', Det P ops o ac W v W' -> Det P ops o (acts ops a vs L) W v W') /\ (∀ W T, Outs P ops o ac W T -> Outs P ops o (acts ops a vs L) W T) := by
  intro ac hag
  have hev : ∀ t ∈ o.looksAt ops, ac.eval (.tmp t) = (acts ops a vs L).eval (.tmp t) := by
   intro t ht
   by_cases hex : ∃ j, j < m /\ dstAt ops j = some t
   ·obtain ⟨j, hjm, hj⟩ := hex
    obtain ⟨e, he, hb, rfl⟩ := (hspec i o ho).2.1 hi j t hjm hj ht
    have hjL := hrd e he hb
    have hlt := (hspec i o ho).1 e he hb
    rw [acts_eval_in hda hjL hj]
    exact (hag.2 t).1 _ hlt hjL hj
   have h1 : ∀ j, j < m -> dstAt ops j ≠ some t := fun j hjm hj => hex ⟨j, hjm, hj⟩
   rw [acts_eval_out (fun j hjL => h1 j (hLm j hjL)), (hag.2 t).2 (fun j hj => h1 j (by omega))]
  have hexe : execOp ac.eval o = execOp (acts ops a vs L).eval o := by
   refine execOp_congr o (Region.noSelect_spec hns i o · · ho) (fun x hx => ?_)
   cases x with
   | tmp t => exact hev t (List.mem_append_left _ (List.mem_filterMap.2 ⟨.tmp t, by simpa using hx, rfl⟩))
   | const v => rfl
   | global g => rfl
   | func f => rfl
  have hw := wanted_congr (ops := ops) (o := o) (A := ac) (B := acts ops a vs L) (by rw [acts_size]; exact hag.1) hev
  exact ⟨fun W v W' h => by unfold Det at *; rw [<- hexe, <- hw]; exact h, fun W T h => by unfold Outs GivesOp at *; rw [<- hexe, <- hw]; exact h⟩
 intro t
 induction t with
 | done => intro b k ac Φ FA gh pf hok; have := hok.1; intro _ _ _ _ hk; omega
 | plain v next ih =>
  intro b k ac Φ FA gh pf hok hs hinv hag hFA hki hb
  obtain ⟨hkm, ⟨ok, hok1, hdet⟩, hnx⟩ := hok
  by_cases hk : k = i
  ·subst hk
   rw [ho] at hok1; cases hok1
   exact Or.inl ⟨v, W, (hsee ac hag).1 _ _ _ (hdet W hC), Ext.refl W, fun _ => hui v, Inv.keep (hR W) (Ext.refl W) next b _ _ _ _ _ _ hnx hs (by omega) hinv.2⟩
  rcases ih b (k + 1) _ Φ FA gh pf hnx hs hinv.2 (hag.step hda hinv.1) hFA (by omega) hb with ⟨u, W', h1, h2, h3⟩ | ⟨h1, h2, h3⟩
  ·exact Or.inl ⟨u, W', h1, h2, fun h => by rw [hu u k (by omega)]; exact hinv.1 ((hm' k (by omega)).1 h), h3⟩
  exact Or.inr ⟨h1, h2, h3.mono fun u W' ⟨q1, q2⟩ => ⟨q1, fun h => by rw [hu u k (by omega)]; exact hinv.1 ((hm' k (by omega)).1 h), q2⟩⟩
 | later v next ih =>
  intro b k ac Φ FA gh pf hok hs hinv hag hFA hki hb
  obtain ⟨hkm, hgh, ⟨ok, hok1, hdet⟩, hnx⟩ := hok
  by_cases hk : k = i
  ·subst hk
   rw [ho] at hok1; cases hok1
   have hghL : ∀ j ∈ gh, j ∈ L := fun j hj => hanc j (List.all_eq_true.1 hgh j hj)
   have hbt : b = true := by
    cases b
    ·obtain ⟨j, hj, hjL⟩ := hb rfl
     exact absurd (hghL j hj) hjL
    rfl
   subst hbt
   have hΦ := Inv.front (Q := Q) (C := C) (P := P) (Er := Er) hcl hiL next (k + 1) _ _ _ _ _ hnx (by simp) hinv.2
   exact Or.inl ⟨v, W, (hsee ac hag).1 _ _ _ (hdet W hC hΦ (hFA hghL)), Ext.refl W, fun _ => hui v, Inv.keep (hR W) (Ext.refl W) next _ _ _ _ _ _ _ hnx hs (by omega) hinv.2⟩
  rcases ih b (k + 1) _ Φ FA gh _ hnx hs hinv.2 (hag.step hda hinv.1) hFA (by omega) hb with ⟨u, W', h1, h2, h3⟩ | ⟨h1, h2, h3⟩
  ·exact Or.inl ⟨u, W', h1, h2, fun h => by rw [hu u k (by omega)]; exact hinv.1 ((hm' k (by omega)).1 h), h3⟩
  exact Or.inr ⟨h1, h2, h3.mono fun u W' ⟨q1, q2⟩ => ⟨q1, fun h => by rw [hu u k (by omega)]; exact hinv.1 ((hm' k (by omega)).1 h), q2⟩⟩
 | alloc val F next ih =>
  intro b k ac Φ FA gh pf hok hs hinv hag hFA hki hb
  obtain ⟨hkm, ⟨ok, hok1, hdet⟩, hst, hnx⟩ := hok
  by_cases hk : k = i
  ·subst hk
   rw [ho] at hok1; cases hok1
   rcases hinv with ⟨hkL, -⟩ | ⟨-, hinv⟩
   ·exact absurd hkL hiL
   obtain ⟨g, W', hd, hx, hF⟩ := hdet W hC
   exact Or.inl ⟨val g, W', (hsee ac hag).1 _ _ _ hd, hx, Or.inl ⟨by simp, g, hui _, hF, Inv.keep (hXE _ _ hx) hx (next g) b _ _ _ _ _ _ (hnx g) hs (by omega) (hinv g)⟩⟩
  rcases hinv with ⟨hkL, g, hv, hF, hinv⟩ | ⟨hkL, hinv⟩
  ·rcases ih g b (k + 1) _ Φ _ _ pf (hnx g) hs hinv (hag.step hda (fun _ => hv)) (fun h => ⟨hFA fun j hj => h j (List.mem_cons_of_mem _ hj), hF⟩) (by omega) (fun h => by obtain ⟨j, hj, hjL⟩ := hb h; exact ⟨j, List.mem_cons_of_mem _ hj, hjL⟩) with ⟨u, W', h1, h2, h3⟩ | ⟨h1, h2, h3⟩
   ·exact Or.inl ⟨u, W', h1, h2, Or.inl ⟨(hm' k (by omega)).2 hkL, g, by rw [hu u k (by omega)]; exact hv, hst g _ _ (hXE _ _ h2) hF, h3⟩⟩
   exact Or.inr ⟨h1, fun j hj => h2 j (List.mem_cons_of_mem _ hj), h3.mono fun u W' ⟨q1, q2⟩ => ⟨q1, Or.inl ⟨(hm' k (by omega)).2 hkL, g, by rw [hu u k (by omega)]; exact hv, hst g _ _ q1 hF, q2⟩⟩⟩
  have hall : ∀ g, ∃ v W', Det P ops o (acts ops a vs L) W v W' /\ Ext W W' /\ Inv (L ++ [i]) (upd vs i v) W' (next g) b (k + 1) Φ := fun g => by
   rcases ih g b (k + 1) _ Φ _ _ pf (hnx g) hs (hinv g) (hag.step hda (fun h => absurd h hkL)) (fun h => absurd (h k (by simp)) hkL) (by omega) (fun h => ⟨k, by simp, hkL⟩) with h | ⟨-, h2, -⟩
   ·exact h
   exact absurd (h2 k (by simp)) hkL
  obtain ⟨u, W', h1, h2, -⟩ := hall 0
  refine Or.inl ⟨u, W', h1, h2, Or.inr ⟨fun h => hkL ((hm' k (by omega)).1 h), fun g => ?_⟩⟩
  obtain ⟨u2, W2, k1, -, k3⟩ := hall g
  obtain ⟨rfl, rfl⟩ := h1.same k1
  exact k3
 | call γ val Φ' next ih =>
  intro b k ac Φ FA gh pf hok hs hinv hag hFA hki hb
  obtain ⟨hkm, hgh, hpf, ⟨ok, hok1, hout⟩, hne, hst, hnx⟩ := hok
  by_cases hk : k = i
  ·subst hk
   rw [ho] at hok1; cases hok1
   have hghL : ∀ j ∈ gh, j ∈ L := fun j hj => hanc j (List.all_eq_true.1 hgh j hj)
   have hbt : b = true := by
    cases b
    ·obtain ⟨j, hj, hjL⟩ := hb rfl
     exact absurd (hghL j hj) hjL
    rfl
   subst hbt
   rcases hinv with ⟨-, hkL, -⟩ | ⟨-, hΦ, hinv⟩
   ·exact absurd hkL hiL
   refine Or.inr ⟨rfl, hghL, ((hsee ac hag).2 _ _ (hout W hC (hΦ rfl) (hFA hghL))).mono ?_⟩
   rintro v W' ⟨hE, c, rfl, hΦ'⟩
   exact ⟨hE, Or.inl ⟨rfl, by simp, c, hui _, Inv.after hE (next c) true _ _ _ _ _ _ (hnx c) (fun _ => hΦ') (by omega) (hinv c)⟩⟩
  rcases hinv with ⟨hbt, hkL, c, hv, hinv⟩ | ⟨hkL, hp, hinv⟩
  ·rcases ih c true (k + 1) _ (Φ' c) _ _ pf (hnx c) (hst c) hinv (hag.step hda (fun _ => hv)) (fun h => hFA fun j hj => h j (List.mem_cons_of_mem _ hj)) (by omega) (fun h => by cases h) with ⟨u, W', h1, h2, h3⟩ | ⟨h1, h2, h3⟩
   ·exact Or.inl ⟨u, W', h1, h2, Or.inl ⟨hbt, (hm' k (by omega)).2 hkL, c, by rw [hu u k (by omega)]; exact hv, h3⟩⟩
   exact Or.inr ⟨hbt, fun j hj => h2 j (List.mem_cons_of_mem _ hj), h3.mono fun u W' ⟨q1, q2⟩ => ⟨q1, Or.inl ⟨hbt, (hm' k (by omega)).2 hkL, c, by rw [hu u k (by omega)]; exact hv, q2⟩⟩⟩
  have hall : ∀ c, ∃ v W', Det P ops o (acts ops a vs L) W v W' /\ Ext W W' /\ Inv (L ++ [i]) (upd vs i v) W' (next c) false (k + 1) (Φ' c) := fun c => by
   rcases ih c false (k + 1) _ (Φ' c) _ _ pf (hnx c) (hst c) (hinv c) (hag.step hda (fun h => absurd h hkL)) (fun h => hFA fun j hj => h j (List.mem_cons_of_mem _ hj)) (by omega) (fun _ => ⟨k, by simp, hkL⟩) with h | ⟨h1, -⟩
   ·exact h
   cases h1
  obtain ⟨c0⟩ := hne
  obtain ⟨u, W', h1, hx, -⟩ := hall c0
  refine Or.inl ⟨u, W', h1, hx, Or.inr ⟨fun h => hkL ((hm' k (by omega)).1 h), fun hb => hs _ _ hx (hp hb), fun c => ?_⟩⟩
  obtain ⟨u2, W2, k1, -, k3⟩ := hall c
  obtain ⟨rfl, rfl⟩ := h1.same k1
  exact k3
theorem Ok.fin (hcov : ∀ j, j < m -> j ∈ L) (hC : C W) : ∀ (t : Tr) (k : Nat) (ac : Act) (Φ FA : World -> Prop) (gh pf : ZN), Ok P ops Q m Er C t k ac Φ FA gh pf -> Inv L vs W t true k Φ -> FA W -> ac = acts ops a vs (List.range k) ->
  wpList P ops Q (ops.toList.drop m) (acts ops a vs (List.range m)) W := by
 have hput : ∀ (k : Nat) (ac : Act) (v : Value), ac = acts ops a vs (List.range k) -> vs k = v -> ac.put (dstAt ops k) v = acts ops a vs (List.range (k + 1)) := fun k ac v h1 h2 => by
  rw [List.range_succ, acts_snoc, h1, h2]
 intro t
 induction t with
 | done => intro k ac Φ FA gh pf hok hinv hFA he; obtain ⟨rfl, hok⟩ := hok; rw [he] at hok; exact hok W hC (hinv rfl) hFA
 | plain v next ih => intro k ac Φ FA gh pf hok hinv hFA he; exact ih _ _ _ _ _ _ hok.2.2 hinv.2 hFA (hput k ac v he (hinv.1 (hcov k hok.1)))
 | later v next ih => intro k ac Φ FA gh pf hok hinv hFA he; exact ih _ _ _ _ _ _ hok.2.2.2 hinv.2 hFA (hput k ac v he (hinv.1 (hcov k hok.1)))
 | alloc val F next ih =>
  intro k ac Φ FA gh pf hok hinv hFA he
  rcases hinv with ⟨hk, g, hv, hF, hinv⟩ | ⟨hk, -⟩
  ·exact ih g _ _ _ _ _ _ (hok.2.2.2 g) hinv ⟨hFA, hF⟩ (hput k ac _ he hv)
  exact absurd (hcov k hok.1) hk
 | call γ val Φ' next ih =>
  intro k ac Φ FA gh pf hok hinv hFA he
  obtain ⟨hkm, -, -, -, -, -, hnx⟩ := hok
  rcases hinv with ⟨-, hk, c, hv, hinv⟩ | ⟨hk, -⟩
  ·exact ih c _ _ _ _ _ _ (hnx c) hinv hFA (hput k ac _ he hv)
  exact absurd (hcov k hkm) hk
theorem wp_region_chn {id : Nat} {w : World} (hm : P.follows .mixedOrders = true) (hok : okCh ops m = true) (hR : ∀ W, Er W W) (hXE : ∀ W W', Ext W W' -> Er W W') (hCE : ∀ W W', C W -> Er W W' -> C W') {Φ : World -> Prop} (hC : C w.drew) (hΦ : Φ w.drew) (hs : ∀ W W', Ext W W' -> Φ W -> Φ W')
  (h : ∃ t, Ok P ops Q m Er C t 0 a Φ (fun _ => True) [] []) : (Code.region id ops true).wp P Q a w := by
 obtain ⟨t, ht⟩ := h
 refine wp_region_any hm ?_
 refine wpAny_core (m := m) (fun L vs W => C W /\ Inv L vs W t true 0 Φ) hok ?_ ?_ ops.size [] (fun _ => undef) _ _ (by simp) (fun j hj => ?_) List.nodup_nil (fun j hj => by simp at hj) ?_ (fun j hj => by simp at hj) ⟨hC, Inv.start t true 0 Φ fun _ => hΦ⟩
 ·intro i o hi ho L vs W hiL hLm hcl hrd ⟨hC, hinv⟩
  rcases ok_step (Q := Q) hok hR hXE hi ho hiL hLm hcl hrd hC t true 0 a Φ _ [] [] ht hs hinv ⟨rfl, fun t => ⟨fun j hj => absurd hj (by omega), fun _ => rfl⟩⟩ (fun _ => trivial) (by omega) (fun h => by cases h) with ⟨v, W', h1, h2, h3⟩ | ⟨-, -, h3⟩
  ·exact h1.outs ⟨hCE _ _ hC (hXE _ _ h2), h3⟩
  exact h3.mono fun v W' ⟨q1, q2⟩ => ⟨hCE _ _ hC q1, q2⟩
 ·intro L vs W hcov ⟨hC, hinv⟩
  exact Ok.fin hcov hC t 0 a Φ _ [] [] ht hinv trivial rfl
 ·simp [hj]
 exact Nat.le_trans (List.length_filter_le _ _) (by simp)
end
section
variable {P : Program} {ops : Array Oper} {Q : Exit -> Act -> World -> Prop} {m : Nat} {Er : World -> World -> Prop} {C : World -> Prop} {k : Nat} {o : Oper} {r l : List Oper} {ac : Act} {Φ FA : World -> Prop} {gh pf : ZN}
def Chn (P : Program) (ops : Array Oper) (Q : Exit -> Act -> World -> Prop) (m : Nat) (Er : World -> World -> Prop) (C : World -> Prop) (k : Nat) (l : List Oper) (ac : Act) (Φ FA : World -> Prop) (gh pf : ZN) : Prop := (∀ j, l[j]? = ops[k + j]?) -> ∃ t, Ok P ops Q m Er C t k ac Φ FA gh pf
theorem chn_hd (h : ∀ j, (o :: r)[j]? = ops[k + j]?) : ops[k]? = some o /\ dstAt ops k = o.dst /\ ∀ j, r[j]? = ops[k + 1 + j]? := by
 have h0 : ops[k]? = some o := by simpa using (h 0).symm
 exact ⟨h0, by unfold dstAt; rw [h0]; rfl, fun j => by have := h (j + 1); simpa [Nat.add_assoc, Nat.add_comm 1 j] using this⟩
theorem det_quiet {W : World} {v : Value} {D : World -> Prop} (hn : noCall o = true) (hw : Region.wanted o (yielded ops ac.tmps) = true) (h : o.quietAt P ac D W v) : Det P ops o ac W v W := by
 unfold Oper.quietAt at h
 have hne := fun f args W' => noCall_enter hn ac.eval P W f args W'
 unfold Det
 refine Or.inl ⟨hw, ?_⟩
 revert h hne
 generalize (execOp ac.eval o).run P W = q
 intro h hne
 cases q with
 | ok n w' =>
  cases n <;> simp only [Oper.quietUpon] at h
  case value u => obtain ⟨rfl, rfl⟩ := h; exact Or.inl rfl
  case skip => obtain ⟨rfl, rfl⟩ := h; exact Or.inr ⟨rfl, rfl⟩
  case enter f args => exact absurd rfl (hne f args w')
 | halt x w' => simp only [Oper.quietUpon] at h
structure KnownP (Er : World -> World -> Prop) (v : Value) (Φ' : World -> Prop) (W : World) (u : Value) (W' : World) : Prop where
 er : Er W W'
 val : u = v
 phi : Φ' W'
structure CallP {γ : Type} (Er : World -> World -> Prop) (val : γ -> Value) (Φ' : γ -> World -> Prop) (W : World) (u : Value) (W' : World) : Prop where
 er : Er W W'
 ex : ∃ c, u = val c /\ Φ' c W'
structure NewP (val : Nat -> Value) (F : Nat -> World -> Prop) (W : World) (u : Value) (W' : World) : Prop where
 er : Ext W W'
 ex : ∃ g, u = val g /\ F g W'
theorem chn_plain (h : ∀ K : Act -> Prop, (∀ a, Chn P ops Q m Er C (k + 1) r a Φ FA gh pf -> K a) -> o.quiet P ac (fun w => ∃ τ : WIn C, w = τ.1) K) (hw : Region.wanted o (yielded ops ac.tmps) = true := by rfl) (hk : Nat.ble (k + 1) m = true := by rfl) (hn : noCall o = true := by rfl) : Chn P ops Q m Er C k (o :: r) ac Φ FA gh pf := by
 intro hl
 obtain ⟨ho, hd, hr⟩ := chn_hd hl
 obtain ⟨v, hv, hn'⟩ := h (fun a => Chn P ops Q m Er C (k + 1) r a Φ FA gh pf) (fun _ h => h)
 obtain ⟨t, ht⟩ := hn' hr
 exact ⟨.plain v t, Nat.le_of_ble_eq_true hk, ⟨o, ho, fun W hC => det_quiet hn hw (hv W ⟨⟨W, hC⟩, rfl⟩)⟩, by rw [hd]; exact ht⟩
theorem chn_skip (h : ∀ K : Act -> Prop, (∀ a, Chn P ops Q m Er C (k + 1) r a Φ FA gh pf -> K a) -> K (ac.put o.dst undef)) (hw : Region.wanted o (yielded ops ac.tmps) = false := by rfl) (hk : Nat.ble (k + 1) m = true := by rfl) : Chn P ops Q m Er C k (o :: r) ac Φ FA gh pf := by
 intro hl
 obtain ⟨ho, hd, hr⟩ := chn_hd hl
 obtain ⟨t, ht⟩ := h (fun a => Chn P ops Q m Er C (k + 1) r a Φ FA gh pf) (fun _ h => h) hr
 exact ⟨.plain undef t, Nat.le_of_ble_eq_true hk, ⟨o, ho, fun W hC => Or.inr ⟨hw, rfl, rfl⟩⟩, by rw [hd]; exact ht⟩
theorem chn_new (val : Nat -> Value) (F : Nat -> World -> Prop) (h : ∀ W, C W -> GivesOp P o ac.eval W (NewP val F W)) (hs : ∀ g W W', Er W W' -> F g W -> F g W')
  (hx : ∀ g, ∀ K : Act -> Prop, (∀ a, Chn P ops Q m Er C (k + 1) r a Φ (fun W => FA W /\ F g W) (k :: gh) pf -> K a) -> K (ac.put o.dst (val g))) (hw : Region.wanted o (yielded ops ac.tmps) = true := by rfl) (hk : Nat.ble (k + 1) m = true := by rfl) (hn : noCall o = true := by rfl) : Chn P ops Q m Er C k (o :: r) ac Φ FA gh pf := by
 intro hl
 obtain ⟨ho, hd, hr⟩ := chn_hd hl
 have hy : ∀ g, ∃ t, Ok P ops Q m Er C t (k + 1) (ac.put o.dst (val g)) Φ (fun W => FA W /\ F g W) (k :: gh) pf := fun g => hx g (fun a => Chn P ops Q m Er C (k + 1) r a Φ (fun W => FA W /\ F g W) (k :: gh) pf) (fun _ h => h) hr
 refine ⟨.alloc val F (fun g => (hy g).choose), Nat.le_of_ble_eq_true hk, ⟨o, ho, fun W hC => ?_⟩, hs, fun g => by rw [hd]; exact (hy g).choose_spec⟩
 have h1 := h W hC
 have hne := fun f args W' => noCall_enter hn ac.eval P W f args W'
 unfold GivesOp at h1
 unfold Det
 revert h1 hne
 generalize (execOp ac.eval o).run P W = q
 intro h1 hne
 split at h1
 ·obtain ⟨a1, g, rfl, a3⟩ := h1
  exact ⟨g, _, Or.inl ⟨hw, Or.inl rfl⟩, a1, a3⟩
 ·obtain ⟨a1, g, a2, a3⟩ := h1
  exact ⟨g, _, Or.inl ⟨hw, Or.inr ⟨rfl, a2.symm⟩⟩, a1, a3⟩
 ·exact absurd rfl (hne _ _ _)
 exact h1.elim
theorem chn_call {γ : Type} (val : γ -> Value) (Φ' : γ -> World -> Prop) (h : ∀ W, C W -> Φ W -> FA W -> GivesOp P o ac.eval W (CallP Er val Φ' W)) (hs : ∀ c W W', Ext W W' -> Φ' c W -> Φ' c W')
  (hx : ∀ c, ∀ K : Act -> Prop, (∀ a, Chn P ops Q m Er C (k + 1) r a (Φ' c) FA (k :: gh) pf -> K a) -> K (ac.put o.dst (val c))) (hne : Nonempty γ := by infer_instance) (hw : Region.wanted o (yielded ops ac.tmps) = true := by rfl) (hk : Nat.ble (k + 1) m = true := by rfl)
  (hg : gh.all (fun j => comesAfter ops m k j) = true := by kernel_rfl) (hp : pf.all (fun j => comesAfter ops m k j) = true := by kernel_rfl) : Chn P ops Q m Er C k (o :: r) ac Φ FA gh pf := by
 intro hl
 obtain ⟨ho, hd, hr⟩ := chn_hd hl
 have hy : ∀ c, ∃ t, Ok P ops Q m Er C t (k + 1) (ac.put o.dst (val c)) (Φ' c) FA (k :: gh) pf := fun c => hx c (fun a => Chn P ops Q m Er C (k + 1) r a (Φ' c) FA (k :: gh) pf) (fun _ h => h) hr
 exact ⟨.call γ val Φ' (fun c => (hy c).choose), Nat.le_of_ble_eq_true hk, hg, hp, ⟨o, ho, fun W h1 h2 h3 => by unfold Outs; rw [if_pos hw]; exact (h W h1 h2 h3).mono fun _ _ q => ⟨q.er, q.ex⟩⟩, hne, hs, fun c => by rw [hd]; exact (hy c).choose_spec⟩
theorem chn_known (v : Value) (Φ' : World -> Prop) (h : ∀ W, C W -> Φ W -> FA W -> GivesOp P o ac.eval W (KnownP Er v Φ' W)) (hs : ∀ W W', Ext W W' -> Φ' W -> Φ' W')
  (hx : ∀ K : Act -> Prop, (∀ a, Chn P ops Q m Er C (k + 1) r a Φ' FA (k :: gh) pf -> K a) -> K (ac.put o.dst v)) (hw : Region.wanted o (yielded ops ac.tmps) = true := by rfl) (hk : Nat.ble (k + 1) m = true := by rfl)
  (hg : gh.all (fun j => comesAfter ops m k j) = true := by kernel_rfl) (hp : pf.all (fun j => comesAfter ops m k j) = true := by kernel_rfl) : Chn P ops Q m Er C k (o :: r) ac Φ FA gh pf :=
 chn_call (γ := Unit) (fun _ => v) (fun _ => Φ') (fun W h1 h2 h3 => (h W h1 h2 h3).mono fun _ _ ⟨q1, q2, q3⟩ => ⟨q1, (), q2, q3⟩) (fun _ => hs) (fun _ => hx) ⟨()⟩ hw hk hg hp
theorem chn_ge {f : FuncId} {args : Array Value} {v : Value} (h : ∀ W, C W -> Calls P f args W (GivesE v W))
  (hx : ∀ K : Act -> Prop, (∀ a, Chn P ops Q m Er C (k + 1) r a Φ FA (k :: gh) pf -> K a) -> K (ac.put o.dst v)) (hs : ∀ W W', Ext W W' -> Φ W -> Φ W' := by exact fun _ _ _ h => h) (hX : ∀ W W', Ext W W' -> Er W W' := by first | exact fun _ _ h => h | exact fun _ _ h => h.shp _ | exact fun _ _ h => h.chg _) (he : ∀ (W : World) (T : Value -> World -> Prop), Calls P f args W (fun e W' => ∃ u, e = .returned u /\ T u W') -> GivesOp P o ac.eval W T := by intro _ _ _; unfold GivesOp; go_simp <;> assumption) (hw : Region.wanted o (yielded ops ac.tmps) = true := by rfl) (hk : Nat.ble (k + 1) m = true := by rfl)
  (hg : gh.all (fun j => comesAfter ops m k j) = true := by kernel_rfl) (hp : pf.all (fun j => comesAfter ops m k j) = true := by kernel_rfl) : Chn P ops Q m Er C k (o :: r) ac Φ FA gh pf :=
 chn_known v Φ (fun W h1 h2 _ => he W _ ((h W h1).mono fun _ _ ⟨q1, q2⟩ => ⟨v, q1, hX _ _ q2, rfl, hs _ _ q2 h2⟩)) hs hx hw hk hg hp
theorem chn_tail (h : ∀ W, C W -> Φ W -> FA W -> wpList P ops Q l ac W) (hk : k = m := by rfl) : Chn P ops Q m Er C k l ac Φ FA gh pf := fun hl => ⟨.done, hk, fun W h1 h2 h3 => by
 have : ops.toList.drop m = l := by
  apply List.ext_getElem?
  intro j
  rw [List.getElem?_drop, hl j, <- hk, Array.getElem?_toList]
 rw [this]
 exact h W h1 h2 h3⟩
theorem chn_nil (h : ∀ W, C W -> Φ W -> FA W -> Q .normal ac W) (hk : k = m := by rfl) : Chn P ops Q m Er C k [] ac Φ FA gh pf := chn_tail h hk
theorem chn_start {id : Nat} {a : Act} {w : World} (hR : ∀ W, Er W W) (hXE : ∀ W W', Ext W W' -> Er W W') (hCE : ∀ W W', C W -> Er W W' -> C W') (hC : C w.drew) (hΦ : Φ w.drew) (hs : ∀ W W', Ext W W' -> Φ W -> Φ W')
  (h : Chn P l.toArray Q m Er C 0 l a Φ (fun _ => True) [] []) (hm : P.follows .mixedOrders = true := by kernel_rfl) (hok : okCh l.toArray m = true := by kernel_rfl) : (Code.region id l.toArray true).wp P Q a w :=
 wp_region_chn hm hok hR hXE hCE hC hΦ hs (h fun j => by simp)
theorem chn_ext {id : Nat} {a : Act} {w : World} (m : Nat) (h : Chn P l.toArray Q m Ext (Ext w) 0 l a (fun _ => True) (fun _ => True) [] []) (hm : P.follows .mixedOrders = true := by kernel_rfl) (hok : okCh l.toArray m = true := by kernel_rfl) : (Code.region id l.toArray true).wp P Q a w :=
 chn_start Ext.refl (fun _ _ h => h) (fun _ _ h k => h.trans k) (Ext.refl w).drew trivial (fun _ _ _ h => h) h hm hok
end
instance (w : World) : Nonempty (WIn (Ext w)) := ⟨⟨w, Ext.refl w⟩⟩
instance (N : ZN) (w : World) : Nonempty (WIn (Chg N w)) := ⟨⟨w, Chg.refl N w⟩⟩
theorem win_cell {w : World} {p : Addr} {v : Value} (h : w.cell? p = some v) : ∀ τ : WIn (Ext w), τ.1.cell? p = some v := fun τ => τ.2.cell h
structure Dec where
 ver : Int
 lim : Int
 ded : Int
 fra : Int
 coi : Int
 avg : Bool
def Dec.cells (d : Dec) : Array Value := #[.int .i64 d.ver, .int .i64 d.lim, .int .i64 d.ded, .int .i64 d.fra, .int .i64 d.coi, .bool d.avg]
def limS (V : Ex -> Bool) (m : Int) (x : Cla) : Int := if (x.kind == 5 && claV V x && (decide (m < 0) || decide (x.amount < m))) = true then x.amount else m
def limK (V : Ex -> Bool) (l : List Cla) : Int := l.foldl (limS V) (-1)
theorem limK_take (V : Ex -> Bool) {l : List Cla} {k : Nat} (hk : k < l.length) : limK V (l.take (k + 1)) = limS V (limK V (l.take k)) l[k] := by
 unfold limK
 rw [List.take_succ_eq_append_getElem hk, List.foldl_append]
 rfl
def vdB (V : Ex -> Bool) (l : List Cla) : Dec :=
 if someB V 2 false l = false then ⟨1, 0, 0, 0, 0, false⟩ else if someB V 4 true l = true then ⟨2, 0, 0, 0, 0, false⟩ else if someB V 3 false l = true then ⟨3, 0, 0, 0, 0, false⟩
 else ⟨4, limK V l, greatK V 6 l, greatK V 7 l, greatK V 8 l, someB V 9 false l⟩
theorem blk6d {w : World} {b : Nat} {v0 v1 v2 v3 v4 v5 : Value} {t : TypeId} (h : w.heap[b]? = some (.cells #[v0, v1, v2, v3, v4, v5] t (0, 0))) :
  w.cell? ⟨b, 0, none⟩ = some v0 /\ w.cell? ⟨b, 1, none⟩ = some v1 /\ w.cell? ⟨b, 2, none⟩ = some v2 /\ w.cell? ⟨b, 3, none⟩ = some v3 /\ w.cell? ⟨b, 4, none⟩ = some v4 /\ w.cell? ⟨b, 5, none⟩ = some v5 /\ (∀ o, w.frozen? ⟨b, o, none⟩ = false) :=
 ⟨blk_cell h 0, blk_cell h 1, blk_cell h 2, blk_cell h 3, blk_cell h 4, blk_cell h 5, fun o => blk_free h o⟩
def put6d (w : World) (B : Nat) (v0 v1 v2 v3 v4 v5 : Value) : World := (((((w.setCell ⟨B, 0, none⟩ v0).setCell ⟨B, 1, none⟩ v1).setCell ⟨B, 2, none⟩ v2).setCell ⟨B, 3, none⟩ v3).setCell ⟨B, 4, none⟩ v4).setCell ⟨B, 5, none⟩ v5
theorem put6d_blk {w : World} {B : Nat} {u0 u1 u2 u3 u4 u5 v0 v1 v2 v3 v4 v5 : Value} {t : TypeId} (h : w.heap[B]? = some (.cells #[u0, u1, u2, u3, u4, u5] t (0, 0))) : (put6d w B v0 v1 v2 v3 v4 v5).heap[B]? = some (.cells #[v0, v1, v2, v3, v4, v5] t (0, 0)) := by
 unfold put6d
 rw [heap_setCell_same _ _ _ _ _ _ (heap_setCell_same _ _ _ _ _ _ (heap_setCell_same _ _ _ _ _ _ (heap_setCell_same _ _ _ _ _ _ (heap_setCell_same _ _ _ _ _ _ (heap_setCell_same _ _ _ _ _ _ h)))))]
 rfl
theorem put6d_chg (w : World) (B : Nat) {v0 v1 v2 v3 v4 v5 : Value} : Chg [B] w (put6d w B v0 v1 v2 v3 v4 v5) := by
 unfold put6d
 repeat (with_reducible (refine Chg.setCell ?_ ?_ _))
 exact Chg.refl _ _
 all_goals exact Or.inl (by simp)
def DecO (d : Dec) : Obj := .cells d.cells 29 (0, 0)
def VrL (V : Ex -> Bool) (l : List Cla) (n b7 : Nat) (D F C : Int) (A : Bool) (w : World) (i : Value) (wr : World) : Prop := ∃ k : Nat, i = .int .i64 k /\ k <= n /\ wr.heap[b7]? = some (DecO ⟨4, limK V (l.take k), D, F, C, A⟩) /\ Ext w wr
theorem rVerdict_calls {w0 : World} {sa : OA} {sn sc : Nat} {l : List Cla} {a : OA} {n c : Nat} {fa : OA} {fn fc : Nat} {V : Ex -> Bool} {P : Ex -> Prop} (hv : VerIn w0 sa sn sc l a n c fa fn fc V P) (w : World) (hx0 : Ext w0 w) :
  Calls Tryz.prog 36 #[.agg #[.slice sa sn sc], .slice a n c, .slice fa fn fc] w (GivesE (.agg (vdB V l).cells) w) := by
 have HN := hI hv.cla.len
 have HC := hI hv.cla
 have hn := hv.few
 have HAP := hI (fun (k : Nat) (hk : k < l.length) (v : ClV) W (hW : Ext w W) (hcl : IsCla W l[k] v) => rApplies_calls hv.tr l[k] v W (hx0.trans hW) (hv.ok _ (List.getElem_mem hk)).1 (hv.ok _ (List.getElem_mem hk)).2.1 (hv.ok _ (List.getElem_mem hk)).2.2 hcl)
 have HSM := hI (fun (kind : Int) (neg : Bool) W (hW : Ext w W) => rSome_calls hv kind neg W (hx0.trans hW))
 have HGT := hI (fun (kind : Int) W (hW : Ext w W) => rGreatest_calls hv kind W (hx0.trans hW))
 have HX0 := hI hx0
 obtain ⟨S2, hS2⟩ : ∃ S2, S2 = someB V 2 false l := ⟨_, rfl⟩
 obtain ⟨S4, hS4⟩ : ∃ S4, S4 = someB V 4 true l := ⟨_, rfl⟩
 obtain ⟨S3, hS3⟩ : ∃ S3, S3 = someB V 3 false l := ⟨_, rfl⟩
 obtain ⟨A, hA⟩ : ∃ A, A = someB V 9 false l := ⟨_, rfl⟩
 obtain ⟨D, hD⟩ : ∃ D, D = greatK V 6 l := ⟨_, rfl⟩
 obtain ⟨F, hF⟩ : ∃ F, F = greatK V 7 l := ⟨_, rfl⟩
 obtain ⟨C, hC⟩ : ∃ C, C = greatK V 8 l := ⟨_, rfl⟩
 have H2 := hI (fun W hW => HSM.out 2 false W hW)
 have H4 := hI (fun W hW => HSM.out 4 true W hW)
 have H3 := hI (fun W hW => HSM.out 3 false W hW)
 have H9 := hI (fun W hW => HSM.out 9 false W hW)
 have H6 := hI (fun W hW => HGT.out 6 W hW)
 have H7 := hI (fun W hW => HGT.out 7 W hW)
 have H8 := hI (fun W hW => HGT.out 8 W hW)
 rw [<- hS2] at H2
 rw [<- hS4] at H4
 rw [<- hS3] at H3
 rw [<- hA] at H9
 rw [<- hD] at H6
 rw [<- hF] at H7
 rw [<- hC] at H8
 obtain ⟨R, hR⟩ : ∃ R, R = vdB V l := ⟨_, rfl⟩
 rw [<- hR]
 have HR := hI (show R = if S2 = false then ⟨1, 0, 0, 0, 0, false⟩ else if S4 = true then ⟨2, 0, 0, 0, 0, false⟩ else if S3 = true then ⟨3, 0, 0, 0, 0, false⟩ else ⟨4, limK V l, D, F, C, A⟩ by rw [hR, hS2, hS4, hS3, hA, hD, hF, hC]; rfl)
 clear hv hx0 HSM HGT hS2 hS4 hS3 hA hD hF hC hR
 obtain ⟨wa, hwa⟩ : ∃ wa, wa = (w.alloc (.cells #[.slice sa sn sc] 24)).alloc (.cells #[.int .i64 0, .int .i64 0, .int .i64 0, .int .i64 0, .int .i64 0, .bool false] 29) := ⟨_, rfl⟩
 have HXA := hI (show Ext w wa by rw [hwa]; exact ((Ext.refl _).alloc _).alloc _)
 have HA3 := hI (show wa.heap[w.heap.size]? = some (.cells #[.slice sa sn sc] 24 (0, 0)) by rw [hwa]; exact blk_alloc (alloc_new w _))
 have HA6 := hI (show wa.heap[w.heap.size + 1]? = some (DecO ⟨0, 0, 0, 0, 0, false⟩) by rw [hwa]; exact alloc_at (by simp))
 obtain ⟨b3, hb3⟩ : ∃ b3, b3 = w.heap.size := ⟨_, rfl⟩
 have HB3 := hI hb3
 have hlw : w.heap.size <= b3 := by omega
 obtain ⟨s0, sf⟩ := blk1 HA3.out
 go_enter Tryz.func36, Tryz.ntmps36
 go_upto_region 1 with fail
 rw [<- hwa, <- hb3]
 rw [<- hb3] at HA3 HA6 s0
 clear hwa hb3
 go_wp2_with fail
 refine (H2.out wa HXA.out).mono ?_
 rintro r w1 ⟨rfl, hx1⟩
 have HX1 := hI (HXA.out.trans hx1)
 have H13 := hI (hx1.blk HA3.out)
 have H16 := hI (hx1.blk HA6.out)
 clear hx1 s0 sf HA3 HA6 H2
 obtain ⟨s0, sf⟩ := blk1 H13.out
 cases S2
 case false =>
  have HQ := hI (show R = ⟨1, 0, 0, 0, 0, false⟩ by rw [HR.out]; simp)
  have hz := H16.out
  unfold DecO Dec.cells at hz
  obtain ⟨z0, z1, z2, z3, z4, z5, zf⟩ := blk6d hz
  go_wp2_with fail
  obtain ⟨w8, hw8⟩ : ∃ w8, w8 = put6d w1 (b3 + 1) (.int .i64 1) (.int .i64 0) (.int .i64 0) (.int .i64 0) (.int .i64 0) (.bool false) := ⟨_, rfl⟩
  have HX8 := hI (show Ext w w8 by rw [hw8]; exact (put6d_chg _ _).ext HX1.out (by simp; omega))
  have h8 : w8.heap[b3 + 1]? = some (.cells #[.int .i64 1, .int .i64 0, .int .i64 0, .int .i64 0, .int .i64 0, .bool false] 29 (0, 0)) := by rw [hw8]; exact put6d_blk hz
  unfold put6d at hw8
  rw [<- hw8]
  clear hw8 z0 z1 z2 z3 z4 z5 zf hz
  obtain ⟨z0, z1, z2, z3, z4, z5, zf⟩ := blk6d h8
  refine bodyPost_ret (v := .agg R.cells) (by rw [HQ.out]; simp [results, Tryz.results36, go_sem, Dec.cells, z0, z1, z2, z3, z4, z5]) rfl ?_
  exact ⟨rfl, HX8.out⟩
 go_wp2_with fail
 refine (H4.out w1 HX1.out).mono ?_
 rintro r w2 ⟨rfl, hx2⟩
 have HX2 := hI (HX1.out.trans hx2)
 have H23 := hI (hx2.blk H13.out)
 have H26 := hI (hx2.blk H16.out)
 clear hx2 s0 sf H4 H13 H16
 obtain ⟨s0, sf⟩ := blk1 H23.out
 cases S4
 case true =>
  have HQ := hI (show R = ⟨2, 0, 0, 0, 0, false⟩ by rw [HR.out]; simp)
  have hz := H26.out
  unfold DecO Dec.cells at hz
  obtain ⟨z0, z1, z2, z3, z4, z5, zf⟩ := blk6d hz
  go_wp2_with fail
  obtain ⟨w8, hw8⟩ : ∃ w8, w8 = put6d w2 (b3 + 1) (.int .i64 2) (.int .i64 0) (.int .i64 0) (.int .i64 0) (.int .i64 0) (.bool false) := ⟨_, rfl⟩
  have HX8 := hI (show Ext w w8 by rw [hw8]; exact (put6d_chg _ _).ext HX2.out (by simp; omega))
  have h8 : w8.heap[b3 + 1]? = some (.cells #[.int .i64 2, .int .i64 0, .int .i64 0, .int .i64 0, .int .i64 0, .bool false] 29 (0, 0)) := by rw [hw8]; exact put6d_blk hz
  unfold put6d at hw8
  rw [<- hw8]
  clear hw8 z0 z1 z2 z3 z4 z5 zf hz
  obtain ⟨z0, z1, z2, z3, z4, z5, zf⟩ := blk6d h8
  refine bodyPost_ret (v := .agg R.cells) (by rw [HQ.out]; simp [results, Tryz.results36, go_sem, Dec.cells, z0, z1, z2, z3, z4, z5]) rfl ?_
  exact ⟨rfl, HX8.out⟩
 go_wp2_with fail
 refine (H3.out w2 HX2.out).mono ?_
 rintro r w3 ⟨rfl, hx3⟩
 have HX3 := hI (HX2.out.trans hx3)
 have H33 := hI (hx3.blk H23.out)
 have H36 := hI (hx3.blk H26.out)
 clear hx3 s0 sf H3 H23 H26
 obtain ⟨s0, sf⟩ := blk1 H33.out
 cases S3
 case true =>
  have HQ := hI (show R = ⟨3, 0, 0, 0, 0, false⟩ by rw [HR.out]; simp)
  have hz := H36.out
  unfold DecO Dec.cells at hz
  obtain ⟨z0, z1, z2, z3, z4, z5, zf⟩ := blk6d hz
  go_wp2_with fail
  obtain ⟨w8, hw8⟩ : ∃ w8, w8 = put6d w3 (b3 + 1) (.int .i64 3) (.int .i64 0) (.int .i64 0) (.int .i64 0) (.int .i64 0) (.bool false) := ⟨_, rfl⟩
  have HX8 := hI (show Ext w w8 by rw [hw8]; exact (put6d_chg _ _).ext HX3.out (by simp; omega))
  have h8 : w8.heap[b3 + 1]? = some (.cells #[.int .i64 3, .int .i64 0, .int .i64 0, .int .i64 0, .int .i64 0, .bool false] 29 (0, 0)) := by rw [hw8]; exact put6d_blk hz
  unfold put6d at hw8
  rw [<- hw8]
  clear hw8 z0 z1 z2 z3 z4 z5 zf hz
  obtain ⟨z0, z1, z2, z3, z4, z5, zf⟩ := blk6d h8
  refine bodyPost_ret (v := .agg R.cells) (by rw [HQ.out]; simp [results, Tryz.results36, go_sem, Dec.cells, z0, z1, z2, z3, z4, z5]) rfl ?_
  exact ⟨rfl, HX8.out⟩
 have HRR := hI (show R = ⟨4, limK V l, D, F, C, A⟩ by rw [HR.out]; simp)
 clear HR
 go_upto_region 7 with fail
 have S0 := win_cell s0
 refine chn_ext 18 ?_
 repeat (refine chn_plain ?_; intro K hK; go_big_quiet_op; go_big_quiet_on)
 refine chn_ge (fun W hW => H6.out W (HX3.out.trans hW)) ?_
 intro K hK; go_simp; go_big_quiet_on
 repeat (refine chn_plain ?_; intro K hK; go_big_quiet_op; go_big_quiet_on)
 refine chn_ge (fun W hW => H7.out W (HX3.out.trans hW)) ?_
 intro K hK; go_simp; go_big_quiet_on
 repeat (refine chn_plain ?_; intro K hK; go_big_quiet_op; go_big_quiet_on)
 refine chn_ge (fun W hW => H8.out W (HX3.out.trans hW)) ?_
 intro K hK; go_simp; go_big_quiet_on
 repeat (refine chn_plain ?_; intro K hK; go_big_quiet_op; go_big_quiet_on)
 refine chn_ge (fun W hW => H9.out W (HX3.out.trans hW)) ?_
 intro K hK; go_simp; go_big_quiet_on
 repeat (refine chn_plain ?_; intro K hK; go_big_quiet_op; go_big_quiet_on)
 refine chn_new (fun g => .pointer (some ⟨g, 0, none⟩)) (fun g W => W.heap[g]? = some (DecO ⟨0, 0, 0, 0, 0, false⟩) /\ w3.heap.size <= g) (fun W hW => ?_) (fun g W W' h k => ⟨h.blk k.1, k.2⟩) ?_
 ·unfold GivesOp
  go_simp
  exact ⟨(Ext.refl W).alloc _, W.heap.size, rfl, alloc_new W _, hW.size⟩
 intro y7 K hK; go_simp; go_big_quiet_on
 refine chn_tail fun W hW2 _ hs17 => ?_
 have HS17 := hI hs17.2
 clear hs17 S0
 have hz7 := HS17.out.1
 unfold DecO Dec.cells at hz7
 obtain ⟨z0, z1, z2, z3, z4, z5, zf⟩ := blk6d hz7
 have hlz := blk_lt hz7
 go_upto_region 8 with fail
 obtain ⟨w4, hw4⟩ : ∃ w4, w4 = put6d W y7 (.int .i64 4) (.int .i64 (-1)) (.int .i64 D) (.int .i64 F) (.int .i64 C) (.bool A) := ⟨_, rfl⟩
 have HX4 := hI (show Ext w3 w4 by rw [hw4]; exact (put6d_chg _ _).ext hW2 (by simp; exact HS17.out.2))
 have H47 := hI (show w4.heap[y7]? = some (DecO ⟨4, limK V (l.take 0), D, F, C, A⟩) by rw [hw4]; exact put6d_blk hz7)
 unfold put6d at hw4
 rw [<- hw4]
 clear hw4 hW2 hz7 z0 z1 z2 z3 z4 z5 zf hlz s0 sf H6 H7 H8 H9
 go_wp2_with fail
 go_loopw [8] (VrL V l n y7 D F C A w3) (fun i _ => n - (intOf i).toNat)
 case atStart => exact ⟨0, rfl, Nat.zero_le _, H47.out, HX4.out⟩
 case round =>
  obtain ⟨k, rfl, hk, hb, hx⟩ := hrel
  obtain ⟨wo, rfl⟩ : ∃ wo : World, wo = wr := ⟨_, rfl⟩
  have HX := hI hx
  have HB := hI hb
  obtain ⟨s0, sf⟩ := blk1 (hx.blk H33.out)
  have hzz := hb
  unfold DecO Dec.cells at hzz
  obtain ⟨d0, d1, d2, d3, d4, d5, df⟩ := blk6d hzz
  have hlz := blk_lt hzz
  clear hx hb
  by_cases hkn : k < n
  ·have hkl : k < l.length := by have := HN.out; omega
   have t1 : decide ((k : Int) < (n : Int)) = true := decide_eq_true (by omega)
   have tk0 : (0 : Int) <= (k : Int) := by omega
   have tk1 : (k : Int) < (n : Int) := by omega
   obtain ⟨b, off, v, rfl, hcl, hrow⟩ := (HC.out.ext (HX0.out.trans (HX3.out.trans HX.out))).at hkl
   obtain ⟨c0, c1, c2, c3, c4, c5, c6, c7, c8, c9⟩ := hrow.ten
   have hvk : v.kind = l[k].kind := hcl.1
   have hva : v.amount = l[k].amount := hcl.2.2.2.2.2.2.2
   have HREC := hI (fun W (hW : Ext wo W) => HAP.out k hkl v W ((HX3.out.trans HX.out).trans hW) (hcl.mono hW.sub))
   have HST := hI (limK_take V hkl)
   obtain ⟨M, hM⟩ : ∃ M, M = limK V (l.take k) := ⟨_, rfl⟩
   rw [<- hM] at HST HB d1 hzz
   dsimp only at d1 hzz
   have HST2 := hI (show limK V (l.take (k + 1)) = if (v.kind == 5 && claV V l[k] && (decide (M < 0) || decide (v.amount < M))) = true then v.amount else M by rw [HST.out, limS, hvk, hva])
   obtain ⟨Q, hQ⟩ : ∃ Q, Q = claV V l[k] := ⟨_, rfl⟩
   rw [<- hQ] at HREC HST2
   have HZZ := hI hzz
   clear hrow hcl hvk hva hQ HAP hM HST hzz
   cases hq : (v.kind == 5)
   ·have HQ := hI (show limK V (l.take (k + 1)) = M by rw [HST2.out, hq]; rfl)
    go_wp2_with fail
    go_quiet (fail)
    go_wp2_with fail
    go_roundw
    case rel => exact ⟨k + 1, by go_num, by omega, by rw [HQ.out]; exact HB.out, HX.out.drewN _⟩
    case measure => simp [intOf]; omega
   cases Q
   ·have HQ := hI (show limK V (l.take (k + 1)) = M by rw [HST2.out, hq]; rfl)
    go_upto_region 11 with fail
    have C0 := win_cell c0
    have C1 := win_cell c1
    have C2 := win_cell c2
    have C3 := win_cell c3
    have C4 := win_cell c4
    have C5 := win_cell c5
    have C6 := win_cell c6
    have C7 := win_cell c7
    have C8 := win_cell c8
    have C9 := win_cell c9
    have D1 := win_cell d1
    have S0 := win_cell s0
    refine chn_ext 31 ?_
    repeat (refine chn_plain ?_; intro K hK; go_big_quiet_op; go_big_quiet_on)
    refine chn_ge (fun W hW => HREC.out W hW) ?_
    intro K hK; go_simp; go_big_quiet_on
    repeat first | (refine chn_plain ?_; intro K hK; go_big_quiet_op; go_big_quiet_on) | (refine chn_skip ?_; intro K hK; go_simp; go_big_quiet_on)
    refine chn_nil fun W hW2 _ _ => ?_
    clear C0 C1 C2 C3 C4 C5 C6 C7 C8 C9 D1 S0
    go_wp2_with fail
    go_roundw
    case rel => exact ⟨k + 1, by go_num, by omega, by rw [HQ.out]; exact hW2.blk HB.out, HX.out.trans hW2⟩
    case measure => simp [intOf]; omega
   by_cases hm : M < 0
   ·have HQ := hI (show limK V (l.take (k + 1)) = v.amount by rw [HST2.out, hq, decide_eq_true hm]; rfl)
    have tm : decide (M < 0) = true := decide_eq_true hm
    clear hm
    go_upto_region 11 with fail
    have C0 := win_cell c0
    have C1 := win_cell c1
    have C2 := win_cell c2
    have C3 := win_cell c3
    have C4 := win_cell c4
    have C5 := win_cell c5
    have C6 := win_cell c6
    have C7 := win_cell c7
    have C8 := win_cell c8
    have C9 := win_cell c9
    have D1 := win_cell d1
    have S0 := win_cell s0
    refine chn_ext 31 ?_
    repeat (refine chn_plain ?_; intro K hK; go_big_quiet_op; go_big_quiet_on)
    refine chn_ge (fun W hW => HREC.out W hW) ?_
    intro K hK; go_simp; go_big_quiet_on
    repeat first | (refine chn_plain ?_; intro K hK; go_big_quiet_op; go_big_quiet_on) | (refine chn_skip ?_; intro K hK; go_simp; go_big_quiet_on)
    refine chn_nil fun W hW2 _ _ => ?_
    clear C0 C1 C2 C3 C4 C5 C6 C7 C8 C9 D1 S0
    have e9 := hW2.cell c9
    have HZ2 := hI (hW2.blk HZZ.out)
    obtain ⟨g0, g1, g2, g3, g4, g5, gf⟩ := blk6d HZ2.out
    have hlz2 := blk_lt HZ2.out
    have HW2 := hI hW2
    clear hW2
    go_wp2_with fail
    go_roundw
    case rel => exact ⟨k + 1, by go_num, by omega, by rw [HQ.out]; exact heap_setCell_same _ _ 1 _ _ _ HZ2.out, Ext.setAbove (HX.out.trans HW2.out) HS17.out.2 _⟩
    case measure => simp [intOf]; omega
   have tm : decide (M < 0) = false := decide_eq_false hm
   cases ha : decide (v.amount < M)
   ·have HQ := hI (show limK V (l.take (k + 1)) = M by rw [HST2.out, hq, tm, ha]; rfl)
    clear hm
    go_upto_region 11 with fail
    have C0 := win_cell c0
    have C1 := win_cell c1
    have C2 := win_cell c2
    have C3 := win_cell c3
    have C4 := win_cell c4
    have C5 := win_cell c5
    have C6 := win_cell c6
    have C7 := win_cell c7
    have C8 := win_cell c8
    have C9 := win_cell c9
    have D1 := win_cell d1
    have S0 := win_cell s0
    refine chn_ext 31 ?_
    repeat (refine chn_plain ?_; intro K hK; go_big_quiet_op; go_big_quiet_on)
    refine chn_ge (fun W hW => HREC.out W hW) ?_
    intro K hK; go_simp; go_big_quiet_on
    repeat first | (refine chn_plain ?_; intro K hK; go_big_quiet_op; go_big_quiet_on) | (refine chn_skip ?_; intro K hK; go_simp; go_big_quiet_on)
    refine chn_nil fun W hW2 _ _ => ?_
    clear C0 C1 C2 C3 C4 C5 C6 C7 C8 C9 D1 S0
    go_wp2_with fail
    go_roundw
    case rel => exact ⟨k + 1, by go_num, by omega, by rw [HQ.out]; exact hW2.blk HB.out, HX.out.trans hW2⟩
    case measure => simp [intOf]; omega
   have HQ := hI (show limK V (l.take (k + 1)) = v.amount by rw [HST2.out, hq, tm, ha]; rfl)
   clear hm
   go_upto_region 11 with fail
   have C0 := win_cell c0
   have C1 := win_cell c1
   have C2 := win_cell c2
   have C3 := win_cell c3
   have C4 := win_cell c4
   have C5 := win_cell c5
   have C6 := win_cell c6
   have C7 := win_cell c7
   have C8 := win_cell c8
   have C9 := win_cell c9
   have D1 := win_cell d1
   have S0 := win_cell s0
   refine chn_ext 31 ?_
   repeat (refine chn_plain ?_; intro K hK; go_big_quiet_op; go_big_quiet_on)
   refine chn_ge (fun W hW => HREC.out W hW) ?_
   intro K hK; go_simp; go_big_quiet_on
   repeat first | (refine chn_plain ?_; intro K hK; go_big_quiet_op; go_big_quiet_on) | (refine chn_skip ?_; intro K hK; go_simp; go_big_quiet_on)
   refine chn_nil fun W hW2 _ _ => ?_
   clear C0 C1 C2 C3 C4 C5 C6 C7 C8 C9 D1 S0
   have e9 := hW2.cell c9
   have HZ2 := hI (hW2.blk HZZ.out)
   obtain ⟨g0, g1, g2, g3, g4, g5, gf⟩ := blk6d HZ2.out
   have hlz2 := blk_lt HZ2.out
   have HW2 := hI hW2
   clear hW2
   go_wp2_with fail
   go_roundw
   case rel => exact ⟨k + 1, by go_num, by omega, by rw [HQ.out]; exact heap_setCell_same _ _ 1 _ _ _ HZ2.out, Ext.setAbove (HX.out.trans HW2.out) HS17.out.2 _⟩
   case measure => simp [intOf]; omega
  have t1 : decide ((k : Int) < (n : Int)) = false := decide_eq_false (by omega)
  have HQ := hI (show R = ⟨4, limK V (l.take k), D, F, C, A⟩ by rw [HRR.out, List.take_of_length_le (by have := HN.out; omega)])
  obtain ⟨M, hM⟩ : ∃ M, M = limK V (l.take k) := ⟨_, rfl⟩
  rw [<- hM] at HQ d1
  dsimp only at d1
  have hz := HX.out.blk H36.out
  unfold DecO Dec.cells at hz
  obtain ⟨z0, z1, z2, z3, z4, z5, zf⟩ := blk6d hz
  clear hzz hM
  go_wp2_with fail
  obtain ⟨w8, hw8⟩ : ∃ w8, w8 = put6d wo (b3 + 1) (.int .i64 4) (.int .i64 M) (.int .i64 D) (.int .i64 F) (.int .i64 C) (.bool A) := ⟨_, rfl⟩
  have HX8 := hI (show Ext w w8 by rw [hw8]; exact (put6d_chg _ _).ext (HX3.out.trans HX.out) (by simp; omega))
  have h8 : w8.heap[b3 + 1]? = some (.cells #[.int .i64 4, .int .i64 M, .int .i64 D, .int .i64 F, .int .i64 C, .bool A] 29 (0, 0)) := by rw [hw8]; exact put6d_blk hz
  unfold put6d at hw8
  rw [<- hw8]
  clear hw8 z0 z1 z2 z3 z4 z5 zf hz
  obtain ⟨z0, z1, z2, z3, z4, z5, zf⟩ := blk6d h8
  refine bodyPost_ret (v := .agg R.cells) (by rw [HQ.out]; simp [results, Tryz.results36, go_sem, Dec.cells, z0, z1, z2, z3, z4, z5]) rfl ?_
  exact ⟨rfl, HX8.out⟩
end Go.Proofs.YtefjomofjejklaaGreatDoor
