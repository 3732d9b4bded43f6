/-
  Texts of the claim, joined: SIdx, Grow, Grow2, Grow3, GrowGD, GrowS, GrowG, RApp.
-/
import Derived.Orders
import Derived.BigFrame
import Derived.Test.YtefjomofjejklaaGreatCc05
namespace Go.Proofs.YtefjomofjejklaaGreat
set_option maxRecDepth 100000
set_option maxHeartbeats 32000000
open Go.RowKit
theorem sIndex_calls (s : List Attr) (v : Value) (x : BA) (w : World) (hs : IsSchema w s v) (hl : s.length <= 1000000000000000) :
  Calls Tryz.prog 102 #[v, .string x] w (GivesE (optV (attrAt s x)) w) := by
 obtain ⟨a, n, c, rfl, hn, hnc, hoa, hat⟩ := hs.parts
 have HS := hI hs
 have HN := hI hn
 have hn2 : n <= 1000000000000000 := by omega
 clear hs hn hat hnc hoa
 go_enter Tryz.func102, Tryz.ntmps102
 go_wp2_with fail
 go_loopw [11] (fun t wr => ∃ k : Nat, t = .int .i64 k /\ k <= n /\ (∀ j (h : j < s.length), j < k -> decide (s[j].name = x) = false) /\ Ext w wr) (fun t _ => n - (intOf t).toNat)
 case atStart => exact ⟨0, rfl, by omega, fun j _ h => by omega, (Ext.refl w).alloc _⟩
 case round =>
  obtain ⟨k, rfl, hk, hno, hx⟩ := hrel
  have HNO := hI hno
  have HX := hI hx
  clear hno hx
  by_cases hkn : k < n
  ·have hks : k < s.length := by have := HN.out; omega
   obtain ⟨a', n', c', e', hx1, hx2, hx3, hat⟩ := (HS.out.ext HX.out).parts
   simp only [Value.agg.injEq, Array.mk.injEq, List.cons.injEq, Value.slice.injEq, and_true] at e'
   obtain ⟨rfl, rfl, rfl⟩ := e'
   clear hx1 hx2 hx3
   obtain ⟨b, off, rfl, aw, nw, cw, h0, h1, h2, h3, h4, h5⟩ := hat k hks
   have t1 : decide ((k : Int) < (n : Int)) = true := decide_eq_true (by omega)
   cases he : (s[k].name.toList == x.toList)
   ·have HE := hI (dec_of_beq he)
    clear hat h5
    go_wp2_with fail
    go_roundw
    case rel =>
     refine ⟨k + 1, by go_num, by omega, fun j hj hjk => ?_, HX.out.alloc _⟩
     by_cases e : j = k
     ·subst e; exact HE.out
     exact HNO.out j hj (by omega)
    case measure => simp [intOf]; omega
   have HF := hI (show attrAt s x = some k from find_hit hks (dec_of_beq he) HNO.out)
   clear hat h5
   go_wp2_with fail
   go_ret2
   exact ⟨by rw [optV, HF.out]; rfl, HX.out.alloc _⟩
  have t1 : decide ((k : Int) < (n : Int)) = false := decide_eq_false (by omega)
  have HF := hI (show attrAt s x = none from find_miss fun j hj => HNO.out j hj (by have := HN.out; omega))
  go_wp2_with fail
  go_ret2
  exact ⟨by rw [optV, HF.out]; rfl, HX.out⟩
def dstAt (ops : Array Oper) (j : Nat) : Option Tmp := (ops[j]?).bind (·.dst)
def acts (ops : Array Oper) (a : Act) (vs : Nat -> Value) (L : ZN) : Act := L.foldl (fun b j => b.put (dstAt ops j) (vs j)) a
theorem acts_snoc (ops : Array Oper) (a : Act) (vs : Nat -> Value) (L : ZN) (i : Nat) : acts ops a vs (L ++ [i]) = (acts ops a vs L).put (dstAt ops i) (vs i) := by simp [acts]
theorem acts_congr {ops : Array Oper} {a : Act} {vs vs' : Nat -> Value} {L : ZN} (h : ∀ j ∈ L, vs j = vs' j) : acts ops a vs L = acts ops a vs' L := by
 unfold acts
 induction L generalizing a with
 | nil => rfl
 | cons x r ih => simp only [List.foldl_cons, h x (by simp)]; exact ih (fun j hj => h j (List.mem_cons_of_mem _ hj))
theorem put_size (a : Act) (d : Option Tmp) (v : Value) : (a.put d v).tmps.size = a.tmps.size := by cases d <;> simp [Act.put]
theorem acts_size (ops : Array Oper) (a : Act) (vs : Nat -> Value) (L : ZN) : (acts ops a vs L).tmps.size = a.tmps.size := by
 unfold acts
 induction L generalizing a with
 | nil => rfl
 | cons x r ih => rw [List.foldl_cons, ih, put_size]
def DstApart (ops : Array Oper) : Prop := ∀ i j d, dstAt ops i = some d -> dstAt ops j = some d -> i = j
theorem put_eval_same (a : Act) (t : Tmp) (v : Value) : (a.put (some t) v).eval (.tmp t) = if t < a.tmps.size then v else undef := by
 by_cases h : t < a.tmps.size
 ·rw [if_pos h]; simp [Act.put, Act.eval, h]
 rw [if_neg h]
 simp only [Act.put, Act.eval]
 rw [Array.setIfInBounds_eq_of_size_le (Nat.le_of_not_lt h)]
 simp
 rw [Array.getElem?_eq_none (Nat.le_of_not_lt h)]; rfl
theorem acts_eval_in {ops : Array Oper} (hd : DstApart ops) {a : Act} {vs : Nat -> Value} {L : ZN} {t : Tmp} {j : Nat} (hj : j ∈ L) (ht : dstAt ops j = some t) : (acts ops a vs L).eval (.tmp t) = if t < a.tmps.size then vs j else undef := by
 induction L generalizing a with
 | nil => simp at hj
 | cons x r ih =>
  simp only [acts, List.foldl_cons]
  by_cases hjr : j ∈ r
  ·have := ih (a := a.put (dstAt ops x) (vs x)) hjr
   rw [put_size] at this
   exact this
  obtain rfl : j = x := by rcases List.mem_cons.1 hj with h | h; exact h; exact absurd h hjr
  have : ∀ (b : Act), (acts ops b vs r).eval (.tmp t) = b.eval (.tmp t) := by
   clear ih hj
   induction r with
   | nil => intro b; rfl
   | cons y s ih =>
    intro b
    simp only [acts, List.foldl_cons]
    have h1 := ih (fun h => hjr (List.mem_cons_of_mem _ h)) (b.put (dstAt ops y) (vs y))
    simp only [acts] at h1
    rw [h1]
    exact Act.eval_put (fun d hd' e => by
     injection e with e
     subst e
     exact hjr (by rw [hd _ _ _ ht hd']; simp))
  have h2 := this (a.put (dstAt ops j) (vs j))
  simp only [acts] at h2
  rw [h2, ht, put_eval_same]
theorem acts_eval_out {ops : Array Oper} {a : Act} {vs : Nat -> Value} {L : ZN} {t : Tmp} (ht : ∀ j ∈ L, dstAt ops j ≠ some t) : (acts ops a vs L).eval (.tmp t) = a.eval (.tmp t) := by
 induction L generalizing a with
 | nil => rfl
 | cons x r ih =>
  simp only [acts, List.foldl_cons]
  have := ih (a := a.put (dstAt ops x) (vs x)) (fun j hj => ht j (List.mem_cons_of_mem _ hj))
  simp only [acts] at this
  rw [this]
  exact Act.eval_put (fun d hd' e => by injection e with e; subst e; exact ht x (by simp) hd')
theorem acts_perm {ops : Array Oper} (hd : DstApart ops) {a : Act} {vs : Nat -> Value} {L L' : ZN} (h : L.Perm L') : acts ops a vs L = acts ops a vs L' := by
 refine List.Perm.foldl_eq' h (fun x _ y _ z => ?_) a
 by_cases hxy : x = y
 ·subst hxy; rfl
 exact Act.put_comm _ _ _ (fun d hx hy => hxy (hd _ _ _ hx hy))
def isData (e : Edge) : Bool := match e.ground with | .data => true | _ => false
def okGrow (ops : Array Oper) (m : Nat) : Bool :=
 Region.noSelect ops && decide (m <= ops.size) && decide (ops.size <= m + 1) &&
 ((List.range ops.size).all fun i => (List.range ops.size).all fun j => i == j || dstAt ops i == none || dstAt ops i != dstAt ops j) &&
 ((List.range ops.size).all fun i => match ops[i]? with
  | none => false
  | some o => (o.guard == none || i == m) && (o.after.all fun e => (!Region.binds .any e || decide (e.on < i)) && (!isData e || Region.binds .any e)) &&
   ((List.range m).all fun j => match dstAt ops j with
    | none => true
    | some t => !(o.looksAt ops).contains t || (i == m) || o.after.any (fun e => Region.binds .any e && e.on == j)) &&
   (i != m || (List.range m).all fun j => o.after.any (fun e => Region.binds .any e && e.on == j)))
theorem okGrow_spec {ops : Array Oper} {m : Nat} (h : okGrow ops m = true) : Region.noSelect ops = true /\ m <= ops.size /\ ops.size <= m + 1 /\ DstApart ops /\
  (∀ i o, ops[i]? = some o -> (i < m -> o.guard = none) /\ (∀ e ∈ o.after, (Region.binds .any e = true -> e.on < i) /\ (isData e = true -> Region.binds .any e = true)) /\ (i < m -> ∀ j t, j < m -> dstAt ops j = some t -> t ∈ o.looksAt ops -> ∃ e ∈ o.after, Region.binds .any e = true /\ e.on = j) /\
   (i = m -> ∀ j, j < m -> ∃ e ∈ o.after, Region.binds .any e = true /\ e.on = j)) := by
 simp only [okGrow, Bool.and_eq_true, decide_eq_true_eq] at h
 obtain ⟨⟨⟨⟨h1, h2⟩, h3⟩, h4⟩, h5⟩ := h
 refine ⟨h1, h2, h3, ?_, ?_⟩
 ·intro i j d hi hj
  have li : i < ops.size := by
   unfold dstAt at hi
   rcases Nat.lt_or_ge i ops.size with h | h
   ·exact h
   rw [Array.getElem?_eq_none h] at hi; simp at hi
  have lj : j < ops.size := by
   unfold dstAt at hj
   rcases Nat.lt_or_ge j ops.size with h | h
   ·exact h
   rw [Array.getElem?_eq_none h] at hj; simp at hj
  have := List.all_eq_true.1 (List.all_eq_true.1 h4 i (by simpa using li)) j (by simpa using lj)
  simpa [hi, hj] using this
 intro i o ho
 have li : i < ops.size := (Array.getElem?_eq_some_iff.1 ho).1
 have h6 := List.all_eq_true.1 h5 i (by simpa using li)
 simp only [ho, Bool.and_eq_true] at h6
 obtain ⟨⟨⟨g1, g2⟩, g3⟩, g4⟩ := h6
 refine ⟨fun hm => ?_, fun e he => ?_, fun hm j t hjm hj ht => ?_, fun hm j hj => ?_⟩
 ·rcases Bool.or_eq_true_iff.1 g1 with g | g
  ·simpa using g
  have : i = m := by simpa using g
  omega
 ·have := Array.all_eq_true_iff_forall_mem.1 g2 e he
  simp only [Bool.and_eq_true, Bool.or_eq_true, Bool.not_eq_true', decide_eq_true_eq] at this
  refine ⟨fun hb => ?_, fun hb => ?_⟩
  ·rcases this.1 with h | h
   ·rw [hb] at h; cases h
   exact h
  rcases this.2 with h | h
  ·rw [hb] at h; cases h
  exact h
 ·have := List.all_eq_true.1 g3 j (by simpa using hjm)
  rw [hj] at this
  simp only [Bool.or_eq_true, Bool.not_eq_true'] at this
  rcases this with (h | h) | h
  ·rw [List.contains_iff_mem.2 ht] at h; cases h
  ·have : i = m := by simpa using h
   omega
  obtain ⟨e, he, hb⟩ := Array.any_eq_true'.1 h
  simp only [Bool.and_eq_true, beq_iff_eq] at hb
  exact ⟨e, he, hb.1, hb.2⟩
 subst hm
 rcases Bool.or_eq_true_iff.1 g4 with g | g
 ·simp at g
 have := List.all_eq_true.1 g j (by simpa using hj)
 obtain ⟨e, he, hb⟩ := Array.any_eq_true'.1 this
 simp only [Bool.and_eq_true, beq_iff_eq] at hb
 exact ⟨e, he, hb.1, hb.2⟩
def GivesOp (P : Program) (o : Oper) (ρ : Operand -> Value) (W : World) (T : Value -> World -> Prop) : Prop := match (execOp ρ o).run P W with
 | .ok (.value v) W' => T v W'
 | .ok .skip W' => T undef W'
 | .ok (.enter f args) W' => Calls P f args W' (fun e W'' => ∃ v, e = .returned v /\ T v W'')
 | _ => False
theorem GivesOp.wp {P : Program} {o : Oper} {ρ : Operand -> Value} {a' : Act} {W : World} {T : Value -> World -> Prop} {Q : Exit -> Act -> World -> Prop} (h : GivesOp P o ρ W T) (he : execOp a'.eval o = execOp ρ o) :
  o.wp P a' W (fun a'' W' => ∃ v, a'' = a'.put o.dst v /\ T v W') Q := by
 unfold GivesOp at h
 unfold Oper.wp
 rw [he]
 generalize (execOp ρ o).run P W = r at *
 cases r with
 | ok n w' =>
  cases n <;> simp only at h <;> simp only [Oper.upon]
  case value v => exact ⟨v, rfl, h⟩
  case skip => exact ⟨undef, rfl, h⟩
  case enter f args =>
   refine Calls.mono h (fun e w'' he => ?_)
   obtain ⟨v, rfl, ht⟩ := he
   exact ⟨v, rfl, ht⟩
 | halt x w' => simp only at h
structure Sees (ops : Array Oper) (a : Act) (m : Nat) (vs : Nat -> Value) (ρ : Operand -> Value) : Prop where
 ins : ∀ j t, j < m -> dstAt ops j = some t -> t < a.tmps.size -> ρ (.tmp t) = vs j
 out : ∀ t, ((List.range m).all fun j => dstAt ops j != some t) = true -> ρ (.tmp t) = a.eval (.tmp t)
 const : ∀ c, ρ (.const c) = c
 glob : ∀ g, ρ (.global g) = .pointer (some ⟨g, 0, none⟩)
 func : ∀ f, ρ (.func f) = .func (.func f) #[] #[]
theorem sees_acts {ops : Array Oper} (hd : DstApart ops) (a : Act) (m : Nat) (vs : Nat -> Value) : Sees ops a m vs (acts ops a vs (List.range m)).eval where
 ins := fun j t hj ht hs => by rw [acts_eval_in hd (by simpa using hj) ht, if_pos hs]
 out := fun t ht => acts_eval_out (fun j hj => by have := List.all_eq_true.1 ht j hj; simpa using this)
 const := fun _ => rfl
 glob := fun _ => rfl
 func := fun _ => rfl
def upd (vs : Nat -> Value) (i : Nat) (v : Value) : Nat -> Value := fun j => if j = i then v else vs j
def comesAfter (ops : Array Oper) : Nat -> Nat -> Nat -> Bool
 | 0, _, _ => false
 | f + 1, i, k => match ops[i]? with
  | none => false
  | some o => o.after.any fun e => Region.binds .any e && (e.on == k || comesAfter ops f e.on k)
theorem comesAfter_mem {ops : Array Oper} {L : ZN} (hcl : ∀ i ∈ L, ∀ o, ops[i]? = some o -> ∀ e ∈ o.after, Region.binds .any e = true -> e.on ∈ L) : ∀ (f i k : Nat), i ∈ L -> comesAfter ops f i k = true -> k ∈ L := by
 intro f
 induction f with
 | zero => intro i k _ h; simp [comesAfter] at h
 | succ f ih =>
  intro i k hi h
  rw [comesAfter] at h
  cases ho : ops[i]? with
  | none => rw [ho] at h; cases h
  | some o =>
   rw [ho] at h
   obtain ⟨e, he, hb⟩ := Array.any_eq_true'.1 h
   simp only [Bool.and_eq_true, Bool.or_eq_true, beq_iff_eq] at hb
   have hm := hcl i hi o ho e he hb.1
   rcases hb.2 with h1 | h1
   ·rw [<- h1]; exact hm
   exact ih e.on k hm h1
theorem comesAfter_ready {ops : Array Oper} {L : ZN} (hcl : ∀ i ∈ L, ∀ o, ops[i]? = some o -> ∀ e ∈ o.after, Region.binds .any e = true -> e.on ∈ L) {i : Nat} {o : Oper} (ho : ops[i]? = some o) (hd : ∀ e ∈ o.after, Region.binds .any e = true -> e.on ∈ L) : ∀ (f k : Nat), comesAfter ops f i k = true -> k ∈ L := by
 intro f k h
 cases f with
 | zero => simp [comesAfter] at h
 | succ f =>
  rw [comesAfter, ho] at h
  obtain ⟨e, he, hb⟩ := Array.any_eq_true'.1 h
  simp only [Bool.and_eq_true, Bool.or_eq_true, beq_iff_eq] at hb
  have hm := hd e he hb.1
  rcases hb.2 with h1 | h1
  ·rw [<- h1]; exact hm
  exact comesAfter_mem hcl f e.on k hm h1
def looksTo (ops : Array Oper) (c i : Nat) : Bool := match ops[c]? with | none => false | some o => o.after.any fun e => isData e && e.on == i
def outlasts (ops : Array Oper) (m : Nat) (Kp : ZN) (i k : Nat) : Bool := !comesAfter ops m i k && (Kp.contains i || (List.range m).any fun c => c != k && !comesAfter ops m k c && looksTo ops c i)
section
variable {P : Program} {ops : Array Oper} {Q : Exit -> Act -> World -> Prop} {a : Act} {m : Nat} (Kp : ZN) (G : ZN -> World -> Prop) (E : Nat -> World -> World -> Prop) (R : Nat -> Value -> World -> Prop)
theorem wpAny_grow (hok : okGrow ops m = true) (hRE : ∀ i k v W W', i < m -> k < m -> i ≠ k -> outlasts ops m Kp i k = true -> R i v W -> E k W W' -> R i v W')
  (hstep : ∀ i o, i < m -> ops[i]? = some o -> ∀ L vs W, i ∉ L -> (∀ j ∈ L, comesAfter ops m j i = false) -> G L W -> (∀ e ∈ o.after, isData e = true -> R e.on (vs e.on) W) -> ∀ ρ, Sees ops a m vs ρ -> GivesOp P o ρ W (fun v W' => E i W W' /\ G (L ++ [i]) W' /\ R i v W'))
  (hend : ∀ L vs W, (∀ j, j < m -> j ∈ L) -> G L W -> (∀ j ∈ Kp, j < m -> R j (vs j) W) -> if m = ops.size then Q .normal (acts ops a vs (List.range m)) W else wpOp P ops Q m (fun a w => Q .normal a w) (acts ops a vs (List.range m)) W) :
  ∀ (fuel : Nat) (L : ZN) (vs : Nat -> Value) (W : World) (listed : Array Bool), listed.size = ops.size -> (∀ j, j < ops.size -> (listed.getD j true = true ↔ j ∈ L)) -> L.Nodup -> (∀ j ∈ L, j < m) -> ((List.range ops.size).filter (fun j => !L.contains j)).length <= fuel -> G L W -> (∀ i ∈ L, ∀ o, ops[i]? = some o -> ∀ e ∈ o.after, Region.binds .any e = true -> e.on ∈ L) -> (∀ j ∈ L, (j ∈ Kp \/ ∃ c, c < m /\ c ∉ L /\ looksTo ops c j = true) -> R j (vs j) W) ->
   wpAny P .any ops Q fuel listed (acts ops a vs L) W := by
 obtain ⟨hns, hm1, hm2, hda, hspec⟩ := okGrow_spec hok
 have hperm : ∀ L : ZN, L.Nodup -> (∀ j ∈ L, j < m) -> (∀ j, j < m -> j ∈ L) -> L.Perm (List.range m) := fun L h1 h2 h3 =>
  (List.perm_ext_iff_of_nodup h1 List.nodup_range).2 (fun j => ⟨fun h => by simpa using h2 j h, fun h => h3 j (by simpa using h)⟩)
 -- all below m are listed if none of them is ready
 have hall : ∀ (L : ZN) (listed : Array Bool), listed.size = ops.size -> (∀ j, j < ops.size -> (listed.getD j true = true ↔ j ∈ L)) -> (∀ j ∈ Region.ready .any ops listed, ¬ j < m) -> ∀ j, j < m -> j ∈ L := by
  intro L listed hsz hL hr j
  induction j using Nat.strongRecOn with
  | _ j ih =>
   intro hj
   by_cases hjL : j ∈ L
   ·exact hjL
   exfalso
   refine hr j ?_ hj
   have hjs : j < ops.size := by omega
   rw [mem_ready]
   obtain ⟨o, ho⟩ : ∃ o, ops[j]? = some o := ⟨ops[j], Array.getElem?_eq_getElem hjs⟩
   refine ⟨?_, o, ho, fun e he hb => ?_⟩
   ·cases hx : listed.getD j true
    ·rfl
    exact absurd ((hL j hjs).1 hx) hjL
   have hlt := ((hspec j o ho).2.1 e he).1 hb
   have hm := ih e.on hlt (by omega)
   have := (hL e.on (by omega)).2 hm
   have hin : e.on < listed.size := by rw [hsz]; omega
   simpa [Array.getD, hin] using this
 -- what is asked when all below m are listed
 have hfin : ∀ (L : ZN) (vs : Nat -> Value) (W : World), L.Nodup -> (∀ j ∈ L, j < m) -> (∀ j, j < m -> j ∈ L) -> G L W -> (∀ j ∈ L, (j ∈ Kp \/ ∃ c, c < m /\ c ∉ L /\ looksTo ops c j = true) -> R j (vs j) W) ->
   if m = ops.size then Q .normal (acts ops a vs L) W else wpOp P ops Q m (fun a w => Q .normal a w) (acts ops a vs L) W := by
  intro L vs W hnd hLm hcov hE hR
  rw [acts_perm hda (hperm L hnd hLm hcov)]
  exact hend L vs W hcov hE (fun j hk hj => hR j (hcov j hj) (Or.inl hk))
 intro fuel
 induction fuel with
 | zero =>
  intro L vs W listed hsz hL hnd hLm hlen hE hcl hR
  have hcov : ∀ j, j < ops.size -> j ∈ L := fun j hj => by
   have h0 := List.eq_nil_of_length_eq_zero (Nat.le_zero.1 hlen)
   have : j ∉ (List.range ops.size).filter (fun j => !L.contains j) := by rw [h0]; simp
   simpa [hj] using this
  have hmn : m = ops.size := by
   rcases Nat.lt_or_ge m ops.size with h | h
   ·have := hLm m (hcov m h); omega
   omega
  have hf := hfin L vs W hnd hLm (fun j hj => hcov j (by omega)) hE hR
  rw [if_pos hmn] at hf
  refine ⟨?_, hf⟩
  rw [List.eq_nil_iff_forall_not_mem]
  intro j hj
  obtain ⟨h0, o, ho, _⟩ := mem_ready.1 hj
  have := (hL j (Array.getElem?_eq_some_iff.1 ho).1).2 (hcov j (Array.getElem?_eq_some_iff.1 ho).1)
  rw [this] at h0; cases h0
 | succ fuel ih =>
  intro L vs W listed hsz hL hnd hLm hlen hE hcl hR
  refine ⟨fun hr => ?_, fun i hi => ?_⟩
  ·have hcov := hall L listed hsz hL (by rw [hr]; simp)
   have hf := hfin L vs W hnd hLm hcov hE hR
   by_cases hmn : m = ops.size
   ·rw [if_pos hmn] at hf; exact hf
   exfalso
   have hms : m < ops.size := by omega
   have : m ∈ Region.ready .any ops listed := by
    rw [mem_ready]
    obtain ⟨o, ho⟩ : ∃ o, ops[m]? = some o := ⟨ops[m], Array.getElem?_eq_getElem hms⟩
    refine ⟨?_, o, ho, fun e he hb => ?_⟩
    ·cases hx : listed.getD m true
     ·rfl
     have := hLm m ((hL m hms).1 hx); omega
    have hlt := ((hspec m o ho).2.1 e he).1 hb
    have := (hL e.on (by omega)).2 (hcov e.on hlt)
    have hin : e.on < listed.size := by rw [hsz]; omega
    simpa [Array.getD, hin] using this
   rw [hr] at this
   simp at this
  obtain ⟨h0, o, ho, hdep⟩ := mem_ready.1 hi
  have his : i < ops.size := (Array.getElem?_eq_some_iff.1 ho).1
  have hiL : i ∉ L := fun h => by rw [(hL i his).2 h] at h0; cases h0
  have hdepL : ∀ e ∈ o.after, Region.binds .any e = true -> e.on ∈ L := fun e he hb => by
   have h1 := hdep e he hb
   have hlt := ((hspec i o ho).2.1 e he).1 hb
   have hin : e.on < listed.size := by rw [hsz]; omega
   exact (hL e.on (by omega)).1 (by simpa [Array.getD, hin] using h1)
  have hlist : ∀ j, j < ops.size -> ((listed.setIfInBounds i true).getD j true = true ↔ j ∈ L ++ [i]) := fun j hj => by
   by_cases hij : i = j
   ·subst hij; simp [hsz, his]
   rw [getD_set_ne true hij, hL j hj]; simp; intro e; exact absurd e.symm hij
  by_cases him : i < m
  ·-- one of the operations that make memory
   have hnc : ∀ j ∈ L, comesAfter ops m j i = false := fun j hj => by
    cases hx : comesAfter ops m j i
    ·rfl
    exact absurd (comesAfter_mem hcl m j i hj hx) hiL
   have hg := hstep i o him ho L vs W hiL hnc hE (fun e he hb => hR _ (hdepL e he (((hspec i o ho).2.1 e he).2 hb)) (Or.inr ⟨i, him, hiL, by unfold looksTo; rw [ho]; exact Array.any_eq_true'.2 ⟨e, he, by simp [hb]⟩⟩)) _ (sees_acts hda a m vs)
   have hex : execOp (acts ops a vs L).eval o = execOp (acts ops a vs (List.range m)).eval o := by
    refine execOp_congr o (Region.noSelect_spec hns i o · · ho) (fun x hx => ?_)
    cases x with
    | tmp t =>
     have hlook : t ∈ o.looksAt ops := List.mem_append_left _ (List.mem_filterMap.2 ⟨.tmp t, by simpa using hx, rfl⟩)
     by_cases hex : ∃ j, j < m /\ dstAt ops j = some t
     ·obtain ⟨j, hjm, hj⟩ := hex
      obtain ⟨e, he, hb, rfl⟩ := (hspec i o ho).2.2.1 him j t hjm hj hlook
      have hjL := hdepL e he hb
      rw [acts_eval_in hda hjL hj, acts_eval_in hda (by simpa using hLm _ hjL) hj]
     have h1 : ∀ j, j < m -> dstAt ops j ≠ some t := fun j hjm hj => hex ⟨j, hjm, hj⟩
     rw [acts_eval_out (fun j hjL => h1 j (hLm j hjL)), acts_eval_out (fun j hjr => h1 j (by simpa using hjr))]
    | const v => rfl
    | global g => rfl
    | func f => rfl
   unfold wpOp
   simp only [ho]
   rw [if_pos (by unfold Region.wanted; rw [(hspec i o ho).1 him])]
   left
   refine Oper.wp_mono ?_ (hg.wp hex)
   rintro a' W' ⟨v, rfl, hEW, hE', hRv⟩
   have e1 : (acts ops a vs L).put o.dst v = acts ops a (upd vs i v) (L ++ [i]) := by
    rw [acts_snoc, acts_congr (vs := upd vs i v) (vs' := vs) (fun j hj => by unfold upd; rw [if_neg (fun e => hiL (by rw [<- e]; exact hj))])]
    simp [upd, dstAt, ho]
   rw [e1]
   refine ih (L ++ [i]) (upd vs i v) W' _ (by simpa using hsz) hlist ?_ ?_ ?_ hE' ?_ ?_
   ·rw [List.nodup_append]
    exact ⟨hnd, by simp, fun x hx y hy e => by simp at hy; subst hy; subst e; exact hiL hx⟩
   ·intro j hj
    rcases List.mem_append.1 hj with h | h
    ·exact hLm j h
    simp at h; omega
   ·have h1 : (List.range ops.size).filter (fun j => !(L ++ [i]).contains j) = ((List.range ops.size).filter (fun j => !L.contains j)).filter (fun j => j != i) := by
     rw [List.filter_filter]
     congr 1
     funext j
     simp only [List.contains_append, Bool.not_or]
     rw [Bool.and_comm]
     congr 1
     rw [Bool.eq_iff_iff]; simp [bne]
    have h2 : (((List.range ops.size).filter (fun j => !L.contains j)).filter (fun j => j != i)).length < ((List.range ops.size).filter (fun j => !L.contains j)).length := by
     rw [List.length_filter_lt_length_iff_exists]
     exact ⟨i, by simp [his, hiL], by simp⟩
    rw [h1]; omega
   ·intro j hj o' ho' e he hb
    rcases List.mem_append.1 hj with h | h
    ·exact List.mem_append_left _ (hcl j h o' ho' e he hb)
    simp at h; subst h
    rw [ho] at ho'
    cases ho'
    exact List.mem_append_left _ (hdepL e he hb)
   intro j hj hlive
   rcases List.mem_append.1 hj with h | h
   ·have : upd vs i v j = vs j := by unfold upd; rw [if_neg (fun e => hiL (by rw [<- e]; exact h))]
    rw [this]
    have hlive' : j ∈ Kp \/ ∃ c, c < m /\ c ∉ L /\ looksTo ops c j = true := hlive.imp id (fun ⟨c, h1, h2, h3⟩ => ⟨c, h1, fun hc => h2 (List.mem_append_left _ hc), h3⟩)
    refine hRE j i _ W W' (hLm j h) him (fun e => hiL (e ▸ h)) ?_ (hR j h hlive') hEW
    unfold outlasts
    rw [Bool.and_eq_true, Bool.not_eq_true', Bool.or_eq_true]
    refine ⟨?_, ?_⟩
    ·cases hx : comesAfter ops m j i
     ·rfl
     exact absurd (comesAfter_mem hcl m j i h hx) hiL
    rcases hlive with hk | ⟨c, h1, h2, h3⟩
    ·exact Or.inl (List.contains_iff_mem.2 hk)
    refine Or.inr (List.any_eq_true.2 ⟨c, by simpa using h1, ?_⟩)
    rw [h3, Bool.and_true, Bool.and_eq_true, bne_iff_ne, Bool.not_eq_true']
    refine ⟨fun e => by subst e; exact h2 (by simp), ?_⟩
    cases hx : comesAfter ops m i c
    ·rfl
    exact absurd (List.mem_append_left _ (comesAfter_ready hcl ho hdepL m c hx)) h2
   simp at h; subst h; simpa [upd] using hRv
  -- the last one
  obtain rfl : i = m := by omega
  have hcov : ∀ j, j < i -> j ∈ L := fun j hj => by
   obtain ⟨e, he, hb, rfl⟩ := (hspec i o ho).2.2.2 rfl j hj
   exact hdepL e he hb
  have hf := hfin L vs W hnd hLm hcov hE hR
  rw [if_neg (by omega)] at hf
  refine wpOp_mono (fun a' W' hq => ?_) hf
  refine wpAny_done ?_ hq fuel
  rw [List.eq_nil_iff_forall_not_mem]
  intro j hj
  obtain ⟨h0', o', ho', _⟩ := mem_ready.1 hj
  have hjs := (Array.getElem?_eq_some_iff.1 ho').1
  have : j ∈ L ++ [i] := by
   by_cases hji : j < i
   ·exact List.mem_append_left _ (hcov j hji)
   have : j = i := by omega
   simp [this]
  rw [(hlist j hjs).2 this] at h0'; cases h0'
theorem wp_region_growL {id : Nat} {w : World} (hm : P.follows .mixedOrders = true) (hok : okGrow ops m = true) (hG : G [] w.drew) (hRE : ∀ i k v W W', i < m -> k < m -> i ≠ k -> outlasts ops m Kp i k = true -> R i v W -> E k W W' -> R i v W')
  (hstep : ∀ i o, i < m -> ops[i]? = some o -> ∀ L vs W, i ∉ L -> (∀ j ∈ L, comesAfter ops m j i = false) -> G L W -> (∀ e ∈ o.after, isData e = true -> R e.on (vs e.on) W) -> ∀ ρ, Sees ops a m vs ρ -> GivesOp P o ρ W (fun v W' => E i W W' /\ G (L ++ [i]) W' /\ R i v W'))
  (hend : ∀ L vs W, (∀ j, j < m -> j ∈ L) -> G L W -> (∀ j ∈ Kp, j < m -> R j (vs j) W) -> if m = ops.size then Q .normal (acts ops a vs (List.range m)) W else wpOp P ops Q m (fun a w => Q .normal a w) (acts ops a vs (List.range m)) W) :
  (Code.region id ops true).wp P Q a w := by
 refine wp_region_any hm ?_
 refine wpAny_grow Kp G E R hok hRE hstep hend ops.size [] (fun _ => undef) _ _ (by simp) (fun j hj => ?_) List.nodup_nil (fun j hj => by simp at hj) ?_ hG (fun j hj => by simp at hj) (fun j hj => by simp at hj)
 ·simp [hj]
 exact Nat.le_trans (List.length_filter_le _ _) (by simp)
end
section
variable {P : Program} {ops : Array Oper} {Q : Exit -> Act -> World -> Prop} {a : Act} {m : Nat} (Kp : ZN) (G : World -> Prop) (E : Nat -> World -> World -> Prop) (R : Nat -> Value -> World -> Prop)
theorem wp_region_grow {id : Nat} {w : World} (hm : P.follows .mixedOrders = true) (hok : okGrow ops m = true) (hG : G w.drew) (hRE : ∀ i k v W W', i < m -> k < m -> i ≠ k -> outlasts ops m Kp i k = true -> R i v W -> E k W W' -> R i v W')
  (hstep : ∀ i o, i < m -> ops[i]? = some o -> ∀ vs W, G W -> (∀ e ∈ o.after, isData e = true -> R e.on (vs e.on) W) -> ∀ ρ, Sees ops a m vs ρ -> GivesOp P o ρ W (fun v W' => E i W W' /\ G W' /\ R i v W'))
  (hend : ∀ vs W, G W -> (∀ j ∈ Kp, j < m -> R j (vs j) W) -> if m = ops.size then Q .normal (acts ops a vs (List.range m)) W else wpOp P ops Q m (fun a w => Q .normal a w) (acts ops a vs (List.range m)) W) :
  (Code.region id ops true).wp P Q a w :=
 wp_region_growL Kp (fun _ W => G W) E R hm hok hG hRE (fun i o hi ho _ vs W _ _ => hstep i o hi ho vs W) (fun _ vs W _ => hend vs W)
end
theorem Sees.i {ops : Array Oper} {a : Act} {m : Nat} {vs : Nat -> Value} {ρ : Operand -> Value} (h : Sees ops a m vs ρ) (j t : Nat) (h1 : j < m := by omega) (h2 : dstAt ops j = some t := by rfl) (h3 : Nat.ble (t + 1) a.tmps.size = true := by rfl) : ρ (.tmp t) = vs j := h.ins j t h1 h2 (Nat.le_of_ble_eq_true h3)
theorem gives_append {t e : TypeId} {z : Value} {size bytes : Nat} (E : ElemT t e z size bytes) {ρ : Operand -> Value} {W : World} {T : Value -> World -> Prop} {dst : Option Tmp} {ty : TypeId} {pos : String} {after : Array Edge} {guard : Option (Nat × Bool)}
  (s x : Operand) (base : Nat) (v : Value) (n : Nat) (xs : List Value) (hs : ρ s = v) (B m c : Nat) (news : List Value) (hx : ρ x = .slice (some ⟨B, 0, none⟩) m c) (hl : news.length = m * size) (h1 : ∀ u ∈ news, u.oneCell' = true) (hm : 0 < m) (hn : n + m <= 100000000) (hb : bytes <= 1000)
  (hown : W.ownsRow base e size v n xs) (hnews : ∀ j (h : j < news.length), W.cell? ⟨B, j, none⟩ = some news[j]) (hbase : base <= W.heap.size)
  (h : ∀ g cap w', w'.ownsRow base e size (.slice (some ⟨g, 0, none⟩) (n + m) cap) (n + m) (xs ++ news) -> W.grownBy w' v.ownBlock -> (v.ownBlock = some g \/ g = W.heap.size) -> g < w'.heap.size -> T (.slice (some ⟨g, 0, none⟩) (n + m) cap) w') :
  GivesOp Tryz.prog { dst := dst, op := .call { callee := .builtin .append, args := #[s, x], argTypes := #[t, t] }, type := ty, pos := pos, after := after, guard := guard } ρ W T := by
 obtain ⟨i, hi, hz, hsz, hby⟩ := info_parts E.info
 obtain ⟨g, cap, w', hrun, h2, h3, h4, h5⟩ := run_append_lies (P := Tryz.prog) W t ty base e i z size bytes E.ht hi hz hsz hby E.hzs E.hsz v n xs hown ⟨B, 0, none⟩ m c news hl (by
   intro j u hu
   obtain ⟨hj, rfl⟩ := List.getElem?_eq_some_iff.1 hu
   have : (⟨B, 0, none⟩ : Addr).add j = ⟨B, j, none⟩ := by unfold Addr.add; split <;> simp_all
   rw [this]
   exact hnews j hj) h1 hm (by simp only [maxLen]; omega) (by
   calc (n + m) * bytes <= 100000000 * 1000 := Nat.mul_le_mul hn hb
    _ <= 140737488355328 := by omega) hbase _ rfl
 unfold GivesOp
 have he : execOp ρ { dst := dst, op := .call { callee := .builtin .append, args := #[s, x], argTypes := #[t, t] }, type := ty, pos := pos, after := after, guard := guard } = (do pure (.value (<- Builtin.append_ #[t, t] ty #[v, .slice (some ⟨B, 0, none⟩) m c]))) := by
  rw [<- hs, <- hx, BigFrame.execOp_builtin, BigFrame.builtin_append]; simp
 rw [he]
 simp only [Sem.run_bind, hrun]
 exact h g cap w' h2 h3 h4 h5
theorem alloc_at {w : World} {o : Obj} {n : Nat} (h : n = w.heap.size) : (w.alloc o).heap[n]? = some o := by subst h; exact alloc_new w o
def GrG (wr W : World) : Prop := Ext wr W
def GrE (_ : Nat) (W W' : World) : Prop := Ext W W'
def GrP (R : Nat -> Value -> World -> Prop) (j : Nat) (u : Value) (W : World) : Prop := R j u W
theorem wpOp_lastG {P : Program} {ops : Array Oper} {Q : Exit -> Act -> World -> Prop} {a : Act} {w : World} {i : Nat} {o : Oper} (ho : ops[i]? = some o) (h : wpList P ops Q [o] a w) : wpOp P ops Q i (fun a w => Q .normal a w) a w := by
 unfold wpOp
 rw [ho]
 exact h
def isDataG (e : Edge) : Bool := match e.ground with | .data => true | .guard => true | _ => false
def okGrowG (ops : Array Oper) (m n : Nat) : Bool :=
 Region.noSelect ops && decide (m <= ops.size) && decide (ops.size <= m + 1) &&
 ((List.range ops.size).all fun i => (List.range ops.size).all fun j => i == j || dstAt ops i == none || dstAt ops i != dstAt ops j) &&
 ((List.range ops.size).all fun i => match ops[i]? with
  | none => false
  | some o => ((match o.guard with | none => true | some (j, _) => (match dstAt ops j with | none => false | some t => decide (t < n)) && o.after.any (fun e => isDataG e && e.on == j)) || i == m) && (o.after.all fun e => (!Region.binds .any e || decide (e.on < i)) && (!isDataG e || Region.binds .any e)) &&
   ((List.range m).all fun j => match dstAt ops j with
    | none => true
    | some t => !(o.looksAt ops).contains t || (i == m) || o.after.any (fun e => Region.binds .any e && e.on == j)) &&
   (i != m || (List.range m).all fun j => o.after.any (fun e => Region.binds .any e && e.on == j)))
theorem okGrow_specG {ops : Array Oper} {m n : Nat} (h : okGrowG ops m n = true) : Region.noSelect ops = true /\ m <= ops.size /\ ops.size <= m + 1 /\ DstApart ops /\
  (∀ i o, ops[i]? = some o -> (i < m -> ∀ j b, o.guard = some (j, b) -> ∃ t, dstAt ops j = some t /\ t < n /\ ∃ e ∈ o.after, isDataG e = true /\ e.on = j) /\ (∀ e ∈ o.after, (Region.binds .any e = true -> e.on < i) /\ (isDataG e = true -> Region.binds .any e = true)) /\ (i < m -> ∀ j t, j < m -> dstAt ops j = some t -> t ∈ o.looksAt ops -> ∃ e ∈ o.after, Region.binds .any e = true /\ e.on = j) /\
   (i = m -> ∀ j, j < m -> ∃ e ∈ o.after, Region.binds .any e = true /\ e.on = j)) := by
 simp only [okGrowG, Bool.and_eq_true, decide_eq_true_eq] at h
 obtain ⟨⟨⟨⟨h1, h2⟩, h3⟩, h4⟩, h5⟩ := h
 refine ⟨h1, h2, h3, ?_, ?_⟩
 ·intro i j d hi hj
  have li : i < ops.size := by
   unfold dstAt at hi
   rcases Nat.lt_or_ge i ops.size with h | h
   ·exact h
   rw [Array.getElem?_eq_none h] at hi; simp at hi
  have lj : j < ops.size := by
   unfold dstAt at hj
   rcases Nat.lt_or_ge j ops.size with h | h
   ·exact h
   rw [Array.getElem?_eq_none h] at hj; simp at hj
  have := List.all_eq_true.1 (List.all_eq_true.1 h4 i (by simpa using li)) j (by simpa using lj)
  simpa [hi, hj] using this
 intro i o ho
 have li : i < ops.size := (Array.getElem?_eq_some_iff.1 ho).1
 have h6 := List.all_eq_true.1 h5 i (by simpa using li)
 simp only [ho, Bool.and_eq_true] at h6
 obtain ⟨⟨⟨g1, g2⟩, g3⟩, g4⟩ := h6
 refine ⟨fun hm => ?_, fun e he => ?_, fun hm j t hjm hj ht => ?_, fun hm j hj => ?_⟩
 ·intro j b hg
  rcases Bool.or_eq_true_iff.1 g1 with g | g
  ·rw [hg] at g
   simp only [Bool.and_eq_true] at g
   cases hd : dstAt ops j with
   | none => rw [hd] at g; simp at g
   | some t =>
    rw [hd] at g
    obtain ⟨e, he, hb⟩ := Array.any_eq_true'.1 g.2
    simp only [Bool.and_eq_true, beq_iff_eq] at hb
    exact ⟨t, rfl, by simpa using g.1, e, he, hb.1, hb.2⟩
  have : i = m := by simpa using g
  omega
 ·have := Array.all_eq_true_iff_forall_mem.1 g2 e he
  simp only [Bool.and_eq_true, Bool.or_eq_true, Bool.not_eq_true', decide_eq_true_eq] at this
  refine ⟨fun hb => ?_, fun hb => ?_⟩
  ·rcases this.1 with h | h
   ·rw [hb] at h; cases h
   exact h
  rcases this.2 with h | h
  ·rw [hb] at h; cases h
  exact h
 ·have := List.all_eq_true.1 g3 j (by simpa using hjm)
  rw [hj] at this
  simp only [Bool.or_eq_true, Bool.not_eq_true'] at this
  rcases this with (h | h) | h
  ·rw [List.contains_iff_mem.2 ht] at h; cases h
  ·have : i = m := by simpa using h
   omega
  obtain ⟨e, he, hb⟩ := Array.any_eq_true'.1 h
  simp only [Bool.and_eq_true, beq_iff_eq] at hb
  exact ⟨e, he, hb.1, hb.2⟩
 subst hm
 rcases Bool.or_eq_true_iff.1 g4 with g | g
 ·simp at g
 have := List.all_eq_true.1 g j (by simpa using hj)
 obtain ⟨e, he, hb⟩ := Array.any_eq_true'.1 this
 simp only [Bool.and_eq_true, beq_iff_eq] at hb
 exact ⟨e, he, hb.1, hb.2⟩
def looksToG (ops : Array Oper) (c i : Nat) : Bool := match ops[c]? with | none => false | some o => o.after.any fun e => isDataG e && e.on == i
def outlastsG (ops : Array Oper) (m : Nat) (Kp : ZN) (i k : Nat) : Bool := !comesAfter ops m i k && (Kp.contains i || (List.range m).any fun c => c != k && !comesAfter ops m k c && looksToG ops c i)
section
variable {P : Program} {ops : Array Oper} {Q : Exit -> Act -> World -> Prop} {a : Act} {m : Nat} (Kp : ZN) (G : ZN -> (Nat -> Value) -> World -> Prop) (E : Nat -> World -> World -> Prop) (R : Nat -> Value -> World -> Prop)
theorem wpAny_growS {n : Nat} (hok : okGrowG ops m n = true) (hN : n <= a.tmps.size) (sk : Nat -> Bool) (hSg : ∀ i o, i < m -> sk i = true -> ops[i]? = some o -> o.guard ≠ none) (hGd : ∀ i o j b, i < m -> ops[i]? = some o -> o.guard = some (j, b) -> ∀ v W, R j v W -> if sk i = true then v ≠ .bool b else v = .bool b) (hsk : ∀ i, i < m -> sk i = true -> ∀ L vs W, i ∉ L -> G L vs W -> E i W W /\ G (L ++ [i]) (upd vs i undef) W /\ R i undef W) (hRE : ∀ i k v W W', i < m -> k < m -> i ≠ k -> outlastsG ops m Kp i k = true -> R i v W -> E k W W' -> R i v W')
  (hstep : ∀ i o, i < m -> sk i = false -> ops[i]? = some o -> ∀ L vs W, i ∉ L -> (∀ j ∈ L, comesAfter ops m j i = false) -> G L vs W -> (∀ e ∈ o.after, isDataG e = true -> R e.on (vs e.on) W) -> ∀ ρ, Sees ops a m vs ρ -> GivesOp P o ρ W (fun v W' => E i W W' /\ G (L ++ [i]) (upd vs i v) W' /\ R i v W'))
  (hend : ∀ L vs W, (∀ j, j < m -> j ∈ L) -> G L vs W -> (∀ j ∈ Kp, j < m -> R j (vs j) W) -> if m = ops.size then Q .normal (acts ops a vs (List.range m)) W else wpOp P ops Q m (fun a w => Q .normal a w) (acts ops a vs (List.range m)) W) :
  ∀ (fuel : Nat) (L : ZN) (vs : Nat -> Value) (W : World) (listed : Array Bool), listed.size = ops.size -> (∀ j, j < ops.size -> (listed.getD j true = true ↔ j ∈ L)) -> L.Nodup -> (∀ j ∈ L, j < m) -> ((List.range ops.size).filter (fun j => !L.contains j)).length <= fuel -> G L vs W -> (∀ i ∈ L, ∀ o, ops[i]? = some o -> ∀ e ∈ o.after, Region.binds .any e = true -> e.on ∈ L) -> (∀ j ∈ L, (j ∈ Kp \/ ∃ c, c < m /\ c ∉ L /\ looksToG ops c j = true) -> R j (vs j) W) ->
   wpAny P .any ops Q fuel listed (acts ops a vs L) W := by
 obtain ⟨hns, hm1, hm2, hda, hspec⟩ := okGrow_specG hok
 have hperm : ∀ L : ZN, L.Nodup -> (∀ j ∈ L, j < m) -> (∀ j, j < m -> j ∈ L) -> L.Perm (List.range m) := fun L h1 h2 h3 =>
  (List.perm_ext_iff_of_nodup h1 List.nodup_range).2 (fun j => ⟨fun h => by simpa using h2 j h, fun h => h3 j (by simpa using h)⟩)
 -- all below m are listed if none of them is ready
 have hall : ∀ (L : ZN) (listed : Array Bool), listed.size = ops.size -> (∀ j, j < ops.size -> (listed.getD j true = true ↔ j ∈ L)) -> (∀ j ∈ Region.ready .any ops listed, ¬ j < m) -> ∀ j, j < m -> j ∈ L := by
  intro L listed hsz hL hr j
  induction j using Nat.strongRecOn with
  | _ j ih =>
   intro hj
   by_cases hjL : j ∈ L
   ·exact hjL
   exfalso
   refine hr j ?_ hj
   have hjs : j < ops.size := by omega
   rw [mem_ready]
   obtain ⟨o, ho⟩ : ∃ o, ops[j]? = some o := ⟨ops[j], Array.getElem?_eq_getElem hjs⟩
   refine ⟨?_, o, ho, fun e he hb => ?_⟩
   ·cases hx : listed.getD j true
    ·rfl
    exact absurd ((hL j hjs).1 hx) hjL
   have hlt := ((hspec j o ho).2.1 e he).1 hb
   have hm := ih e.on hlt (by omega)
   have := (hL e.on (by omega)).2 hm
   have hin : e.on < listed.size := by rw [hsz]; omega
   simpa [Array.getD, hin] using this
 -- what is asked when all below m are listed
 have hfin : ∀ (L : ZN) (vs : Nat -> Value) (W : World), L.Nodup -> (∀ j ∈ L, j < m) -> (∀ j, j < m -> j ∈ L) -> G L vs W -> (∀ j ∈ L, (j ∈ Kp \/ ∃ c, c < m /\ c ∉ L /\ looksToG ops c j = true) -> R j (vs j) W) ->
   if m = ops.size then Q .normal (acts ops a vs L) W else wpOp P ops Q m (fun a w => Q .normal a w) (acts ops a vs L) W := by
  intro L vs W hnd hLm hcov hE hR
  rw [acts_perm hda (hperm L hnd hLm hcov)]
  exact hend L vs W hcov hE (fun j hk hj => hR j (hcov j hj) (Or.inl hk))
 intro fuel
 induction fuel with
 | zero =>
  intro L vs W listed hsz hL hnd hLm hlen hE hcl hR
  have hcov : ∀ j, j < ops.size -> j ∈ L := fun j hj => by
   have h0 := List.eq_nil_of_length_eq_zero (Nat.le_zero.1 hlen)
   have : j ∉ (List.range ops.size).filter (fun j => !L.contains j) := by rw [h0]; simp
   simpa [hj] using this
  have hmn : m = ops.size := by
   rcases Nat.lt_or_ge m ops.size with h | h
   ·have := hLm m (hcov m h); omega
   omega
  have hf := hfin L vs W hnd hLm (fun j hj => hcov j (by omega)) hE hR
  rw [if_pos hmn] at hf
  refine ⟨?_, hf⟩
  rw [List.eq_nil_iff_forall_not_mem]
  intro j hj
  obtain ⟨h0, o, ho, _⟩ := mem_ready.1 hj
  have := (hL j (Array.getElem?_eq_some_iff.1 ho).1).2 (hcov j (Array.getElem?_eq_some_iff.1 ho).1)
  rw [this] at h0; cases h0
 | succ fuel ih =>
  intro L vs W listed hsz hL hnd hLm hlen hE hcl hR
  refine ⟨fun hr => ?_, fun i hi => ?_⟩
  ·have hcov := hall L listed hsz hL (by rw [hr]; simp)
   have hf := hfin L vs W hnd hLm hcov hE hR
   by_cases hmn : m = ops.size
   ·rw [if_pos hmn] at hf; exact hf
   exfalso
   have hms : m < ops.size := by omega
   have : m ∈ Region.ready .any ops listed := by
    rw [mem_ready]
    obtain ⟨o, ho⟩ : ∃ o, ops[m]? = some o := ⟨ops[m], Array.getElem?_eq_getElem hms⟩
    refine ⟨?_, o, ho, fun e he hb => ?_⟩
    ·cases hx : listed.getD m true
     ·rfl
     have := hLm m ((hL m hms).1 hx); omega
    have hlt := ((hspec m o ho).2.1 e he).1 hb
    have := (hL e.on (by omega)).2 (hcov e.on hlt)
    have hin : e.on < listed.size := by rw [hsz]; omega
    simpa [Array.getD, hin] using this
   rw [hr] at this
   simp at this
  obtain ⟨h0, o, ho, hdep⟩ := mem_ready.1 hi
  have his : i < ops.size := (Array.getElem?_eq_some_iff.1 ho).1
  have hiL : i ∉ L := fun h => by rw [(hL i his).2 h] at h0; cases h0
  have hdepL : ∀ e ∈ o.after, Region.binds .any e = true -> e.on ∈ L := fun e he hb => by
   have h1 := hdep e he hb
   have hlt := ((hspec i o ho).2.1 e he).1 hb
   have hin : e.on < listed.size := by rw [hsz]; omega
   exact (hL e.on (by omega)).1 (by simpa [Array.getD, hin] using h1)
  have hlist : ∀ j, j < ops.size -> ((listed.setIfInBounds i true).getD j true = true ↔ j ∈ L ++ [i]) := fun j hj => by
   by_cases hij : i = j
   ·subst hij; simp [hsz, his]
   rw [getD_set_ne true hij, hL j hj]; simp; intro e; exact absurd e.symm hij
  by_cases him : i < m
  ·-- one of the operations that make memory
   have hnc : ∀ j ∈ L, comesAfter ops m j i = false := fun j hj => by
    cases hx : comesAfter ops m j i
    ·rfl
    exact absurd (comesAfter_mem hcl m j i hj hx) hiL
   have hcont : ∀ v W', E i W W' -> G (L ++ [i]) (upd vs i v) W' -> R i v W' -> wpAny P .any ops Q fuel (listed.setIfInBounds i true) ((acts ops a vs L).put o.dst v) W' := by
    intro v W' hEW hE' hRv
    have e1 : (acts ops a vs L).put o.dst v = acts ops a (upd vs i v) (L ++ [i]) := by
     rw [acts_snoc, acts_congr (vs := upd vs i v) (vs' := vs) (fun j hj => by unfold upd; rw [if_neg (fun e => hiL (by rw [<- e]; exact hj))])]
     simp [upd, dstAt, ho]
    rw [e1]
    refine ih (L ++ [i]) (upd vs i v) W' _ (by simpa using hsz) hlist ?_ ?_ ?_ hE' ?_ ?_
    ·rw [List.nodup_append]
     exact ⟨hnd, by simp, fun x hx y hy e => by simp at hy; subst hy; subst e; exact hiL hx⟩
    ·intro j hj
     rcases List.mem_append.1 hj with h | h
     ·exact hLm j h
     simp at h; omega
    ·have h1 : (List.range ops.size).filter (fun j => !(L ++ [i]).contains j) = ((List.range ops.size).filter (fun j => !L.contains j)).filter (fun j => j != i) := by
      rw [List.filter_filter]
      congr 1
      funext j
      simp only [List.contains_append, Bool.not_or]
      rw [Bool.and_comm]
      congr 1
      rw [Bool.eq_iff_iff]; simp [bne]
     have h2 : (((List.range ops.size).filter (fun j => !L.contains j)).filter (fun j => j != i)).length < ((List.range ops.size).filter (fun j => !L.contains j)).length := by
      rw [List.length_filter_lt_length_iff_exists]
      exact ⟨i, by simp [his, hiL], by simp⟩
     rw [h1]; omega
    ·intro j hj o' ho' e he hb
     rcases List.mem_append.1 hj with h | h
     ·exact List.mem_append_left _ (hcl j h o' ho' e he hb)
     simp at h; subst h
     rw [ho] at ho'
     cases ho'
     exact List.mem_append_left _ (hdepL e he hb)
    intro j hj hlive
    rcases List.mem_append.1 hj with h | h
    ·have : upd vs i v j = vs j := by unfold upd; rw [if_neg (fun e => hiL (by rw [<- e]; exact h))]
     rw [this]
     have hlive' : j ∈ Kp \/ ∃ c, c < m /\ c ∉ L /\ looksToG ops c j = true := hlive.imp id (fun ⟨c, h1, h2, h3⟩ => ⟨c, h1, fun hc => h2 (List.mem_append_left _ hc), h3⟩)
     refine hRE j i _ W W' (hLm j h) him (fun e => hiL (e ▸ h)) ?_ (hR j h hlive') hEW
     unfold outlastsG
     rw [Bool.and_eq_true, Bool.not_eq_true', Bool.or_eq_true]
     refine ⟨?_, ?_⟩
     ·cases hx : comesAfter ops m j i
      ·rfl
      exact absurd (comesAfter_mem hcl m j i h hx) hiL
     rcases hlive with hk | ⟨c, h1, h2, h3⟩
     ·exact Or.inl (List.contains_iff_mem.2 hk)
     refine Or.inr (List.any_eq_true.2 ⟨c, by simpa using h1, ?_⟩)
     rw [h3, Bool.and_true, Bool.and_eq_true, bne_iff_ne, Bool.not_eq_true']
     refine ⟨fun e => by subst e; exact h2 (by simp), ?_⟩
     cases hx : comesAfter ops m i c
     ·rfl
     exact absurd (List.mem_append_left _ (comesAfter_ready hcl ho hdepL m c hx)) h2
    simp at h; subst h; simpa [upd] using hRv
   cases hss : sk i
   case true =>
    unfold wpOp
    simp only [ho]
    cases hgd : o.guard with
    | none => exact absurd hgd (hSg i o him hss ho)
    | some p =>
     obtain ⟨j, b⟩ := p
     obtain ⟨t, ht, htn, e, he, heD, rfl⟩ := (hspec i o ho).1 him j b hgd
     have hjL := hdepL e he (((hspec i o ho).2.1 e he).2 heD)
     have hv := hGd i o e.on b him ho hgd _ _ (hR e.on hjL (Or.inr ⟨i, him, hiL, by unfold looksToG; rw [ho]; exact Array.any_eq_true'.2 ⟨e, he, by simp [heD]⟩⟩))
     rw [if_pos hss] at hv
     rw [if_neg (by
      unfold Region.wanted
      rw [hgd]
      have hev := acts_eval_in hda (a := a) (vs := vs) hjL ht
      rw [if_pos (Nat.lt_of_lt_of_le htn hN)] at hev
      have hlt : t < (acts ops a vs L).tmps.size := by rw [acts_size]; exact Nat.lt_of_lt_of_le htn hN
      show ¬ (yielded ops (acts ops a vs L).tmps e.on == some b) = true
      simp only [Act.eval] at hev
      unfold yielded
      have hdd : (ops[e.on]?).bind (·.dst) = some t := ht
      rw [hdd]
      simp only [Option.bind_some]
      rw [Array.getD_eq_getD_getElem?, Array.getElem?_eq_getElem hlt, Option.getD_some] at hev
      rw [Array.getElem?_eq_getElem hlt, hev]
      cases hvs : vs e.on <;> simp
      intro hb
      exact hv (by rw [hvs, hb]))]
     obtain ⟨q1, q2, q3⟩ := hsk i him hss L vs W hiL hE
     exact hcont undef W q1 q2 q3
   have hg := hstep i o him hss ho L vs W hiL hnc hE (fun e he hb => hR _ (hdepL e he (((hspec i o ho).2.1 e he).2 hb)) (Or.inr ⟨i, him, hiL, by unfold looksToG; rw [ho]; exact Array.any_eq_true'.2 ⟨e, he, by simp [hb]⟩⟩)) _ (sees_acts hda a m vs)
   have hex : execOp (acts ops a vs L).eval o = execOp (acts ops a vs (List.range m)).eval o := by
    refine execOp_congr o (Region.noSelect_spec hns i o · · ho) (fun x hx => ?_)
    cases x with
    | tmp t =>
     have hlook : t ∈ o.looksAt ops := List.mem_append_left _ (List.mem_filterMap.2 ⟨.tmp t, by simpa using hx, rfl⟩)
     by_cases hex : ∃ j, j < m /\ dstAt ops j = some t
     ·obtain ⟨j, hjm, hj⟩ := hex
      obtain ⟨e, he, hb, rfl⟩ := (hspec i o ho).2.2.1 him j t hjm hj hlook
      have hjL := hdepL e he hb
      rw [acts_eval_in hda hjL hj, acts_eval_in hda (by simpa using hLm _ hjL) hj]
     have h1 : ∀ j, j < m -> dstAt ops j ≠ some t := fun j hjm hj => hex ⟨j, hjm, hj⟩
     rw [acts_eval_out (fun j hjL => h1 j (hLm j hjL)), acts_eval_out (fun j hjr => h1 j (by simpa using hjr))]
    | const v => rfl
    | global g => rfl
    | func f => rfl
   unfold wpOp
   simp only [ho]
   rw [if_pos (by
    unfold Region.wanted
    cases hgd : o.guard with
    | none => rfl
    | some p =>
     obtain ⟨j, b⟩ := p
     obtain ⟨t, ht, htn, e, he, heD, rfl⟩ := (hspec i o ho).1 him j b hgd
     have hjL := hdepL e he (((hspec i o ho).2.1 e he).2 heD)
     have hv := hGd i o e.on b him ho hgd _ _ (hR e.on hjL (Or.inr ⟨i, him, hiL, by unfold looksToG; rw [ho]; exact Array.any_eq_true'.2 ⟨e, he, by simp [heD]⟩⟩))
     rw [if_neg (by rw [hss]; decide)] at hv
     have hev := acts_eval_in hda (a := a) (vs := vs) hjL ht
     rw [if_pos (Nat.lt_of_lt_of_le htn hN), hv] at hev
     have hlt : t < (acts ops a vs L).tmps.size := by rw [acts_size]; exact Nat.lt_of_lt_of_le htn hN
     show (yielded ops (acts ops a vs L).tmps e.on == some b) = true
     simp only [Act.eval] at hev
     unfold yielded
     have hdd : (ops[e.on]?).bind (·.dst) = some t := ht
     rw [hdd]
     simp only [Option.bind_some]
     rw [Array.getD_eq_getD_getElem?, Array.getElem?_eq_getElem hlt, Option.getD_some] at hev
     rw [Array.getElem?_eq_getElem hlt, hev]
     simp)]
   left
   refine Oper.wp_mono ?_ (hg.wp hex)
   rintro a' W' ⟨v, rfl, hEW, hE', hRv⟩
   exact hcont v W' hEW hE' hRv
  -- the last one
  obtain rfl : i = m := by omega
  have hcov : ∀ j, j < i -> j ∈ L := fun j hj => by
   obtain ⟨e, he, hb, rfl⟩ := (hspec i o ho).2.2.2 rfl j hj
   exact hdepL e he hb
  have hf := hfin L vs W hnd hLm hcov hE hR
  rw [if_neg (by omega)] at hf
  refine wpOp_mono (fun a' W' hq => ?_) hf
  refine wpAny_done ?_ hq fuel
  rw [List.eq_nil_iff_forall_not_mem]
  intro j hj
  obtain ⟨h0', o', ho', _⟩ := mem_ready.1 hj
  have hjs := (Array.getElem?_eq_some_iff.1 ho').1
  have : j ∈ L ++ [i] := by
   by_cases hji : j < i
   ·exact List.mem_append_left _ (hcov j hji)
   have : j = i := by omega
   simp [this]
  rw [(hlist j hjs).2 this] at h0'; cases h0'
theorem wp_region_growS {id : Nat} {w : World} (hm : P.follows .mixedOrders = true) {n : Nat} (hok : okGrowG ops m n = true) (hN : n <= a.tmps.size) (sk : Nat -> Bool) (hSg : ∀ i o, i < m -> sk i = true -> ops[i]? = some o -> o.guard ≠ none) (hGd : ∀ i o j b, i < m -> ops[i]? = some o -> o.guard = some (j, b) -> ∀ v W, R j v W -> if sk i = true then v ≠ .bool b else v = .bool b) (hsk : ∀ i, i < m -> sk i = true -> ∀ L vs W, i ∉ L -> G L vs W -> E i W W /\ G (L ++ [i]) (upd vs i undef) W /\ R i undef W) (hG : G [] (fun _ => undef) w.drew) (hRE : ∀ i k v W W', i < m -> k < m -> i ≠ k -> outlastsG ops m Kp i k = true -> R i v W -> E k W W' -> R i v W')
  (hstep : ∀ i o, i < m -> sk i = false -> ops[i]? = some o -> ∀ L vs W, i ∉ L -> (∀ j ∈ L, comesAfter ops m j i = false) -> G L vs W -> (∀ e ∈ o.after, isDataG e = true -> R e.on (vs e.on) W) -> ∀ ρ, Sees ops a m vs ρ -> GivesOp P o ρ W (fun v W' => E i W W' /\ G (L ++ [i]) (upd vs i v) W' /\ R i v W'))
  (hend : ∀ L vs W, (∀ j, j < m -> j ∈ L) -> G L vs W -> (∀ j ∈ Kp, j < m -> R j (vs j) W) -> if m = ops.size then Q .normal (acts ops a vs (List.range m)) W else wpOp P ops Q m (fun a w => Q .normal a w) (acts ops a vs (List.range m)) W) :
  (Code.region id ops true).wp P Q a w := by
 refine wp_region_any hm ?_
 refine wpAny_growS Kp G E R hok hN sk hSg hGd hsk hRE hstep hend ops.size [] (fun _ => undef) _ _ (by simp) (fun j hj => ?_) List.nodup_nil (fun j hj => by simp at hj) ?_ hG (fun j hj => by simp at hj) (fun j hj => by simp at hj)
 ·simp [hj]
 exact Nat.le_trans (List.length_filter_le _ _) (by simp)
end
section
variable {P : Program} {ops : Array Oper} {Q : Exit -> Act -> World -> Prop} {a : Act} {m : Nat} (Kp : ZN) (G : ZN -> (Nat -> Value) -> World -> Prop) (E : Nat -> World -> World -> Prop) (R : Nat -> Value -> World -> Prop)
theorem wp_region_growLG {id : Nat} {w : World} (hm : P.follows .mixedOrders = true) {n : Nat} (hok : okGrowG ops m n = true) (hN : n <= a.tmps.size) (hGd : ∀ i o j b, i < m -> ops[i]? = some o -> o.guard = some (j, b) -> ∀ v W, R j v W -> v = .bool b) (hG : G [] (fun _ => undef) w.drew) (hRE : ∀ i k v W W', i < m -> k < m -> i ≠ k -> outlastsG ops m Kp i k = true -> R i v W -> E k W W' -> R i v W')
  (hstep : ∀ i o, i < m -> ops[i]? = some o -> ∀ L vs W, i ∉ L -> (∀ j ∈ L, comesAfter ops m j i = false) -> G L vs W -> (∀ e ∈ o.after, isDataG e = true -> R e.on (vs e.on) W) -> ∀ ρ, Sees ops a m vs ρ -> GivesOp P o ρ W (fun v W' => E i W W' /\ G (L ++ [i]) (upd vs i v) W' /\ R i v W'))
  (hend : ∀ L vs W, (∀ j, j < m -> j ∈ L) -> G L vs W -> (∀ j ∈ Kp, j < m -> R j (vs j) W) -> if m = ops.size then Q .normal (acts ops a vs (List.range m)) W else wpOp P ops Q m (fun a w => Q .normal a w) (acts ops a vs (List.range m)) W) :
  (Code.region id ops true).wp P Q a w := by
 exact wp_region_growS Kp G E R hm hok hN (fun _ => false) (fun _ _ _ h => by cases h) (fun i o j b hi ho hg v W hv => by rw [if_neg (by decide)]; exact hGd i o j b hi ho hg v W hv) (fun _ _ h => by cases h) hG hRE (fun i o hi _ ho => hstep i o hi ho) hend
end
def wbsV (V : Ex -> Bool) : List Wb -> Bool
 | [] => false
 | .mk _ c u :: r => (V c && !wbsV V u) || wbsV V r
def wbsOkT (P : Ex -> Prop) : List Wb -> Prop
 | [] => True
 | .mk _ c u :: r => P c /\ wbsOkT P u /\ u.length <= 1000000000000000 /\ wbsOkT P r
theorem wbsV_drop (V : Ex -> Bool) {l : List Wb} {k : Nat} (hk : k < l.length) : wbsV V (l.drop k) = ((V l[k].cond && !wbsV V l[k].unl) || wbsV V (l.drop (k + 1))) := by
 rw [List.drop_eq_getElem_cons hk]
 cases h : l[k] with
 | mk n c u => rw [wbsV]; rfl
theorem wbsOkT_at {P : Ex -> Prop} : (l : List Wb) -> wbsOkT P l -> (k : Nat) -> (hk : k < l.length) -> P l[k].cond /\ wbsOkT P l[k].unl /\ l[k].unl.length <= 1000000000000000
 | [], _, k, hk => by simp at hk
 | .mk n c u :: r, h, 0, _ => by
  unfold wbsOkT at h
  exact ⟨h.1, h.2.1, h.2.2.1⟩
 | .mk n c u :: r, h, k + 1, hk => by
  unfold wbsOkT at h
  simpa using wbsOkT_at r h.2.2.2 k (by simpa using hk)
def TruthFor (w0 : World) (sa : OA) (sn sc : Nat) (a : OA) (n c : Nat) (fa : OA) (fn fc : Nat) (V : Ex -> Bool) (P : Ex -> Prop) : Prop :=
 ∀ (e : Ex) (x : ExV) (W : World), Ext w0 W -> P e -> IsEx W e x.val -> Calls Tryz.prog 130 #[.agg #[.slice sa sn sc], .slice a n c, x.val, .slice fa fn fc] W (GivesE (.bool (V e)) W)
def WbBox (nm : BA) (x : ExV) (au : OA) (nu cu : Nat) : Obj := .cells #[.string nm, .int .i64 x.op, .string x.name, .slice x.aw x.nw x.cw, .int .i64 x.lo, .int .i64 x.hi, .slice x.aa x.na x.ca, .slice au nu cu] 146 (0, 0)
def BkI (V : Ex -> Bool) (u : List Wb) (n : Nat) (w : World) (i : Value) (wr : World) : Prop := ∃ k : Nat, i = .int .i64 k /\ k <= n /\ wbsV V u = wbsV V (u.drop k) /\ Ext w wr
def rbk6R (b0 : Nat) (sa : OA) (sn sc : Nat) (a : OA) (n c : Nat) (fa : OA) (fn fc : Nat) (b off k nu cu : Nat) (v : WbV) (Q : Bool) : Nat -> Value -> World -> Prop
 | 0, u, _ => u = .agg #[.slice sa sn sc]
 | 1, u, _ => u = .slice a n c
 | 2, u, _ => u = .pointer (some ⟨b0 + 1, 7, none⟩)
 | 3, u, _ => u = .slice (some ⟨b, off, none⟩) nu cu
 | 4, u, _ => u = .int .i64 k
 | 5, u, _ => u = .pointer (some ⟨b, off + k * 8, none⟩)
 | 6, u, _ => u = .agg #[.string v.name, .int .i64 v.x.op, .string v.x.name, .slice v.x.aw v.x.nw v.x.cw, .int .i64 v.x.lo, .int .i64 v.x.hi, .slice v.x.aa v.x.na v.x.ca, .slice v.au v.nu v.cu]
 | 7, u, _ => u = .slice fa fn fc
 | _, u, _ => u = .bool Q
theorem rbackApp_calls {w0 : World} {sa : OA} {sn sc : Nat} {a : OA} {n c : Nat} {fa : OA} {fn fc : Nat} {V : Ex -> Bool} {P : Ex -> Prop} (ht : TruthFor w0 sa sn sc a n c fa fn fc V P) : ∀ (m : Nat) (cond : Ex) (u : List Wb) (nm : BA) (x : ExV) (au : OA) (nu cu : Nat) (w : World), wbN u <= m -> Ext w0 w -> P cond -> wbsOkT P u -> nu <= 1000000000000000 -> nu = u.length -> IsEx w cond x.val -> WbsD w u au ->
  Calls Tryz.prog 118 #[.agg #[.slice sa sn sc], .slice a n c, .agg #[.string nm, .int .i64 x.op, .string x.name, .slice x.aw x.nw x.cw, .int .i64 x.lo, .int .i64 x.hi, .slice x.aa x.na x.ca, .slice au nu cu], .slice fa fn fc] w (GivesE (.bool (V cond && !wbsV V u)) w) := by
 intro m
 induction m using Nat.strongRecOn with
 | _ m ih =>
  intro cond u nm x au nu cu w hm hx0 hp hok hnu hlen hex hd
  have HT := hI (fun (W : World) (hW : Ext w W) => ht cond x W (hx0.trans hW) hp (hex.ext hW))
  have HIH := hI (fun (k : Nat) (hk : k < u.length) (v : WbV) (W : World) (hW : Ext w W) (hvx : IsEx W u[k].cond v.x.val) (hvn : v.nu = u[k].unl.length) (hvd : WbsD W u[k].unl v.au) => ih (wbN u[k].unl) (by have := wbN_at u k hk; omega) u[k].cond u[k].unl v.name v.x v.au v.nu v.cu W (Nat.le_refl _) (hx0.trans hW) (wbsOkT_at u hok k hk).1 (wbsOkT_at u hok k hk).2.1 (by have := (wbsOkT_at u hok k hk).2.2; omega) hvn hvx hvd)
  have HD := hI hd
  have HLEN := hI hlen
  unfold ExV.val exV at HT
  obtain ⟨T, hT⟩ : ∃ T, T = V cond := ⟨_, rfl⟩
  rw [<- hT] at HT ⊢
  clear ih hm hx0 hp hok hlen hex hd hT
  obtain ⟨wa, hwa⟩ : ∃ wa, wa = (w.alloc (.cells #[.slice sa sn sc] 25)).alloc (.cells #[.string nm, .int .i64 x.op, .string x.name, .slice x.aw x.nw x.cw, .int .i64 x.lo, .int .i64 x.hi, .slice x.aa x.na x.ca, .slice au nu cu] 146) := ⟨_, rfl⟩
  have HXA := hI (show Ext w wa by rw [hwa]; exact ((Ext.refl _).alloc _).alloc _)
  have HA4 := hI (show wa.heap[w.heap.size]? = some (.cells #[.slice sa sn sc] 25 (0, 0)) by rw [hwa]; exact blk_alloc (alloc_new w _))
  have HA6 := hI (show wa.heap[w.heap.size + 1]? = some (WbBox nm x au nu cu) by rw [hwa]; exact alloc_at (by simp))
  obtain ⟨s0, sf⟩ := blk1 HA4.out
  obtain ⟨y0, y1, y2, y3, y4, y5, y6, y7, yf⟩ := blk8 HA6.out
  go_enter Tryz.func118, Tryz.ntmps118
  go_upto_region 1 with fail
  rw [<- hwa]
  clear hwa
  go_wp2_with fail
  refine (HT.out wa HXA.out).mono ?_
  rintro r w1 ⟨rfl, hx1⟩
  have HX1 := hI (HXA.out.trans hx1)
  have HB4 := hI (hx1.blk HA4.out)
  have HB6 := hI (hx1.blk HA6.out)
  clear hx1 s0 sf y0 y1 y2 y3 y4 y5 y6 y7 yf HA4 HA6 HT HXA
  cases T
  ·go_wp2_with fail
   go_ret
   exact givesE_bool (by simp) HX1.out
  go_wp2_with fail
  go_loopw [9] (BkI V u nu w1) (fun i _ => nu - (intOf i).toNat)
  case atStart => exact ⟨0, rfl, Nat.zero_le _, rfl, Ext.refl _⟩
  case round =>
   obtain ⟨k, rfl, hk, hv, hx⟩ := hrel
   obtain ⟨wo, rfl⟩ : ∃ wo : World, wo = wr := ⟨_, rfl⟩
   have HV := hI hv
   have HX := hI hx
   obtain ⟨b0, hb0⟩ : ∃ b0, b0 = w.heap.size := ⟨_, rfl⟩
   rw [<- hb0] at HB4 HB6 ⊢
   obtain ⟨s0, sf⟩ := blk1 (hx.blk HB4.out)
   obtain ⟨y0, y1, y2, y3, y4, y5, y6, y7, yf⟩ := blk8 (hx.blk HB6.out)
   clear hv hx hb0
   by_cases hkn : k < nu
   ·have hkl : k < u.length := by have := HLEN.out; omega
    have t1 : decide ((k : Int) < (nu : Int)) = true := decide_eq_true (by omega)
    have tk0 : (0 : Int) <= (k : Int) := by omega
    have tk1 : (k : Int) < (nu : Int) := by omega
    obtain ⟨b, off, rfl, v, hvn, hrow, hvx, hvu, -, -, hvd⟩ := WbsD.at u _ (WbsD.mono (HX1.out.trans HX.out).sub u _ HD.out) k hkl
    obtain ⟨c0, c1, c2, c3, c4, c5, c6, c7⟩ := hrow.eight
    have HREC := hI (fun W (hW : Ext wo W) => HIH.out k hkl v W ((HX1.out.trans HX.out).trans hW) (hvx.ext hW) hvu (WbsD.mono hW.sub _ _ hvd))
    have HST := hI (wbsV_drop V hkl)
    obtain ⟨Q, hQ⟩ : ∃ Q, Q = (V u[k].cond && !wbsV V u[k].unl) := ⟨_, rfl⟩
    rw [<- hQ] at HREC HST
    clear hvn hrow hvx hvu hvd hQ HIH
    go_upto_region 6 with fail
    refine wp_region_grow (m := 9) [8] (GrG wo) GrE (GrP (rbk6R b0 sa sn sc a n c fa fn fc b off k nu cu v Q)) (by kernel_rfl) (by kernel_rfl) ((Ext.refl wo).drew) ?_ ?_ ?_
    ·intro i k v W W' hi hk hne hout h hE
     have hE : Ext W W' := hE
     have hi' := ltc9 hi
     clear hi hk hne hout
     rcases hi' with rfl | rfl | rfl | rfl | rfl | rfl | rfl | rfl | rfl
     ·exact h
     ·exact h
     ·exact h
     ·exact h
     ·exact h
     ·exact h
     ·exact h
     ·exact h
     exact h
    ·intro q op hq ho vs W hW hd ρ hρ
     have hq' := ltc9 hq
     clear hq
     have o4 : ρ (.tmp 4) = .pointer (some ⟨b0, 0, none⟩) := hρ.out 4 rfl
     have o1 : ρ (.tmp 1) = .slice a n c := hρ.out 1 rfl
     have o6 : ρ (.tmp 6) = .pointer (some ⟨b0 + 1, 0, none⟩) := hρ.out 6 rfl
     have i2 := hρ.i 2 26
     have o9 : ρ (.tmp 9) = .int .i64 k := hρ.out 9 rfl
     have i3 := hρ.i 3 27
     have i4 := hρ.i 4 28
     have i5 := hρ.i 5 29
     have o3 : ρ (.tmp 3) = .slice fa fn fc := hρ.out 3 rfl
     have i0 := hρ.i 0 24
     have i1 := hρ.i 1 25
     have i6 := hρ.i 6 30
     have i7 := hρ.i 7 31
     have hc := hρ.const
     have hfn := hρ.func
     clear hρ
     have HW := hI (show Ext wo W from hW)
     rcases hq' with rfl | rfl | rfl | rfl | rfl | rfl | rfl | rfl | rfl
     ·cases ho
      clear hd
      have g0 := HW.out.cell s0
      unfold GivesOp
      go_simp
      exact ⟨Ext.refl W, rfl⟩
     ·cases ho
      clear hd
      unfold GivesOp
      go_simp
      exact ⟨Ext.refl W, rfl⟩
     ·cases ho
      clear hd
      unfold GivesOp
      go_simp
      exact ⟨Ext.refl W, rfl⟩
     ·cases ho
      have h2 : vs 2 = _ := hd ⟨2, .data⟩ (by simp) rfl
      rw [h2] at i2
      clear hd
      have g0 := HW.out.cell y7
      unfold GivesOp
      go_simp
      exact ⟨Ext.refl W, rfl⟩
     ·cases ho
      clear hd
      unfold GivesOp
      go_simp
      exact ⟨Ext.refl W, rfl⟩
     ·cases ho
      have h3 : vs 3 = _ := hd ⟨3, .data⟩ (by simp) rfl
      rw [h3] at i3
      have h4 : vs 4 = _ := hd ⟨4, .data⟩ (by simp) rfl
      rw [h4] at i4
      clear hd
      unfold GivesOp
      go_simp
      exact ⟨Ext.refl W, rfl⟩
     ·cases ho
      have h5 : vs 5 = _ := hd ⟨5, .data⟩ (by simp) rfl
      rw [h5] at i5
      clear hd
      have g0 := HW.out.cell c0
      have g1 := HW.out.cell c1
      have g2 := HW.out.cell c2
      have g3 := HW.out.cell c3
      have g4 := HW.out.cell c4
      have g5 := HW.out.cell c5
      have g6 := HW.out.cell c6
      have g7 := HW.out.cell c7
      unfold GivesOp
      go_simp
      exact ⟨Ext.refl W, rfl⟩
     ·cases ho
      clear hd
      unfold GivesOp
      go_simp
      exact ⟨Ext.refl W, rfl⟩
     cases ho
     have h0 : vs 0 = _ := hd ⟨0, .data⟩ (by simp) rfl
     rw [h0] at i0
     have h1 : vs 1 = _ := hd ⟨1, .data⟩ (by simp) rfl
     rw [h1] at i1
     have h6 : vs 6 = _ := hd ⟨6, .data⟩ (by simp) rfl
     rw [h6] at i6
     have h7 : vs 7 = _ := hd ⟨7, .data⟩ (by simp) rfl
     rw [h7] at i7
     clear hd
     unfold GivesOp
     go_simp
     refine (HREC.out W HW.out).mono ?_
     rintro r w5 ⟨rfl, hx5⟩
     exact ⟨_, rfl, hx5, HW.out.trans hx5, rfl⟩
    intro vs W hW hR
    rw [if_pos (by decide +kernel)]
    have h8 : vs 8 = .bool Q := hR 8 (by simp) (by omega)
    simp only [acts, dstAt, List.range, List.range.loop, List.foldl_cons, List.foldl_nil, h8]
    go_simp
    have hW2 : Ext wo W := hW
    clear hR hW h8
    cases Q
    ·go_wp2_with fail
     go_roundw
     case rel => exact ⟨k + 1, by go_num, by omega, by rw [HV.out, HST.out]; rfl, HX.out.trans hW2⟩
     case measure => simp [intOf]; omega
    have HQ := hI (show wbsV V u = true by rw [HV.out, HST.out]; rfl)
    go_wp2_with fail
    go_ret
    exact givesE_bool (by rw [HQ.out]; rfl) ((HX1.out.trans HX.out).trans hW2)
   have t1 : decide ((k : Int) < (nu : Int)) = false := decide_eq_false (by omega)
   have HQ := hI (show wbsV V u = false by
    rw [HV.out, show k = u.length by have := HLEN.out; omega, List.drop_length, wbsV])
   go_wp2_with fail
   go_ret
   exact givesE_bool (by rw [HQ.out]; rfl) (HX1.out.trans HX.out)
def claV (V : Ex -> Bool) (x : Cla) : Bool := V x.cond && !wbsV V x.unl
theorem rApplies_calls {w0 : World} {sa : OA} {sn sc : Nat} {a : OA} {n c : Nat} {fa : OA} {fn fc : Nat} {V : Ex -> Bool} {P : Ex -> Prop} (ht : TruthFor w0 sa sn sc a n c fa fn fc V P) (x : Cla) (v : ClV) (w : World) (hx0 : Ext w0 w) (hp : P x.cond) (hok : wbsOkT P x.unl) (hnu : x.unl.length <= 1000000000000000) (hi : IsCla w x v) :
  Calls Tryz.prog 92 #[.agg #[.slice sa sn sc], .slice a n c, .agg #[.int .i64 v.kind, .string v.name, .int .i64 v.x.op, .string v.x.name, .slice v.x.aw v.x.nw v.x.cw, .int .i64 v.x.lo, .int .i64 v.x.hi, .slice v.x.aa v.x.na v.x.ca, .slice v.au v.nu v.cu, .int .i64 v.amount], .slice fa fn fc] w (GivesE (.bool (claV V x)) w) := by
 obtain ⟨-, -, hex, hlen, -, -, hd, -⟩ := hi
 have HB := hI (fun (W : World) (hW : Ext w W) => rbackApp_calls ht (wbN x.unl) x.cond x.unl ⟨#[]⟩ v.x v.au v.nu v.cu W (Nat.le_refl _) (hx0.trans hW) hp hok (by omega) hlen (hex.ext hW) (WbsD.mono hW.sub _ _ hd))
 obtain ⟨R, hR⟩ : ∃ R, R = claV V x := ⟨_, rfl⟩
 rw [<- hR]
 have hR' : (V x.cond && !wbsV V x.unl) = R := hR.symm
 rw [hR'] at HB
 clear hR hR' hex hlen hd
 obtain ⟨wa, hwa⟩ : ∃ wa, wa = (w.alloc (.cells #[.slice sa sn sc] 25)).alloc (.cells #[.int .i64 v.kind, .string v.name, .int .i64 v.x.op, .string v.x.name, .slice v.x.aw v.x.nw v.x.cw, .int .i64 v.x.lo, .int .i64 v.x.hi, .slice v.x.aa v.x.na v.x.ca, .slice v.au v.nu v.cu, .int .i64 v.amount] 99) := ⟨_, rfl⟩
 have HXA := hI (show Ext w wa by rw [hwa]; exact ((Ext.refl _).alloc _).alloc _)
 obtain ⟨s0, sf⟩ := blk1 (show wa.heap[w.heap.size]? = some (.cells #[.slice sa sn sc] 25 (0, 0)) by rw [hwa]; exact blk_alloc (alloc_new w _))
 obtain ⟨y0, y1, y2, y3, y4, y5, y6, y7, y8, y9, yf⟩ := blk10r (show wa.heap[w.heap.size + 1]? = some (.cells #[.int .i64 v.kind, .string v.name, .int .i64 v.x.op, .string v.x.name, .slice v.x.aw v.x.nw v.x.cw, .int .i64 v.x.lo, .int .i64 v.x.hi, .slice v.x.aa v.x.na v.x.ca, .slice v.au v.nu v.cu, .int .i64 v.amount] 99 (0, 0)) by rw [hwa]; exact alloc_at (by simp))
 go_enter Tryz.func92, Tryz.ntmps92
 go_upto_region 1 with fail
 rw [<- hwa]
 clear hwa
 go_wp2_with fail
 refine (HB.out wa HXA.out).mono ?_
 rintro r w1 ⟨rfl, hx1⟩
 have HX1 := hI (HXA.out.trans hx1)
 clear hx1
 go_wp2_with fail
 go_ret
 exact givesE_bool rfl HX1.out
end Go.Proofs.YtefjomofjejklaaGreat
