/-
  Texts of the claim, joined: Grow, Heap3, Heap4, Heap5, Heap6.
-/
import Derived.Test.YtfjlglefodndjaaBe01
import Derived.Orders
import Derived.Test.YtfjlglefodndjaaBe04
import Derived.Test.YtfjlglefodndjaaBe03
import Derived.Deep.LoopGhost
import Derived.Outline
import Derived.Test.YtfjlglefodndjaaBe02
import Derived.Maps.AppendAt
namespace Go.Proofs.Ytfjlglefodndjaa
open Go.RowKit

/-- The slot into which operation j writes. -/
def dstAt (ops : Array Oper) (j : Nat) : Option Tmp := (ops[j]?).bind (·.dst)
/-- The frame after the operations of L, with the values vs. -/
def acts (ops : Array Oper) (a : Act) (vs : Nat → Value) (L : List Nat) : Act := L.foldl (fun b j => b.put (dstAt ops j) (vs j)) a

theorem acts_snoc (ops : Array Oper) (a : Act) (vs : Nat → Value) (L : List Nat) (i : Nat) : acts ops a vs (L ++ [i]) = (acts ops a vs L).put (dstAt ops i) (vs i) := by simp [acts]
theorem acts_congr {ops : Array Oper} {a : Act} {vs vs' : Nat → Value} {L : List Nat} (h : ∀ j ∈ L, vs j = vs' j) : acts ops a vs L = acts ops a vs' L := by
  unfold acts
  induction L generalizing a with
  | nil => rfl
  | cons x r ih => simp only [List.foldl_cons, h x (by simp)]; exact ih (fun j hj => h j (List.mem_cons_of_mem _ hj))
theorem put_size (a : Act) (d : Option Tmp) (v : Value) : (a.put d v).tmps.size = a.tmps.size := by cases d <;> simp [Act.put]
theorem acts_size (ops : Array Oper) (a : Act) (vs : Nat → Value) (L : List Nat) : (acts ops a vs L).tmps.size = a.tmps.size := by
  unfold acts
  induction L generalizing a with
  | nil => rfl
  | cons x r ih => rw [List.foldl_cons, ih, put_size]

/-- All slots are written once. -/
def DstApart (ops : Array Oper) : Prop := ∀ i j d, dstAt ops i = some d → dstAt ops j = some d → i = j

theorem put_eval_same (a : Act) (t : Tmp) (v : Value) : (a.put (some t) v).eval (.tmp t) = if t < a.tmps.size then v else undef := by
  by_cases h : t < a.tmps.size
  · rw [if_pos h]; simp [Act.put, Act.eval, h]
  · rw [if_neg h]
    simp only [Act.put, Act.eval]
    rw [Array.setIfInBounds_eq_of_size_le (Nat.le_of_not_lt h)]
    simp
    rw [Array.getElem?_eq_none (Nat.le_of_not_lt h)]; rfl
theorem acts_eval_in {ops : Array Oper} (hd : DstApart ops) {a : Act} {vs : Nat → Value} {L : List Nat} {t : Tmp} {j : Nat} (hj : j ∈ L) (ht : dstAt ops j = some t) : (acts ops a vs L).eval (.tmp t) = if t < a.tmps.size then vs j else undef := by
  induction L generalizing a with
  | nil => simp at hj
  | cons x r ih =>
    simp only [acts, List.foldl_cons]
    by_cases hjr : j ∈ r
    · have := ih (a := a.put (dstAt ops x) (vs x)) hjr
      rw [put_size] at this
      exact this
    · obtain rfl : j = x := by rcases List.mem_cons.1 hj with h | h; exact h; exact absurd h hjr
      have : ∀ (b : Act), (acts ops b vs r).eval (.tmp t) = b.eval (.tmp t) := by
        clear ih hj
        induction r with
        | nil => intro b; rfl
        | cons y s ih =>
          intro b
          simp only [acts, List.foldl_cons]
          have h1 := ih (fun h => hjr (List.mem_cons_of_mem _ h)) (b.put (dstAt ops y) (vs y))
          simp only [acts] at h1
          rw [h1]
          exact Act.eval_put (fun d hd' e => by
            injection e with e
            subst e
            exact hjr (by rw [hd _ _ _ ht hd']; simp))
      have h2 := this (a.put (dstAt ops j) (vs j))
      simp only [acts] at h2
      rw [h2, ht, put_eval_same]
theorem acts_eval_out {ops : Array Oper} {a : Act} {vs : Nat → Value} {L : List Nat} {t : Tmp} (ht : ∀ j ∈ L, dstAt ops j ≠ some t) : (acts ops a vs L).eval (.tmp t) = a.eval (.tmp t) := by
  induction L generalizing a with
  | nil => rfl
  | cons x r ih =>
    simp only [acts, List.foldl_cons]
    have := ih (a := a.put (dstAt ops x) (vs x)) (fun j hj => ht j (List.mem_cons_of_mem _ hj))
    simp only [acts] at this
    rw [this]
    exact Act.eval_put (fun d hd' e => by injection e with e; subst e; exact ht x (by simp) hd')
theorem acts_perm {ops : Array Oper} (hd : DstApart ops) {a : Act} {vs : Nat → Value} {L L' : List Nat} (h : L.Perm L') : acts ops a vs L = acts ops a vs L' := by
  refine List.Perm.foldl_eq' h (fun x _ y _ z => ?_) a
  by_cases hxy : x = y
  · subst hxy; rfl
  · exact Act.put_comm _ _ _ (fun d hx hy => hxy (hd _ _ _ hx hy))

/-- An edge by which a value goes. -/
def isData (e : Edge) : Bool := match e.ground with | .data => true | _ => false
/-- What is asked of the operations below m: no guard, no select; they look at slots of operations alone that come before them; the m-th (if there is one) comes last. -/
def okGrow (ops : Array Oper) (m : Nat) : Bool :=
  Region.noSelect ops && decide (m ≤ ops.size) && decide (ops.size ≤ m + 1) &&
  ((List.range ops.size).all fun i => (List.range ops.size).all fun j => i == j || dstAt ops i == none || dstAt ops i != dstAt ops j) &&
  ((List.range ops.size).all fun i => match ops[i]? with
    | none => false
    | some o => (o.guard == none || i == m) && (o.after.all fun e => (!Region.binds .any e || decide (e.on < i)) && (!isData e || Region.binds .any e)) &&
      ((List.range m).all fun j => match dstAt ops j with
        | none => true
        | some t => !(o.looksAt ops).contains t || (i == m) || o.after.any (fun e => Region.binds .any e && e.on == j)) &&
      (i != m || (List.range m).all fun j => o.after.any (fun e => Region.binds .any e && e.on == j)))

theorem okGrow_spec {ops : Array Oper} {m : Nat} (h : okGrow ops m = true) : Region.noSelect ops = true ∧ m ≤ ops.size ∧ ops.size ≤ m + 1 ∧ DstApart ops ∧
    (∀ i o, ops[i]? = some o → (i < m → o.guard = none) ∧ (∀ e ∈ o.after, (Region.binds .any e = true → e.on < i) ∧ (isData e = true → Region.binds .any e = true)) ∧ (i < m → ∀ j t, j < m → dstAt ops j = some t → t ∈ o.looksAt ops → ∃ e ∈ o.after, Region.binds .any e = true ∧ e.on = j) ∧
      (i = m → ∀ j, j < m → ∃ e ∈ o.after, Region.binds .any e = true ∧ e.on = j)) := by
  simp only [okGrow, Bool.and_eq_true, decide_eq_true_eq] at h
  obtain ⟨⟨⟨⟨h1, h2⟩, h3⟩, h4⟩, h5⟩ := h
  refine ⟨h1, h2, h3, ?_, ?_⟩
  · intro i j d hi hj
    have li : i < ops.size := by
      unfold dstAt at hi
      rcases Nat.lt_or_ge i ops.size with h | h
      · exact h
      · rw [Array.getElem?_eq_none h] at hi; simp at hi
    have lj : j < ops.size := by
      unfold dstAt at hj
      rcases Nat.lt_or_ge j ops.size with h | h
      · exact h
      · rw [Array.getElem?_eq_none h] at hj; simp at hj
    have := List.all_eq_true.1 (List.all_eq_true.1 h4 i (by simpa using li)) j (by simpa using lj)
    simpa [hi, hj] using this
  · intro i o ho
    have li : i < ops.size := (Array.getElem?_eq_some_iff.1 ho).1
    have h6 := List.all_eq_true.1 h5 i (by simpa using li)
    simp only [ho, Bool.and_eq_true] at h6
    obtain ⟨⟨⟨g1, g2⟩, g3⟩, g4⟩ := h6
    refine ⟨fun hm => ?_, fun e he => ?_, fun hm j t hjm hj ht => ?_, fun hm j hj => ?_⟩
    · rcases Bool.or_eq_true_iff.1 g1 with g | g
      · simpa using g
      · have : i = m := by simpa using g
        omega
    · have := Array.all_eq_true_iff_forall_mem.1 g2 e he
      simp only [Bool.and_eq_true, Bool.or_eq_true, Bool.not_eq_true', decide_eq_true_eq] at this
      refine ⟨fun hb => ?_, fun hb => ?_⟩
      · rcases this.1 with h | h
        · rw [hb] at h; cases h
        · exact h
      · rcases this.2 with h | h
        · rw [hb] at h; cases h
        · exact h
    · have := List.all_eq_true.1 g3 j (by simpa using hjm)
      rw [hj] at this
      simp only [Bool.or_eq_true, Bool.not_eq_true'] at this
      rcases this with (h | h) | h
      · rw [List.contains_iff_mem.2 ht] at h; cases h
      · have : i = m := by simpa using h
        omega
      · obtain ⟨e, he, hb⟩ := Array.any_eq_true'.1 h
        simp only [Bool.and_eq_true, beq_iff_eq] at hb
        exact ⟨e, he, hb.1, hb.2⟩
    · subst hm
      rcases Bool.or_eq_true_iff.1 g4 with g | g
      · simp at g
      · have := List.all_eq_true.1 g j (by simpa using hj)
        obtain ⟨e, he, hb⟩ := Array.any_eq_true'.1 this
        simp only [Bool.and_eq_true, beq_iff_eq] at hb
        exact ⟨e, he, hb.1, hb.2⟩

/-- A step of an operation whose operands have the values ρ: a value and a world that are as said. -/
def GivesOp (P : Program) (o : Oper) (ρ : Operand → Value) (W : World) (T : Value → World → Prop) : Prop := match (execOp ρ o).run P W with
  | .ok (.value v) W' => T v W'
  | .ok .skip W' => T undef W'
  | .ok (.enter f args) W' => Calls P f args W' (fun e W'' => ∃ v, e = .returned v ∧ T v W'')
  | _ => False
theorem GivesOp.wp {P : Program} {o : Oper} {ρ : Operand → Value} {a' : Act} {W : World} {T : Value → World → Prop} {Q : Exit → Act → World → Prop} (h : GivesOp P o ρ W T) (he : execOp a'.eval o = execOp ρ o) :
    o.wp P a' W (fun a'' W' => ∃ v, a'' = a'.put o.dst v ∧ T v W') Q := by
  unfold GivesOp at h
  unfold Oper.wp
  rw [he]
  generalize (execOp ρ o).run P W = r at *
  cases r with
  | ok n w' =>
    cases n <;> simp only at h <;> simp only [Oper.upon]
    case value v => exact ⟨v, rfl, h⟩
    case skip => exact ⟨undef, rfl, h⟩
    case enter f args =>
      refine Calls.mono h (fun e w'' he => ?_)
      obtain ⟨v, rfl, ht⟩ := he
      exact ⟨v, rfl, ht⟩
  | halt x w' => simp only at h
/-- What the operations of a region see: what those before them left, else the frame. -/
structure Sees (ops : Array Oper) (a : Act) (m : Nat) (vs : Nat → Value) (ρ : Operand → Value) : Prop where
  ins : ∀ j t, j < m → dstAt ops j = some t → t < a.tmps.size → ρ (.tmp t) = vs j
  out : ∀ t, ((List.range m).all fun j => dstAt ops j != some t) = true → ρ (.tmp t) = a.eval (.tmp t)
  const : ∀ c, ρ (.const c) = c
  glob : ∀ g, ρ (.global g) = .pointer (some ⟨g, 0, none⟩)
  func : ∀ f, ρ (.func f) = .func (.func f) #[] #[]
theorem sees_acts {ops : Array Oper} (hd : DstApart ops) (a : Act) (m : Nat) (vs : Nat → Value) : Sees ops a m vs (acts ops a vs (List.range m)).eval where
  ins := fun j t hj ht hs => by rw [acts_eval_in hd (by simpa using hj) ht, if_pos hs]
  out := fun t ht => acts_eval_out (fun j hj => by have := List.all_eq_true.1 ht j hj; simpa using this)
  const := fun _ => rfl
  glob := fun _ => rfl
  func := fun _ => rfl

def upd (vs : Nat → Value) (i : Nat) (v : Value) : Nat → Value := fun j => if j = i then v else vs j

/-- Operation k comes before operation i. -/
def comesAfter (ops : Array Oper) : Nat → Nat → Nat → Bool
  | 0, _, _ => false
  | f + 1, i, k => match ops[i]? with
    | none => false
    | some o => o.after.any fun e => Region.binds .any e && (e.on == k || comesAfter ops f e.on k)
theorem comesAfter_mem {ops : Array Oper} {L : List Nat} (hcl : ∀ i ∈ L, ∀ o, ops[i]? = some o → ∀ e ∈ o.after, Region.binds .any e = true → e.on ∈ L) : ∀ (f i k : Nat), i ∈ L → comesAfter ops f i k = true → k ∈ L := by
  intro f
  induction f with
  | zero => intro i k _ h; simp [comesAfter] at h
  | succ f ih =>
    intro i k hi h
    rw [comesAfter] at h
    cases ho : ops[i]? with
    | none => rw [ho] at h; cases h
    | some o =>
      rw [ho] at h
      obtain ⟨e, he, hb⟩ := Array.any_eq_true'.1 h
      simp only [Bool.and_eq_true, Bool.or_eq_true, beq_iff_eq] at hb
      have hm := hcl i hi o ho e he hb.1
      rcases hb.2 with h1 | h1
      · rw [← h1]; exact hm
      · exact ih e.on k hm h1
/-- What comes before an operation whose direct forerunners are done is done. -/
theorem comesAfter_ready {ops : Array Oper} {L : List Nat} (hcl : ∀ i ∈ L, ∀ o, ops[i]? = some o → ∀ e ∈ o.after, Region.binds .any e = true → e.on ∈ L) {i : Nat} {o : Oper} (ho : ops[i]? = some o) (hd : ∀ e ∈ o.after, Region.binds .any e = true → e.on ∈ L) : ∀ (f k : Nat), comesAfter ops f i k = true → k ∈ L := by
  intro f k h
  cases f with
  | zero => simp [comesAfter] at h
  | succ f =>
    rw [comesAfter, ho] at h
    obtain ⟨e, he, hb⟩ := Array.any_eq_true'.1 h
    simp only [Bool.and_eq_true, Bool.or_eq_true, beq_iff_eq] at hb
    have hm := hd e he hb.1
    rcases hb.2 with h1 | h1
    · rw [← h1]; exact hm
    · exact comesAfter_mem hcl f e.on k hm h1
/-- Operation c looks at what operation i left. -/
def looksTo (ops : Array Oper) (c i : Nat) : Bool := match ops[c]? with | none => false | some o => o.after.any fun e => isData e && e.on == i
/-- What operation i left must outlast operation k. -/
def outlasts (ops : Array Oper) (m : Nat) (Kp : List Nat) (i k : Nat) : Bool := !comesAfter ops m i k && (Kp.contains i || (List.range m).any fun c => c != k && !comesAfter ops m k c && looksTo ops c i)

section
variable {P : Program} {ops : Array Oper} {Q : Exit → Act → World → Prop} {a : Act} {m : Nat} (Kp : List Nat) (G : List Nat → World → Prop) (E : Nat → World → World → Prop) (R : Nat → Value → World → Prop)

theorem wpAny_grow (hok : okGrow ops m = true) (hRE : ∀ i k v W W', i < m → k < m → i ≠ k → outlasts ops m Kp i k = true → R i v W → E k W W' → R i v W')
    (hstep : ∀ i o, i < m → ops[i]? = some o → ∀ L vs W, i ∉ L → (∀ j ∈ L, comesAfter ops m j i = false) → G L W → (∀ e ∈ o.after, isData e = true → R e.on (vs e.on) W) → ∀ ρ, Sees ops a m vs ρ → GivesOp P o ρ W (fun v W' => E i W W' ∧ G (L ++ [i]) W' ∧ R i v W'))
    (hend : ∀ L vs W, (∀ j, j < m → j ∈ L) → G L W → (∀ j ∈ Kp, j < m → R j (vs j) W) → if m = ops.size then Q .normal (acts ops a vs (List.range m)) W else wpOp P ops Q m (fun a w => Q .normal a w) (acts ops a vs (List.range m)) W) :
    ∀ (fuel : Nat) (L : List Nat) (vs : Nat → Value) (W : World) (listed : Array Bool), listed.size = ops.size → (∀ j, j < ops.size → (listed.getD j true = true ↔ j ∈ L)) → L.Nodup → (∀ j ∈ L, j < m) → ((List.range ops.size).filter (fun j => !L.contains j)).length ≤ fuel → G L W → (∀ i ∈ L, ∀ o, ops[i]? = some o → ∀ e ∈ o.after, Region.binds .any e = true → e.on ∈ L) → (∀ j ∈ L, (j ∈ Kp ∨ ∃ c, c < m ∧ c ∉ L ∧ looksTo ops c j = true) → R j (vs j) W) →
      wpAny P .any ops Q fuel listed (acts ops a vs L) W := by
  obtain ⟨hns, hm1, hm2, hda, hspec⟩ := okGrow_spec hok
  have hperm : ∀ L : List Nat, L.Nodup → (∀ j ∈ L, j < m) → (∀ j, j < m → j ∈ L) → L.Perm (List.range m) := fun L h1 h2 h3 =>
    (List.perm_ext_iff_of_nodup h1 List.nodup_range).2 (fun j => ⟨fun h => by simpa using h2 j h, fun h => h3 j (by simpa using h)⟩)
  -- all below m are listed if none of them is ready
  have hall : ∀ (L : List Nat) (listed : Array Bool), listed.size = ops.size → (∀ j, j < ops.size → (listed.getD j true = true ↔ j ∈ L)) → (∀ j ∈ Region.ready .any ops listed, ¬ j < m) → ∀ j, j < m → j ∈ L := by
    intro L listed hsz hL hr j
    induction j using Nat.strongRecOn with
    | _ j ih =>
      intro hj
      by_cases hjL : j ∈ L
      · exact hjL
      · exfalso
        refine hr j ?_ hj
        have hjs : j < ops.size := by omega
        rw [mem_ready]
        obtain ⟨o, ho⟩ : ∃ o, ops[j]? = some o := ⟨ops[j], Array.getElem?_eq_getElem hjs⟩
        refine ⟨?_, o, ho, fun e he hb => ?_⟩
        · cases hx : listed.getD j true
          · rfl
          · exact absurd ((hL j hjs).1 hx) hjL
        · have hlt := ((hspec j o ho).2.1 e he).1 hb
          have hm := ih e.on hlt (by omega)
          have := (hL e.on (by omega)).2 hm
          have hin : e.on < listed.size := by rw [hsz]; omega
          simpa [Array.getD, hin] using this
  -- what is asked when all below m are listed
  have hfin : ∀ (L : List Nat) (vs : Nat → Value) (W : World), L.Nodup → (∀ j ∈ L, j < m) → (∀ j, j < m → j ∈ L) → G L W → (∀ j ∈ L, (j ∈ Kp ∨ ∃ c, c < m ∧ c ∉ L ∧ looksTo ops c j = true) → R j (vs j) W) →
      if m = ops.size then Q .normal (acts ops a vs L) W else wpOp P ops Q m (fun a w => Q .normal a w) (acts ops a vs L) W := by
    intro L vs W hnd hLm hcov hE hR
    rw [acts_perm hda (hperm L hnd hLm hcov)]
    exact hend L vs W hcov hE (fun j hk hj => hR j (hcov j hj) (Or.inl hk))
  intro fuel
  induction fuel with
  | zero =>
    intro L vs W listed hsz hL hnd hLm hlen hE hcl hR
    have hcov : ∀ j, j < ops.size → j ∈ L := fun j hj => by
      have h0 := List.eq_nil_of_length_eq_zero (Nat.le_zero.1 hlen)
      have : j ∉ (List.range ops.size).filter (fun j => !L.contains j) := by rw [h0]; simp
      simpa [hj] using this
    have hmn : m = ops.size := by
      rcases Nat.lt_or_ge m ops.size with h | h
      · have := hLm m (hcov m h); omega
      · omega
    have hf := hfin L vs W hnd hLm (fun j hj => hcov j (by omega)) hE hR
    rw [if_pos hmn] at hf
    refine ⟨?_, hf⟩
    rw [List.eq_nil_iff_forall_not_mem]
    intro j hj
    obtain ⟨h0, o, ho, _⟩ := mem_ready.1 hj
    have := (hL j (Array.getElem?_eq_some_iff.1 ho).1).2 (hcov j (Array.getElem?_eq_some_iff.1 ho).1)
    rw [this] at h0; cases h0
  | succ fuel ih =>
    intro L vs W listed hsz hL hnd hLm hlen hE hcl hR
    refine ⟨fun hr => ?_, fun i hi => ?_⟩
    · have hcov := hall L listed hsz hL (by rw [hr]; simp)
      have hf := hfin L vs W hnd hLm hcov hE hR
      by_cases hmn : m = ops.size
      · rw [if_pos hmn] at hf; exact hf
      · exfalso
        have hms : m < ops.size := by omega
        have : m ∈ Region.ready .any ops listed := by
          rw [mem_ready]
          obtain ⟨o, ho⟩ : ∃ o, ops[m]? = some o := ⟨ops[m], Array.getElem?_eq_getElem hms⟩
          refine ⟨?_, o, ho, fun e he hb => ?_⟩
          · cases hx : listed.getD m true
            · rfl
            · have := hLm m ((hL m hms).1 hx); omega
          · have hlt := ((hspec m o ho).2.1 e he).1 hb
            have := (hL e.on (by omega)).2 (hcov e.on hlt)
            have hin : e.on < listed.size := by rw [hsz]; omega
            simpa [Array.getD, hin] using this
        rw [hr] at this
        simp at this
    · obtain ⟨h0, o, ho, hdep⟩ := mem_ready.1 hi
      have his : i < ops.size := (Array.getElem?_eq_some_iff.1 ho).1
      have hiL : i ∉ L := fun h => by rw [(hL i his).2 h] at h0; cases h0
      have hdepL : ∀ e ∈ o.after, Region.binds .any e = true → e.on ∈ L := fun e he hb => by
        have h1 := hdep e he hb
        have hlt := ((hspec i o ho).2.1 e he).1 hb
        have hin : e.on < listed.size := by rw [hsz]; omega
        exact (hL e.on (by omega)).1 (by simpa [Array.getD, hin] using h1)
      have hlist : ∀ j, j < ops.size → ((listed.setIfInBounds i true).getD j true = true ↔ j ∈ L ++ [i]) := fun j hj => by
        by_cases hij : i = j
        · subst hij; simp [hsz, his]
        · rw [getD_set_ne true hij, hL j hj]; simp; intro e; exact absurd e.symm hij
      by_cases him : i < m
      · -- one of the operations that make memory
        have hnc : ∀ j ∈ L, comesAfter ops m j i = false := fun j hj => by
          cases hx : comesAfter ops m j i
          · rfl
          · exact absurd (comesAfter_mem hcl m j i hj hx) hiL
        have hg := hstep i o him ho L vs W hiL hnc hE (fun e he hb => hR _ (hdepL e he (((hspec i o ho).2.1 e he).2 hb)) (Or.inr ⟨i, him, hiL, by unfold looksTo; rw [ho]; exact Array.any_eq_true'.2 ⟨e, he, by simp [hb]⟩⟩)) _ (sees_acts hda a m vs)
        have hex : execOp (acts ops a vs L).eval o = execOp (acts ops a vs (List.range m)).eval o := by
          refine execOp_congr o (Region.noSelect_spec hns i o · · ho) (fun x hx => ?_)
          cases x with
          | tmp t =>
            have hlook : t ∈ o.looksAt ops := List.mem_append_left _ (List.mem_filterMap.2 ⟨.tmp t, by simpa using hx, rfl⟩)
            by_cases hex : ∃ j, j < m ∧ dstAt ops j = some t
            · obtain ⟨j, hjm, hj⟩ := hex
              obtain ⟨e, he, hb, rfl⟩ := (hspec i o ho).2.2.1 him j t hjm hj hlook
              have hjL := hdepL e he hb
              rw [acts_eval_in hda hjL hj, acts_eval_in hda (by simpa using hLm _ hjL) hj]
            · have h1 : ∀ j, j < m → dstAt ops j ≠ some t := fun j hjm hj => hex ⟨j, hjm, hj⟩
              rw [acts_eval_out (fun j hjL => h1 j (hLm j hjL)), acts_eval_out (fun j hjr => h1 j (by simpa using hjr))]
          | const v => rfl
          | global g => rfl
          | func f => rfl
        unfold wpOp
        simp only [ho]
        rw [if_pos (by unfold Region.wanted; rw [(hspec i o ho).1 him])]
        left
        refine Oper.wp_mono ?_ (hg.wp hex)
        rintro a' W' ⟨v, rfl, hEW, hE', hRv⟩
        have e1 : (acts ops a vs L).put o.dst v = acts ops a (upd vs i v) (L ++ [i]) := by
          rw [acts_snoc, acts_congr (vs := upd vs i v) (vs' := vs) (fun j hj => by unfold upd; rw [if_neg (fun e => hiL (by rw [← e]; exact hj))])]
          simp [upd, dstAt, ho]
        rw [e1]
        refine ih (L ++ [i]) (upd vs i v) W' _ (by simpa using hsz) hlist ?_ ?_ ?_ hE' ?_ ?_
        · rw [List.nodup_append]
          exact ⟨hnd, by simp, fun x hx y hy e => by simp at hy; subst hy; subst e; exact hiL hx⟩
        · intro j hj
          rcases List.mem_append.1 hj with h | h
          · exact hLm j h
          · simp at h; omega
        · have h1 : (List.range ops.size).filter (fun j => !(L ++ [i]).contains j) = ((List.range ops.size).filter (fun j => !L.contains j)).filter (fun j => j != i) := by
            rw [List.filter_filter]
            congr 1
            funext j
            simp only [List.contains_append, Bool.not_or]
            rw [Bool.and_comm]
            congr 1
            rw [Bool.eq_iff_iff]; simp [bne]
          have h2 : (((List.range ops.size).filter (fun j => !L.contains j)).filter (fun j => j != i)).length < ((List.range ops.size).filter (fun j => !L.contains j)).length := by
            rw [List.length_filter_lt_length_iff_exists]
            exact ⟨i, by simp [his, hiL], by simp⟩
          rw [h1]; omega
        · intro j hj o' ho' e he hb
          rcases List.mem_append.1 hj with h | h
          · exact List.mem_append_left _ (hcl j h o' ho' e he hb)
          · simp at h; subst h
            rw [ho] at ho'
            cases ho'
            exact List.mem_append_left _ (hdepL e he hb)
        · intro j hj hlive
          rcases List.mem_append.1 hj with h | h
          · have : upd vs i v j = vs j := by unfold upd; rw [if_neg (fun e => hiL (by rw [← e]; exact h))]
            rw [this]
            have hlive' : j ∈ Kp ∨ ∃ c, c < m ∧ c ∉ L ∧ looksTo ops c j = true := hlive.imp id (fun ⟨c, h1, h2, h3⟩ => ⟨c, h1, fun hc => h2 (List.mem_append_left _ hc), h3⟩)
            refine hRE j i _ W W' (hLm j h) him (fun e => hiL (e ▸ h)) ?_ (hR j h hlive') hEW
            unfold outlasts
            rw [Bool.and_eq_true, Bool.not_eq_true', Bool.or_eq_true]
            refine ⟨?_, ?_⟩
            · cases hx : comesAfter ops m j i
              · rfl
              · exact absurd (comesAfter_mem hcl m j i h hx) hiL
            · rcases hlive with hk | ⟨c, h1, h2, h3⟩
              · exact Or.inl (List.contains_iff_mem.2 hk)
              · refine Or.inr (List.any_eq_true.2 ⟨c, by simpa using h1, ?_⟩)
                rw [h3, Bool.and_true, Bool.and_eq_true, bne_iff_ne, Bool.not_eq_true']
                refine ⟨fun e => by subst e; exact h2 (by simp), ?_⟩
                cases hx : comesAfter ops m i c
                · rfl
                · exact absurd (List.mem_append_left _ (comesAfter_ready hcl ho hdepL m c hx)) h2
          · simp at h; subst h; simpa [upd] using hRv
      · -- the last one
        obtain rfl : i = m := by omega
        have hcov : ∀ j, j < i → j ∈ L := fun j hj => by
          obtain ⟨e, he, hb, rfl⟩ := (hspec i o ho).2.2.2 rfl j hj
          exact hdepL e he hb
        have hf := hfin L vs W hnd hLm hcov hE hR
        rw [if_neg (by omega)] at hf
        refine wpOp_mono (fun a' W' hq => ?_) hf
        refine wpAny_done ?_ hq fuel
        rw [List.eq_nil_iff_forall_not_mem]
        intro j hj
        obtain ⟨h0', o', ho', _⟩ := mem_ready.1 hj
        have hjs := (Array.getElem?_eq_some_iff.1 ho').1
        have : j ∈ L ++ [i] := by
          by_cases hji : j < i
          · exact List.mem_append_left _ (hcov j hji)
          · have : j = i := by omega
            simp [this]
        rw [(hlist j hjs).2 this] at h0'; cases h0'

/-- A region whose operations (but for the last one) only make memory, in whatever order; what holds of the world may depend on what has been done. -/
theorem wp_region_growL {id : Nat} {w : World} (hm : P.follows .mixedOrders = true) (hok : okGrow ops m = true) (hG : G [] w.drew) (hRE : ∀ i k v W W', i < m → k < m → i ≠ k → outlasts ops m Kp i k = true → R i v W → E k W W' → R i v W')
    (hstep : ∀ i o, i < m → ops[i]? = some o → ∀ L vs W, i ∉ L → (∀ j ∈ L, comesAfter ops m j i = false) → G L W → (∀ e ∈ o.after, isData e = true → R e.on (vs e.on) W) → ∀ ρ, Sees ops a m vs ρ → GivesOp P o ρ W (fun v W' => E i W W' ∧ G (L ++ [i]) W' ∧ R i v W'))
    (hend : ∀ L vs W, (∀ j, j < m → j ∈ L) → G L W → (∀ j ∈ Kp, j < m → R j (vs j) W) → if m = ops.size then Q .normal (acts ops a vs (List.range m)) W else wpOp P ops Q m (fun a w => Q .normal a w) (acts ops a vs (List.range m)) W) :
    (Code.region id ops true).wp P Q a w := by
  refine wp_region_any hm ?_
  refine wpAny_grow Kp G E R hok hRE hstep hend ops.size [] (fun _ => undef) _ _ (by simp) (fun j hj => ?_) List.nodup_nil (fun j hj => by simp at hj) ?_ hG (fun j hj => by simp at hj) (fun j hj => by simp at hj)
  · simp [hj]
  · exact Nat.le_trans (List.length_filter_le _ _) (by simp)
end
section
variable {P : Program} {ops : Array Oper} {Q : Exit → Act → World → Prop} {a : Act} {m : Nat} (Kp : List Nat) (G : World → Prop) (E : Nat → World → World → Prop) (R : Nat → Value → World → Prop)
/-- The same where what holds of the world does not depend on what has been done. -/
theorem wp_region_grow {id : Nat} {w : World} (hm : P.follows .mixedOrders = true) (hok : okGrow ops m = true) (hG : G w.drew) (hRE : ∀ i k v W W', i < m → k < m → i ≠ k → outlasts ops m Kp i k = true → R i v W → E k W W' → R i v W')
    (hstep : ∀ i o, i < m → ops[i]? = some o → ∀ vs W, G W → (∀ e ∈ o.after, isData e = true → R e.on (vs e.on) W) → ∀ ρ, Sees ops a m vs ρ → GivesOp P o ρ W (fun v W' => E i W W' ∧ G W' ∧ R i v W'))
    (hend : ∀ vs W, G W → (∀ j ∈ Kp, j < m → R j (vs j) W) → if m = ops.size then Q .normal (acts ops a vs (List.range m)) W else wpOp P ops Q m (fun a w => Q .normal a w) (acts ops a vs (List.range m)) W) :
    (Code.region id ops true).wp P Q a w :=
  wp_region_growL Kp (fun _ W => G W) E R hm hok hG hRE (fun i o hi ho _ vs W _ _ => hstep i o hi ho vs W) (fun _ vs W _ => hend vs W)
end
end Go.Proofs.Ytfjlglefodndjaa

namespace Go.Proofs.Ytfjlglefodndjaa
open Go.RowKit

def tabS (g n c i j : Nat) (x y : Int) : List Value :=
  [.slice (some ⟨g, 0, none⟩) n c, .int .i64 i, .slice (some ⟨g, 0, none⟩) n c, .int .i64 j, .slice (some ⟨g, 0, none⟩) n c, .int .i64 j, .pointer (some ⟨g, j, none⟩), .int .i64 y, .slice (some ⟨g, 0, none⟩) n c, .int .i64 i, .pointer (some ⟨g, i, none⟩), .int .i64 x, .pointer (some ⟨g, i, none⟩), undef, .pointer (some ⟨g, j, none⟩)]
def RS (tab : List Value) (i : Nat) (u : Value) (_ : World) : Prop := u = tab.getD i undef
def GS (w w1 : World) (L : List Nat) (W : World) : Prop := (13 ∉ L → ∃ k, W = w.drewN k) ∧ (13 ∈ L → ∃ k, W = w1.drewN k)
def ES (_ : Nat) (_ _ : World) : Prop := True
theorem GS.plain {w w1 : World} {L : List Nat} {W : World} (h : GS w w1 L W) {i : Nat} (hi : i ≠ 13) : GS w w1 (L ++ [i]) W := by
  have hm : 13 ∈ L ++ [i] ↔ 13 ∈ L := by simp; omega
  unfold GS
  rw [hm]; exact h
theorem swap_before {ops : Array Oper} {m : Nat} {L : List Nat} {i : Nat} (hg : (13 == i || comesAfter ops m 13 i) = true) (hi : i ∉ L) (hL : ∀ j ∈ L, comesAfter ops m j i = false) : 13 ∉ L := by
  intro h
  rw [hL 13 h] at hg
  simp only [Bool.or_false, beq_iff_eq] at hg
  exact hi (hg ▸ h)

set_option maxRecDepth 100000 in
set_option maxHeartbeats 1000000 in
theorem iswap_calls (g n c i j : Nat) (x y : Int) (w : World) (hi : i < n) (hj : j < n) (h1 : w.cell? ⟨g, i, none⟩ = some (.int .i64 x)) (h2 : w.cell? ⟨g, j, none⟩ = some (.int .i64 y)) (hf : ∀ k, w.frozen? ⟨g, k, none⟩ = false) :
    Calls Try.prog 117 #[.slice (some ⟨g, 0, none⟩) n c, .int .i64 i, .int .i64 j] w (fun e w' => e = .returned (.tuple #[]) ∧ ∃ k, w' = ((w.setCell ⟨g, i, none⟩ (.int .i64 y)).setCell ⟨g, j, none⟩ (.int .i64 x)).drewN k) := by
  go_enter Try.func117, Try.ntmps117
  go_upto_region 0 with fail
  refine wp_region_growL (m := 15) [11, 14] (GS w (w.setCell ⟨g, i, none⟩ (.int .i64 y))) ES (RS (tabS g n c i j x y)) (by kernel_rfl) (by kernel_rfl) ⟨fun _ => ⟨1, rfl⟩, fun h => by simp at h⟩ (fun _ _ _ _ _ _ _ _ _ hR _ => hR) ?_ ?_
  · intro q o hq ho L vs W hiL hnc hG hd ρ hρ
    have hq' : q = 0 ∨ q = 1 ∨ q = 2 ∨ q = 3 ∨ q = 4 ∨ q = 5 ∨ q = 6 ∨ q = 7 ∨ q = 8 ∨ q = 9 ∨ q = 10 ∨ q = 11 ∨ q = 12 ∨ q = 13 ∨ q = 14 := by omega
    clear hq
    have o0 : ρ (.tmp 0) = .slice (some ⟨g, 0, none⟩) n c := hρ.out 0 rfl
    have o1 : ρ (.tmp 1) = .int .i64 i := hρ.out 1 rfl
    have o2 : ρ (.tmp 2) = .int .i64 j := hρ.out 2 rfl
    have hcs := hρ.const
    have HG := Lib.hid hG
    clear hG
    rcases hq' with rfl | rfl | rfl | rfl | rfl | rfl | rfl | rfl | rfl | rfl | rfl | rfl | rfl | rfl | rfl
    · cases ho
      clear hρ hd
      unfold GivesOp
      go_simp
      exact ⟨trivial, HG.out.plain (by omega), rfl⟩
    · cases ho
      clear hρ hd
      unfold GivesOp
      go_simp
      exact ⟨trivial, HG.out.plain (by omega), rfl⟩
    · cases ho
      clear hρ hd
      unfold GivesOp
      go_simp
      exact ⟨trivial, HG.out.plain (by omega), rfl⟩
    · cases ho
      clear hρ hd
      unfold GivesOp
      go_simp
      exact ⟨trivial, HG.out.plain (by omega), rfl⟩
    · cases ho
      clear hρ hd
      unfold GivesOp
      go_simp
      exact ⟨trivial, HG.out.plain (by omega), rfl⟩
    · cases ho
      clear hρ hd
      unfold GivesOp
      go_simp
      exact ⟨trivial, HG.out.plain (by omega), rfl⟩
    · cases ho
      have i4 := hρ.ins 4 10 (by omega) rfl (Nat.le_of_ble_eq_true rfl)
      have d4 : vs 4 = _ := hd ⟨4, .data⟩ (by simp) rfl
      rw [d4] at i4
      dsimp only [tabS, List.getD_cons_zero, List.getD_cons_succ] at i4
      have i5 := hρ.ins 5 11 (by omega) rfl (Nat.le_of_ble_eq_true rfl)
      have d5 : vs 5 = _ := hd ⟨5, .data⟩ (by simp) rfl
      rw [d5] at i5
      dsimp only [tabS, List.getD_cons_zero, List.getD_cons_succ] at i5
      clear hρ hd
      unfold GivesOp
      go_simp
      exact ⟨trivial, HG.out.plain (by omega), rfl⟩
    · cases ho
      have i6 := hρ.ins 6 12 (by omega) rfl (Nat.le_of_ble_eq_true rfl)
      have d6 : vs 6 = _ := hd ⟨6, .data⟩ (by simp) rfl
      rw [d6] at i6
      dsimp only [tabS, List.getD_cons_zero, List.getD_cons_succ] at i6
      obtain ⟨kw, rfl⟩ := HG.out.1 (swap_before (by decide +kernel) hiL hnc)
      have c1 : (w.drewN kw).cell? ⟨g, i, none⟩ = some (.int .i64 x) := h1
      have c2 : (w.drewN kw).cell? ⟨g, j, none⟩ = some (.int .i64 y) := h2
      have cf : ∀ k, (w.drewN kw).frozen? ⟨g, k, none⟩ = false := hf
      clear hρ hd
      unfold GivesOp
      go_simp
      exact ⟨trivial, HG.out.plain (by omega), rfl⟩
    · cases ho
      clear hρ hd
      unfold GivesOp
      go_simp
      exact ⟨trivial, HG.out.plain (by omega), rfl⟩
    · cases ho
      clear hρ hd
      unfold GivesOp
      go_simp
      exact ⟨trivial, HG.out.plain (by omega), rfl⟩
    · cases ho
      have i8 := hρ.ins 8 14 (by omega) rfl (Nat.le_of_ble_eq_true rfl)
      have d8 : vs 8 = _ := hd ⟨8, .data⟩ (by simp) rfl
      rw [d8] at i8
      dsimp only [tabS, List.getD_cons_zero, List.getD_cons_succ] at i8
      have i9 := hρ.ins 9 15 (by omega) rfl (Nat.le_of_ble_eq_true rfl)
      have d9 : vs 9 = _ := hd ⟨9, .data⟩ (by simp) rfl
      rw [d9] at i9
      dsimp only [tabS, List.getD_cons_zero, List.getD_cons_succ] at i9
      clear hρ hd
      unfold GivesOp
      go_simp
      exact ⟨trivial, HG.out.plain (by omega), rfl⟩
    · cases ho
      have i10 := hρ.ins 10 16 (by omega) rfl (Nat.le_of_ble_eq_true rfl)
      have d10 : vs 10 = _ := hd ⟨10, .data⟩ (by simp) rfl
      rw [d10] at i10
      dsimp only [tabS, List.getD_cons_zero, List.getD_cons_succ] at i10
      obtain ⟨kw, rfl⟩ := HG.out.1 (swap_before (by decide +kernel) hiL hnc)
      have c1 : (w.drewN kw).cell? ⟨g, i, none⟩ = some (.int .i64 x) := h1
      have c2 : (w.drewN kw).cell? ⟨g, j, none⟩ = some (.int .i64 y) := h2
      have cf : ∀ k, (w.drewN kw).frozen? ⟨g, k, none⟩ = false := hf
      clear hρ hd
      unfold GivesOp
      go_simp
      exact ⟨trivial, HG.out.plain (by omega), rfl⟩
    · cases ho
      have i0 := hρ.ins 0 6 (by omega) rfl (Nat.le_of_ble_eq_true rfl)
      have d0 : vs 0 = _ := hd ⟨0, .data⟩ (by simp) rfl
      rw [d0] at i0
      dsimp only [tabS, List.getD_cons_zero, List.getD_cons_succ] at i0
      have i1 := hρ.ins 1 7 (by omega) rfl (Nat.le_of_ble_eq_true rfl)
      have d1 : vs 1 = _ := hd ⟨1, .data⟩ (by simp) rfl
      rw [d1] at i1
      dsimp only [tabS, List.getD_cons_zero, List.getD_cons_succ] at i1
      clear hρ hd
      unfold GivesOp
      go_simp
      exact ⟨trivial, HG.out.plain (by omega), rfl⟩
    · cases ho
      have i12 := hρ.ins 12 18 (by omega) rfl (Nat.le_of_ble_eq_true rfl)
      have d12 : vs 12 = _ := hd ⟨12, .data⟩ (by simp) rfl
      rw [d12] at i12
      dsimp only [tabS, List.getD_cons_zero, List.getD_cons_succ] at i12
      have i7 := hρ.ins 7 13 (by omega) rfl (Nat.le_of_ble_eq_true rfl)
      have d7 : vs 7 = _ := hd ⟨7, .data⟩ (by simp) rfl
      rw [d7] at i7
      dsimp only [tabS, List.getD_cons_zero, List.getD_cons_succ] at i7
      obtain ⟨kw, rfl⟩ := HG.out.1 (swap_before (by decide +kernel) hiL hnc)
      have c1 : (w.drewN kw).cell? ⟨g, i, none⟩ = some (.int .i64 x) := h1
      have c2 : (w.drewN kw).cell? ⟨g, j, none⟩ = some (.int .i64 y) := h2
      have cf : ∀ k, (w.drewN kw).frozen? ⟨g, k, none⟩ = false := hf
      clear hρ hd
      unfold GivesOp
      go_simp
      exact ⟨trivial, ⟨fun h => absurd (by simp) h, fun _ => ⟨kw, rfl⟩⟩, rfl⟩
    · cases ho
      have i2 := hρ.ins 2 8 (by omega) rfl (Nat.le_of_ble_eq_true rfl)
      have d2 : vs 2 = _ := hd ⟨2, .data⟩ (by simp) rfl
      rw [d2] at i2
      dsimp only [tabS, List.getD_cons_zero, List.getD_cons_succ] at i2
      have i3 := hρ.ins 3 9 (by omega) rfl (Nat.le_of_ble_eq_true rfl)
      have d3 : vs 3 = _ := hd ⟨3, .data⟩ (by simp) rfl
      rw [d3] at i3
      dsimp only [tabS, List.getD_cons_zero, List.getD_cons_succ] at i3
      clear hρ hd
      unfold GivesOp
      go_simp
      exact ⟨trivial, HG.out.plain (by omega), rfl⟩
  · intro L vs W hall hG hR
    rw [if_neg (by decide +kernel)]
    have r11 : vs 11 = .int .i64 x := hR 11 (by simp) (by omega)
    have r14 : vs 14 = .pointer (some ⟨g, j, none⟩) := hR 14 (by simp) (by omega)
    obtain ⟨kw, rfl⟩ := hG.2 (hall 13 (by omega))
    have c2 : ∃ u, ((w.setCell ⟨g, i, none⟩ (.int .i64 y)).drewN kw).cell? ⟨g, j, none⟩ = some u := by
      by_cases e : i = j
      · subst e
        exact ⟨_, World.cell?_setCell_same' w ⟨g, i, none⟩ (.int .i64 y) (by simp [h1])⟩
      · exact ⟨_, (World.cell?_setCell_other w _ _ _ (by simp only [ne_eq, Addr.mk.injEq, true_and, and_true]; omega)).trans h2⟩
    obtain ⟨u, c2⟩ := c2
    have cf : ((w.setCell ⟨g, i, none⟩ (.int .i64 y)).drewN kw).frozen? ⟨g, j, none⟩ = false := (World.frozen?_setCell _ _ _ _).trans (hf j)
    clear hG hall hR
    unfold wpOp
    simp only [acts, dstAt, List.range, List.range.loop, List.foldl_cons, List.foldl_nil, r11, r14]
    go_simp
    refine Or.inl ?_
    go_wp2_with fail
    go_end0
    exact ⟨rfl, kw, rfl⟩
end Go.Proofs.Ytfjlglefodndjaa

namespace Go.Proofs.Ytfjlglefodndjaa
open Go.RowKit

/-- A pile that is not nil: block b has the slice, block g the row. -/
structure PileG (B b g cap : Nat) (xs : List Int) (w : World) : Prop where
  hB : B ≤ b
  hg : B ≤ g
  hgb : g ≠ b
  hb : w.heap[b]? = some (.cells #[.slice (some ⟨g, 0, none⟩) xs.length cap] 56 (0, 0))
  row : ∃ cur : Array Value, w.heap[g]? = some (.cells cur 3 (0, 0)) ∧ xs.length ≤ cap ∧ cap ≤ maxLen ∧ cur.size = cap ∧ cur.toList.take xs.length = xs.map fun z => Value.int .i64 z
theorem PileG.cell {B b g cap : Nat} {xs : List Int} {w : World} (h : PileG B b g cap xs w) {i : Nat} (hi : i < xs.length) : w.cell? ⟨g, i, none⟩ = some (.int .i64 xs[i]) := by
  obtain ⟨cur, h1, _, _, _, h5⟩ := h.row
  exact (pile_cell h1 h5 hi).1
theorem PileG.free {B b g cap : Nat} {xs : List Int} {w : World} (h : PileG B b g cap xs w) (i : Nat) : w.frozen? ⟨g, i, none⟩ = false := by
  obtain ⟨cur, h1, _⟩ := h.row
  exact Lib.frozen_of_heap h1 i
theorem PileG.head {B b g cap : Nat} {xs : List Int} {w : World} (h : PileG B b g cap xs w) : w.cell? ⟨b, 0, none⟩ = some (.slice (some ⟨g, 0, none⟩) xs.length cap) := blk_cell h.hb 0
theorem PileG.chg {B b g cap : Nat} {xs : List Int} {w w' : World} {N : List Nat} (h : PileG B b g cap xs w) (hc : Chg N w w') (h1 : b ∉ N) (h2 : g ∉ N) : PileG B b g cap xs w' := by
  obtain ⟨a1, a2, a3, a4, cur, a5, r⟩ := h
  exact ⟨a1, a2, a3, hc.blk a4 h1, cur, hc.blk a5 h2, r⟩
theorem PileG.ext {B b g cap : Nat} {xs : List Int} {w w' : World} (h : PileG B b g cap xs w) (hx : Ext w w') : PileG B b g cap xs w' := h.chg (hx.chg []) (by simp) (by simp)
theorem PileG.set {B b g cap : Nat} {xs : List Int} {w : World} (h : PileG B b g cap xs w) (i : Nat) (z : Int) : PileG B b g cap (xs.set i z) (w.setCell ⟨g, i, none⟩ (.int .i64 z)) := by
  obtain ⟨a1, a2, a3, a4, cur, a5, a6, a7, a8, a9⟩ := h
  refine ⟨a1, a2, a3, ?_, cur.setIfInBounds i (.int .i64 z), ?_, by simpa using a6, a7, by simpa using a8, ?_⟩
  · rw [Below.heap_setCell _ _ _ _ (by simpa using fun h => a3 h.symm)]; simpa using a4
  · simp [World.setCell, Array.getElem?_modify, a5]
  · simp only [Array.toList_setIfInBounds, List.length_set]
    rw [List.take_set, a9, List.map_set]
theorem PileG.swap {B b g cap : Nat} {xs : List Int} {w : World} (h : PileG B b g cap xs w) {i j : Nat} (hi : i < xs.length) (hj : j < xs.length) (k : Nat) :
    PileG B b g cap ((xs.set i xs[j]).set j xs[i]) (((w.setCell ⟨g, i, none⟩ (.int .i64 xs[j])).setCell ⟨g, j, none⟩ (.int .i64 xs[i])).drewN k) ∧ Chg [g] w (((w.setCell ⟨g, i, none⟩ (.int .i64 xs[j])).setCell ⟨g, j, none⟩ (.int .i64 xs[i])).drewN k) :=
  ⟨((h.set i xs[j]).set j xs[i]).ext ((Ext.refl _).drewN k), (((Chg.refl [g] w).setCell (Or.inl (by simp)) _).setCell (Or.inl (by simp)) _).drewN k⟩
/-- The pile is the same but for its order. -/
def PermQ (v : Value) (B b g cap : Nat) (xs : List Int) (w : World) (e : Ending) (w' : World) : Prop := e = .returned v ∧ ∃ ys : List Int, ys.Perm xs ∧ PileG B b g cap ys w' ∧ Chg [g] w w'

set_option maxRecDepth 100000 in
theorem up_calls (B b g cap : Nat) (xs : List Int) (w : World) (h : PileG B b g cap xs w) (j : Nat) (hj : j < xs.length) :
    Calls Try.prog 33 #[.iface 53 (.pointer (some ⟨b, 0, none⟩)), .int .i64 j] w (PermQ (.tuple #[]) B b g cap xs w) := by
  obtain ⟨cur, hr1, hr2, hr3, hr4, hr5⟩ := h.row
  have hlen : xs.length ≤ 9223372036854775807 := by unfold maxLen at hr3; omega
  have HP := Lib.hid h
  clear hr1 hr2 hr3 hr4 hr5 cur h
  go_enter Try.func33, Try.ntmps33
  go_wp2_with fail
  go_loopw [1, 4] (fun t _ wr => ∃ (k : Nat) (ys : List Int), t = .int .i64 k ∧ k < ys.length ∧ ys.length = xs.length ∧ ys.Perm xs ∧ PileG B b g cap ys wr ∧ Chg [g] w wr) (fun t _ _ => (intOf t).toNat)
  case atStart => exact ⟨j, xs, rfl, hj, rfl, List.Perm.refl _, HP.out, Chg.refl _ _⟩
  case round =>
    obtain ⟨k, ys, rfl, hk, hyl, hyp, hpl, hch⟩ := hrel
    have HPL := Lib.hid hpl
    have HC := Lib.hid hch
    have HY := Lib.hid hyp
    have HYL := Lib.hid hyl
    have hhead := hpl.head
    have hkl : k ≤ 9223372036854775807 := by omega
    clear hpl hch hyp hyl HP
    have ha := fun n => ahead_less n b
    have hm := fun n => meth_less n b _ wr hhead
    by_cases hk0 : k = 0
    · subst hk0
      go_wp2_with fail
      go_end0
      exact ⟨rfl, ys, HY.out, HPL.out, HC.out⟩
    · obtain ⟨p, hp⟩ : ∃ p : Nat, p = (k - 1) / 2 := ⟨_, rfl⟩
      have q1 : ((k : Int) - 1).tdiv 2 = (p : Int) := by
        rw [Int.tdiv_eq_ediv_of_nonneg (by omega)]
        omega
      have hpk : p < k := by omega
      have hpy : p < ys.length := by omega
      have t0 : ((p : Int) == (k : Int)) = false := by simp; omega
      have HHP := Lib.hid hp
      clear hp hk0
      have L := iless_calls g ys.length cap k p ys[k] ys[p] wr hk hpy (HPL.out.cell hk) (HPL.out.cell hpy)
      have HL := Lib.hid L
      clear L
      cases hd : decide (ys[k] < ys[p])
      all_goals
        have HD := Lib.hid hd
        clear hd
        go_wp2_with fail
        refine HL.out.mono ?_
        rintro r w1 ⟨rfl, hx1⟩
        rw [HD.out]
        have HX1 := Lib.hid hx1
        have hh1 := (HPL.out.ext hx1).head
        clear hx1 hm ha hhead
        have ha := fun n => ahead_swap n b
        have hm := fun n => meth_swap n b _ w1 hh1
        go_wp2_with fail
      · go_end0
        exact ⟨rfl, ys, HY.out, HPL.out.ext HX1.out, HC.out.then (HX1.out.chg _)⟩
      · refine (iswap_calls g ys.length cap p k ys[p] ys[k] _ hpy hk ((HPL.out.ext HX1.out).cell hpy) ((HPL.out.ext HX1.out).cell hk) (HPL.out.ext HX1.out).free).mono ?_
        rintro r w2 ⟨rfl, q, rfl⟩
        obtain ⟨hp2, hc2⟩ := (HPL.out.ext HX1.out).swap hpy hk q
        have HP2 := Lib.hid hp2
        have HC2 := Lib.hid hc2
        clear hp2 hc2
        generalize ((w1.setCell ⟨g, p, none⟩ (.int .i64 ys[k])).setCell ⟨g, k, none⟩ (.int .i64 ys[p])).drewN q = w2 at *
        clear hm ha hh1
        go_wp2_with fail
        go_roundw
        case rel => exact ⟨p, (ys.set p ys[k]).set k ys[p], rfl, by simp; omega, by simp; exact HYL.out, (List.set_set_perm hpy hk).trans HY.out, HP2.out, (HC.out.then (HX1.out.chg _)).then HC2.out⟩
        case measure => simp [intOf]; omega
end Go.Proofs.Ytfjlglefodndjaa

namespace Go.Proofs.Ytfjlglefodndjaa
open Go.RowKit

def PermQ2 (B b g cap : Nat) (xs : List Int) (w : World) (e : Ending) (w' : World) : Prop := (∃ u : Bool, e = .returned (.bool u)) ∧ ∃ ys : List Int, ys.Perm xs ∧ (∀ z, xs.getLast? = some z → ys.getLast? = some z) ∧ PileG B b g cap ys w' ∧ Chg [g] w w'
theorem last_set {xs : List Int} {i : Nat} (h : i + 1 < xs.length) (z : Int) : (xs.set i z).getLast? = xs.getLast? := by
  rw [List.getLast?_eq_getElem?, List.getLast?_eq_getElem?]
  simp only [List.length_set]
  rw [List.getElem?_set_ne (by omega)]
set_option maxRecDepth 100000 in
set_option maxHeartbeats 1000000 in
theorem down_calls (B b g cap : Nat) (xs : List Int) (w : World) (h : PileG B b g cap xs w) (n : Nat) (hn : n + 1 = xs.length) (hn2 : n ≤ 1000000000000000) :
    Calls Try.prog 34 #[.iface 53 (.pointer (some ⟨b, 0, none⟩)), .int .i64 0, .int .i64 n] w (PermQ2 B b g cap xs w) := by
  have HP := Lib.hid h
  have HN := Lib.hid hn
  clear h hn
  go_enter Try.func34, Try.ntmps34
  go_wp2_with fail
  go_loopw [7, 8, 9, 10] (fun t _ _ _ wr => ∃ (k : Nat) (ys : List Int), t = .int .i64 k ∧ k ≤ n ∧ n + 1 = ys.length ∧ ys.Perm xs ∧ (∀ z, xs.getLast? = some z → ys.getLast? = some z) ∧ PileG B b g cap ys wr ∧ Chg [g] w wr) (fun t _ _ _ _ => n - (intOf t).toNat)
  case atStart => exact ⟨0, xs, rfl, by omega, HN.out, List.Perm.refl _, fun _ h => h, HP.out, Chg.refl _ _⟩
  case round =>
    obtain ⟨k, ys, rfl, hk, hyl, hyp, hla, hpl, hch⟩ := hrel
    have HPL := Lib.hid hpl
    have HC := Lib.hid hch
    have HY := Lib.hid hyp
    have HYL := Lib.hid hyl
    have HLA := Lib.hid hla
    have hhead := hpl.head
    clear hpl hch hyp hyl HP HN hla
    obtain ⟨j1, hj1⟩ : ∃ j1 : Nat, j1 = 2 * k + 1 := ⟨_, rfl⟩
    have q1 : (2 * (k : Int) + 1) = (j1 : Int) := by omega
    have hkj : k < j1 := by omega
    have HJ1 := Lib.hid hj1
    have t1 : decide ((j1 : Int) < 0) = false := by simp
    have hj1b : j1 ≤ 2000000000000001 := by omega
    clear hj1
    by_cases hlt : j1 < n
    · have t0 : decide (n ≤ j1) = false := by simp; omega
      have hy1 : j1 < ys.length := by have := HYL.out; omega
      have hyk : k < ys.length := by have := HYL.out; omega
      obtain ⟨j2, hj2⟩ : ∃ j2 : Nat, j2 = j1 + 1 := ⟨_, rfl⟩
      have q2 : ((j1 : Int) + 1) = (j2 : Int) := by omega
      have hj12 : j1 < j2 := by omega
      have hj2n : j2 ≤ n := by omega
      clear hj2
      by_cases h2 : j2 < n
      case' neg =>
        have t2 : decide (j2 < n) = false := by simp; omega
        go_upto_region 8 with fail
        obtain ⟨j, hj⟩ : ∃ j : Nat, j = j1 := ⟨_, rfl⟩
        obtain ⟨w1, hw1⟩ : ∃ w1 : World, w1 = wr := ⟨_, rfl⟩
        have HX1 := Lib.hid (show Ext wr w1 by rw [hw1]; exact Ext.refl _)
        rw [← hj, ← hw1]
        have hjk : k < j ∧ j < n := by omega
        clear hj hw1
      case' pos =>
        have t2 : decide (j2 < n) = true := by simp; omega
        have hy2 : j2 < ys.length := by have := HYL.out; omega
        have HL := Lib.hid (iless_calls g ys.length cap j2 j1 ys[j2] ys[j1] wr hy2 hy1 (HPL.out.cell hy2) (HPL.out.cell hy1))
        have ha := fun n => ahead_less n b
        have hm := fun n => meth_less n b _ wr hhead
        cases hd : decide (ys[j2] < ys[j1])
        case' false =>
          have HD := Lib.hid hd
          clear hd
          go_wp2_with fail
          refine HL.out.mono ?_
          rintro r w1 ⟨rfl, hx1⟩
          rw [HD.out]
          have HX1 := Lib.hid hx1
          clear hx1 hm ha hhead HD
          go_upto_region 8 with fail
          obtain ⟨j, hj⟩ : ∃ j : Nat, j = j1 := ⟨_, rfl⟩
          rw [← hj]
          have hjk : k < j ∧ j < n := by omega
          clear hj
        case' true =>
          have HD := Lib.hid hd
          clear hd
          go_wp2_with fail
          refine HL.out.mono ?_
          rintro r w1 ⟨rfl, hx1⟩
          rw [HD.out]
          have HX1 := Lib.hid hx1
          clear hx1 hm ha hhead HD
          go_upto_region 8 with fail
          obtain ⟨j, hj⟩ : ∃ j : Nat, j = j2 := ⟨_, rfl⟩
          rw [← hj]
          have hjk : k < j ∧ j < n := by omega
          clear hj
      all_goals
        obtain ⟨hjk, hjn⟩ := hjk
        have hyj : j < ys.length := by have := HYL.out; omega
        have hh1 := (HPL.out.ext HX1.out).head
        have ha := fun n => ahead_less n b
        have hm := fun n => meth_less n b _ w1 hh1
        have HL2 := Lib.hid (iless_calls g ys.length cap j k ys[j] ys[k] w1 hyj hyk ((HPL.out.ext HX1.out).cell hyj) ((HPL.out.ext HX1.out).cell hyk))
        cases hd : decide (ys[j] < ys[k])
        · have HD := Lib.hid hd
          clear hd
          go_wp2_with fail
          refine HL2.out.mono ?_
          rintro r w2 ⟨rfl, hx2⟩
          rw [HD.out]
          have HX2 := Lib.hid hx2
          clear hx2 hm ha hh1 HD
          go_wp2_with fail
          go_ret
          exact ⟨⟨_, rfl⟩, ys, HY.out, HLA.out, (HPL.out.ext HX1.out).ext HX2.out, (HC.out.then (HX1.out.chg _)).then (HX2.out.chg _)⟩
        · have HD := Lib.hid hd
          clear hd
          go_wp2_with fail
          refine HL2.out.mono ?_
          rintro r w2 ⟨rfl, hx2⟩
          rw [HD.out]
          have HPX := Lib.hid ((HPL.out.ext HX1.out).ext hx2)
          have HCX := Lib.hid ((HC.out.then (HX1.out.chg _)).then (hx2.chg _))
          have hh2 := HPX.out.head
          clear hx2 hm ha hh1 HD
          have ha := fun n => ahead_swap n b
          have hm := fun n => meth_swap n b _ w2 hh2
          go_wp2_with fail
          refine (iswap_calls g ys.length cap k j ys[k] ys[j] _ hyk hyj (HPX.out.cell hyk) (HPX.out.cell hyj) HPX.out.free).mono ?_
          rintro r w3 ⟨rfl, q, rfl⟩
          obtain ⟨hp2, hc2⟩ := HPX.out.swap hyk hyj q
          have HP2 := Lib.hid hp2
          have HC2 := Lib.hid hc2
          clear hp2 hc2
          generalize ((w2.setCell ⟨g, k, none⟩ (.int .i64 ys[j])).setCell ⟨g, j, none⟩ (.int .i64 ys[k])).drewN q = w3 at *
          clear hm ha hh2
          go_wp2_with fail
          go_roundw
          case rel =>
            refine ⟨j, (ys.set k ys[j]).set j ys[k], rfl, by omega, by simp; exact HYL.out, (List.set_set_perm hyk hyj).trans HY.out, fun z hz => ?_, HP2.out, HCX.out.then HC2.out⟩
            rw [last_set (by have := HYL.out; simp; omega), last_set (by have := HYL.out; omega)]
            exact HLA.out z hz
          case measure => simp [intOf]; omega
    · have t0 : decide (n ≤ j1) = true := by simp; omega
      go_wp2_with fail
      go_ret
      exact ⟨⟨_, rfl⟩, ys, HY.out, HLA.out, HPL.out, HC.out⟩
end Go.Proofs.Ytfjlglefodndjaa


namespace Go.Proofs.Ytfjlglefodndjaa
open Go.RowKit

theorem elemIdx : ElemT 54 3 (.int .i64 0) 1 8 := ⟨by kernel_rfl, by kernel_rfl, rfl, by omega⟩
/-- A pile, nil or not: block b has the slice v. -/
structure PileV (B b : Nat) (v : Value) (xs : List Int) (w : World) : Prop where
  hB : B ≤ b
  hb : w.heap[b]? = some (.cells #[v] 56 (0, 0))
  own : w.ownsRow B 3 1 v xs.length (xs.map fun z => Value.int .i64 z)
  ne : v.ownBlock ≠ some b
theorem PileV.chg {B b : Nat} {v : Value} {xs : List Int} {w w' : World} {N : List Nat} (h : PileV B b v xs w) (hc : Chg N w w') (h1 : b ∉ N) (h2 : ∀ k, v.ownBlock = some k → k ∉ N) : PileV B b v xs w' := by
  obtain ⟨a1, a2, a3, a4⟩ := h
  refine ⟨a1, hc.blk a2 h1, ?_, a4⟩
  rcases a3 with ⟨l, h0 | ⟨g, cap, cur, e1, e2, e3, r⟩⟩
  · exact ⟨l, Or.inl h0⟩
  · exact ⟨l, Or.inr ⟨g, cap, cur, e1, e2, hc.blk e3 (h2 g (by rw [e1]; rfl)), r⟩⟩
theorem PileV.ext {B b : Nat} {v : Value} {xs : List Int} {w w' : World} (h : PileV B b v xs w) (hx : Ext w w') : PileV B b v xs w' := h.chg (hx.chg []) (by simp) (by simp)
theorem PileV.fresh (w : World) : PileV w.heap.size w.heap.size (.slice none 0 0) [] (w.alloc (.cells #[.slice none 0 0] 56)) :=
  ⟨Nat.le_refl _, heap_alloc_new w _, World.ownsRow_nil _ _ _ _, by simp [Value.ownBlock]⟩
theorem PileV.form {B b : Nat} {v : Value} {xs : List Int} {w : World} (h : PileV B b v xs w) : ∃ a c, v = .slice a xs.length c := by
  rcases h.own.2 with ⟨rfl, h0⟩ | ⟨g, cap, cur, rfl, _⟩
  · exact ⟨none, 0, by rw [h0]⟩
  · exact ⟨_, _, rfl⟩
theorem PileV.g {B b : Nat} {v : Value} {xs : List Int} {w : World} (h : PileV B b v xs w) (hx : 0 < xs.length) : ∃ g cap, v = .slice (some ⟨g, 0, none⟩) xs.length cap ∧ PileG B b g cap xs w := by
  obtain ⟨a1, a2, a3, a4⟩ := h
  rcases a3.2 with ⟨rfl, h0⟩ | ⟨g, cap, cur, rfl, h1, h2, h3, h4, h5, h6⟩
  · omega
  · exact ⟨g, cap, rfl, a1, h1, fun e => a4 (by rw [e]; rfl), a2, cur, h2, h3, h4, by simpa using h5, by simpa using h6⟩
theorem PileG.v {B b g cap : Nat} {xs : List Int} {w : World} (h : PileG B b g cap xs w) : PileV B b (.slice (some ⟨g, 0, none⟩) xs.length cap) xs w := by
  obtain ⟨a1, a2, a3, a4, cur, h2, h3, h4, h5, h6⟩ := h
  refine ⟨a1, a4, ⟨by simp, Or.inr ⟨g, cap, cur, rfl, a2, h2, h3, h4, by simpa using h5, by simpa using h6⟩⟩, fun e => a3 (by simpa [Value.ownBlock] using e)⟩
theorem owns_form {w : World} {base : Nat} {e : TypeId} {size : Nat} {v : Value} {n : Nat} {xs : List Value} (h : w.ownsRow base e size v n xs) : ∃ a c, v = .slice a n c := by
  rcases h.2 with ⟨rfl, h0⟩ | ⟨g, cap, cur, rfl, _⟩
  · exact ⟨none, 0, by rw [h0]⟩
  · exact ⟨_, _, rfl⟩
/-- What a push leaves. -/
def PushQ (B b : Nat) (v : Value) (ok : List Int → Prop) (w : World) (e : Ending) (w' : World) : Prop := e = .returned (.tuple #[]) ∧ ∃ v' ys, ok ys ∧ PileV B b v' ys w' ∧ Chg (b :: rowOf v) w w' ∧ ∀ k, v'.ownBlock = some k → v.ownBlock = some k ∨ w.heap.size ≤ k
set_option maxRecDepth 100000 in
set_option maxHeartbeats 1000000 in
theorem ipush_calls (B b : Nat) (v : Value) (xs : List Int) (z : Int) (w : World) (h : PileV B b v xs w) (hB : B ≤ w.heap.size) (hl : xs.length ≤ 1000000000) :
    Calls Try.prog 115 #[.pointer (some ⟨b, 0, none⟩), .iface 3 (.int .i64 z)] w (PushQ B b v (· = xs ++ [z]) w) := by
  have HP := Lib.hid h
  have hb0 := blk_cell h.hb 0
  have hbf := blk_free h.hb 0
  have hlt := blk_lt h.hb
  obtain ⟨a, c, hv⟩ := h.form
  subst hv
  simp at hb0
  have t1 : (Value.iface 3 (.int .i64 z)) = (Value.iface 3 (.int .i64 z)) := rfl
  clear h t1
  obtain ⟨i0, hi, hz0, hz1, hz2⟩ := info_parts elemIdx.info
  have hta : ∀ W : World, (Instr.typeAssert (.iface 3 (.int .i64 z)) 20 3 true).run Try.prog W = .ok (.tuple #[.int .i64 z, .bool true]) W := fun W => by kernel_rfl
  go_enter Try.func115, Try.ntmps115
  go_wp2_with (at_builtin; refine wpList_append_own_at _ rfl _ _ 54 rfl B 3 i0 (.int .i64 0) 1 8 elemIdx.ht hi hz0 hz1 hz2 rfl (by decide) _ xs.length _ rfl (HP.out.own.alloc _) ⟨w.heap.size, 0, none⟩ 1 1 [.int .i64 z] rfl rfl ?c1 ?c2 ?c3 ?c4 ?c5 ?_)
  case c1 => exact cell_one_new _ _ _
  case c2 => simp [Value.oneCell']
  case c3 => unfold maxLen; omega
  case c4 => omega
  case c5 => simp; omega
  intro v' w' hown' hgrow' _ hwhere
  have hbn : some b ≠ (Value.slice a xs.length c).ownBlock := fun e => HP.out.ne e.symm
  have hb' : w'.heap[b]? = some (.cells #[.slice a xs.length c] 56 (0, 0)) := (hgrow'.block b (by simp; omega) hbn).trans (blk_alloc HP.out.hb)
  have hb1 := blk_cell hb' 0
  have hf1 := blk_free hb' 0
  have hl1 := blk_lt hb'
  simp at hb1
  have hvb : v'.ownBlock ≠ some b := by
    rcases hwhere with e | e
    · rw [e]; exact fun h => hbn h.symm
    · rw [e]; simp; omega
  obtain ⟨a', c', hv'⟩ := owns_form hown'
  subst hv'
  have HB1 := Lib.hid hb'
  have HO := Lib.hid hown'
  have HG := Lib.hid hgrow'
  have HW := Lib.hid hwhere
  clear hb' hown' hgrow' hwhere hb0 hbf hta
  go_wp2_with fail
  go_end0
  have hc1 : Chg (rowOf (.slice a xs.length c)) w w' := (((Ext.refl w).alloc _).chg _).then (grown_chg HG.out)
  have hc2 : Chg [b] w' (w'.setCell ⟨b, 0, none⟩ (.slice a' (xs.length + 1) c')) := (Chg.refl _ _).setCell (Or.inl (by simp)) _
  refine ⟨rfl, .slice a' (xs.length + 1) c', xs ++ [z], rfl, ⟨HP.out.hB, ?_, ?_, hvb⟩, ?_, ?_⟩
  · have := heap_setCell_same w' b 0 _ _ (.slice a' (xs.length + 1) c') HB1.out
    simpa using this
  · have := owns_chg HO.out hc2 (fun k hk hm => hvb (by simp at hm; rw [hk, hm]))
    simpa using this
  · refine Chg.trans (Chg.trans (Chg.refl (b :: rowOf (.slice a xs.length c)) w) hc1 (fun x hx => Or.inl (by simp [hx]))) hc2 (fun x hx => Or.inl (by simp at hx; simp [hx]))
  · intro k hk
    rcases HW.out with e | e
    · exact Or.inl (by rw [← e]; exact hk)
    · rw [e] at hk
      simp at hk
      exact Or.inr (by omega)
end Go.Proofs.Ytfjlglefodndjaa
