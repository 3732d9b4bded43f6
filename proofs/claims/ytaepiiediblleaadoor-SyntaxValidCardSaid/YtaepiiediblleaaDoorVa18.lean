/-
  Texts of the claim, joined: GrowG, Ref5, Plain1, Depth, Binds1, Parse6.
-/
import Derived.Test.YtaepiiediblleaaDoorVa10
import Derived.Test.YtaepiiediblleaaDoorVa08
import Derived.Test.YtaepiiediblleaaDoorVa15
import Derived.Test.YtaepiiediblleaaDoorVa12
namespace Go.Proofs.YtaepiiediblleaaDoor
open Go.RowKit

/-! The law of XGrow for regions with guarded operations, where every guard is met: what the guards look at is known. -/
/-- An edge by which a value goes. -/
def isDataG (e : Edge) : Bool := match e.ground with | .data => true | .guard => true | _ => false
/-- What is asked of the operations below m: no guard, no select; they look at slots of operations alone that come before them; the m-th (if there is one) comes last. -/
def okGrowG (ops : Array Oper) (m n : Nat) : Bool :=
  Region.noSelect ops && decide (m ≤ ops.size) && decide (ops.size ≤ m + 1) &&
  ((List.range ops.size).all fun i => (List.range ops.size).all fun j => i == j || dstAt ops i == none || dstAt ops i != dstAt ops j) &&
  ((List.range ops.size).all fun i => match ops[i]? with
    | none => false
    | some o => ((match o.guard with | none => true | some (j, _) => (match dstAt ops j with | none => false | some t => decide (t < n)) && o.after.any (fun e => isDataG e && e.on == j)) || i == m) && (o.after.all fun e => (!Region.binds .any e || decide (e.on < i)) && (!isDataG e || Region.binds .any e)) &&
      ((List.range m).all fun j => match dstAt ops j with
        | none => true
        | some t => !(o.looksAt ops).contains t || (i == m) || o.after.any (fun e => Region.binds .any e && e.on == j)) &&
      (i != m || (List.range m).all fun j => o.after.any (fun e => Region.binds .any e && e.on == j)))

theorem okGrow_specG {ops : Array Oper} {m n : Nat} (h : okGrowG ops m n = true) : Region.noSelect ops = true ∧ m ≤ ops.size ∧ ops.size ≤ m + 1 ∧ DstApart ops ∧
    (∀ i o, ops[i]? = some o → (i < m → ∀ j b, o.guard = some (j, b) → ∃ t, dstAt ops j = some t ∧ t < n ∧ ∃ e ∈ o.after, isDataG e = true ∧ e.on = j) ∧ (∀ e ∈ o.after, (Region.binds .any e = true → e.on < i) ∧ (isDataG e = true → Region.binds .any e = true)) ∧ (i < m → ∀ j t, j < m → dstAt ops j = some t → t ∈ o.looksAt ops → ∃ e ∈ o.after, Region.binds .any e = true ∧ e.on = j) ∧
      (i = m → ∀ j, j < m → ∃ e ∈ o.after, Region.binds .any e = true ∧ e.on = j)) := by
  simp only [okGrowG, Bool.and_eq_true, decide_eq_true_eq] at h
  obtain ⟨⟨⟨⟨h1, h2⟩, h3⟩, h4⟩, h5⟩ := h
  refine ⟨h1, h2, h3, ?_, ?_⟩
  · intro i j d hi hj
    have li : i < ops.size := by
      unfold dstAt at hi
      rcases Nat.lt_or_ge i ops.size with h | h
      · exact h
      · rw [Array.getElem?_eq_none h] at hi; simp at hi
    have lj : j < ops.size := by
      unfold dstAt at hj
      rcases Nat.lt_or_ge j ops.size with h | h
      · exact h
      · rw [Array.getElem?_eq_none h] at hj; simp at hj
    have := List.all_eq_true.1 (List.all_eq_true.1 h4 i (by simpa using li)) j (by simpa using lj)
    simpa [hi, hj] using this
  · intro i o ho
    have li : i < ops.size := (Array.getElem?_eq_some_iff.1 ho).1
    have h6 := List.all_eq_true.1 h5 i (by simpa using li)
    simp only [ho, Bool.and_eq_true] at h6
    obtain ⟨⟨⟨g1, g2⟩, g3⟩, g4⟩ := h6
    refine ⟨fun hm => ?_, fun e he => ?_, fun hm j t hjm hj ht => ?_, fun hm j hj => ?_⟩
    · intro j b hg
      rcases Bool.or_eq_true_iff.1 g1 with g | g
      · rw [hg] at g
        simp only [Bool.and_eq_true] at g
        cases hd : dstAt ops j with
        | none => rw [hd] at g; simp at g
        | some t =>
          rw [hd] at g
          obtain ⟨e, he, hb⟩ := Array.any_eq_true'.1 g.2
          simp only [Bool.and_eq_true, beq_iff_eq] at hb
          exact ⟨t, rfl, by simpa using g.1, e, he, hb.1, hb.2⟩
      · have : i = m := by simpa using g
        omega
    · have := Array.all_eq_true_iff_forall_mem.1 g2 e he
      simp only [Bool.and_eq_true, Bool.or_eq_true, Bool.not_eq_true', decide_eq_true_eq] at this
      refine ⟨fun hb => ?_, fun hb => ?_⟩
      · rcases this.1 with h | h
        · rw [hb] at h; cases h
        · exact h
      · rcases this.2 with h | h
        · rw [hb] at h; cases h
        · exact h
    · have := List.all_eq_true.1 g3 j (by simpa using hjm)
      rw [hj] at this
      simp only [Bool.or_eq_true, Bool.not_eq_true'] at this
      rcases this with (h | h) | h
      · rw [List.contains_iff_mem.2 ht] at h; cases h
      · have : i = m := by simpa using h
        omega
      · obtain ⟨e, he, hb⟩ := Array.any_eq_true'.1 h
        simp only [Bool.and_eq_true, beq_iff_eq] at hb
        exact ⟨e, he, hb.1, hb.2⟩
    · subst hm
      rcases Bool.or_eq_true_iff.1 g4 with g | g
      · simp at g
      · have := List.all_eq_true.1 g j (by simpa using hj)
        obtain ⟨e, he, hb⟩ := Array.any_eq_true'.1 this
        simp only [Bool.and_eq_true, beq_iff_eq] at hb
        exact ⟨e, he, hb.1, hb.2⟩

/-- Operation c looks at what operation i left. -/
def looksToG (ops : Array Oper) (c i : Nat) : Bool := match ops[c]? with | none => false | some o => o.after.any fun e => isDataG e && e.on == i
/-- What operation i left must outlast operation k. -/
def outlastsG (ops : Array Oper) (m : Nat) (Kp : List Nat) (i k : Nat) : Bool := !comesAfter ops m i k && (Kp.contains i || (List.range m).any fun c => c != k && !comesAfter ops m k c && looksToG ops c i)

section
variable {P : Program} {ops : Array Oper} {Q : Exit → Act → World → Prop} {a : Act} {m : Nat} (Kp : List Nat) (G : List Nat → (Nat → Value) → World → Prop) (E : Nat → World → World → Prop) (R : Nat → Value → World → Prop)

theorem wpAny_growG {n : Nat} (hok : okGrowG ops m n = true) (hN : n ≤ a.tmps.size) (hGd : ∀ i o j b, i < m → ops[i]? = some o → o.guard = some (j, b) → ∀ v W, R j v W → v = .bool b) (hRE : ∀ i k v W W', i < m → k < m → i ≠ k → outlastsG ops m Kp i k = true → R i v W → E k W W' → R i v W')
    (hstep : ∀ i o, i < m → ops[i]? = some o → ∀ L vs W, i ∉ L → (∀ j ∈ L, comesAfter ops m j i = false) → G L vs W → (∀ e ∈ o.after, isDataG e = true → R e.on (vs e.on) W) → ∀ ρ, Sees ops a m vs ρ → GivesOp P o ρ W (fun v W' => E i W W' ∧ G (L ++ [i]) (upd vs i v) W' ∧ R i v W'))
    (hend : ∀ L vs W, (∀ j, j < m → j ∈ L) → G L vs W → (∀ j ∈ Kp, j < m → R j (vs j) W) → if m = ops.size then Q .normal (acts ops a vs (List.range m)) W else wpOp P ops Q m (fun a w => Q .normal a w) (acts ops a vs (List.range m)) W) :
    ∀ (fuel : Nat) (L : List Nat) (vs : Nat → Value) (W : World) (listed : Array Bool), listed.size = ops.size → (∀ j, j < ops.size → (listed.getD j true = true ↔ j ∈ L)) → L.Nodup → (∀ j ∈ L, j < m) → ((List.range ops.size).filter (fun j => !L.contains j)).length ≤ fuel → G L vs W → (∀ i ∈ L, ∀ o, ops[i]? = some o → ∀ e ∈ o.after, Region.binds .any e = true → e.on ∈ L) → (∀ j ∈ L, (j ∈ Kp ∨ ∃ c, c < m ∧ c ∉ L ∧ looksToG ops c j = true) → R j (vs j) W) →
      wpAny P .any ops Q fuel listed (acts ops a vs L) W := by
  obtain ⟨hns, hm1, hm2, hda, hspec⟩ := okGrow_specG hok
  have hperm : ∀ L : List Nat, L.Nodup → (∀ j ∈ L, j < m) → (∀ j, j < m → j ∈ L) → L.Perm (List.range m) := fun L h1 h2 h3 =>
    (List.perm_ext_iff_of_nodup h1 List.nodup_range).2 (fun j => ⟨fun h => by simpa using h2 j h, fun h => h3 j (by simpa using h)⟩)
  -- all below m are listed if none of them is ready
  have hall : ∀ (L : List Nat) (listed : Array Bool), listed.size = ops.size → (∀ j, j < ops.size → (listed.getD j true = true ↔ j ∈ L)) → (∀ j ∈ Region.ready .any ops listed, ¬ j < m) → ∀ j, j < m → j ∈ L := by
    intro L listed hsz hL hr j
    induction j using Nat.strongRecOn with
    | _ j ih =>
      intro hj
      by_cases hjL : j ∈ L
      · exact hjL
      · exfalso
        refine hr j ?_ hj
        have hjs : j < ops.size := by omega
        rw [mem_ready]
        obtain ⟨o, ho⟩ : ∃ o, ops[j]? = some o := ⟨ops[j], Array.getElem?_eq_getElem hjs⟩
        refine ⟨?_, o, ho, fun e he hb => ?_⟩
        · cases hx : listed.getD j true
          · rfl
          · exact absurd ((hL j hjs).1 hx) hjL
        · have hlt := ((hspec j o ho).2.1 e he).1 hb
          have hm := ih e.on hlt (by omega)
          have := (hL e.on (by omega)).2 hm
          have hin : e.on < listed.size := by rw [hsz]; omega
          simpa [Array.getD, hin] using this
  -- what is asked when all below m are listed
  have hfin : ∀ (L : List Nat) (vs : Nat → Value) (W : World), L.Nodup → (∀ j ∈ L, j < m) → (∀ j, j < m → j ∈ L) → G L vs W → (∀ j ∈ L, (j ∈ Kp ∨ ∃ c, c < m ∧ c ∉ L ∧ looksToG ops c j = true) → R j (vs j) W) →
      if m = ops.size then Q .normal (acts ops a vs L) W else wpOp P ops Q m (fun a w => Q .normal a w) (acts ops a vs L) W := by
    intro L vs W hnd hLm hcov hE hR
    rw [acts_perm hda (hperm L hnd hLm hcov)]
    exact hend L vs W hcov hE (fun j hk hj => hR j (hcov j hj) (Or.inl hk))
  intro fuel
  induction fuel with
  | zero =>
    intro L vs W listed hsz hL hnd hLm hlen hE hcl hR
    have hcov : ∀ j, j < ops.size → j ∈ L := fun j hj => by
      have h0 := List.eq_nil_of_length_eq_zero (Nat.le_zero.1 hlen)
      have : j ∉ (List.range ops.size).filter (fun j => !L.contains j) := by rw [h0]; simp
      simpa [hj] using this
    have hmn : m = ops.size := by
      rcases Nat.lt_or_ge m ops.size with h | h
      · have := hLm m (hcov m h); omega
      · omega
    have hf := hfin L vs W hnd hLm (fun j hj => hcov j (by omega)) hE hR
    rw [if_pos hmn] at hf
    refine ⟨?_, hf⟩
    rw [List.eq_nil_iff_forall_not_mem]
    intro j hj
    obtain ⟨h0, o, ho, _⟩ := mem_ready.1 hj
    have := (hL j (Array.getElem?_eq_some_iff.1 ho).1).2 (hcov j (Array.getElem?_eq_some_iff.1 ho).1)
    rw [this] at h0; cases h0
  | succ fuel ih =>
    intro L vs W listed hsz hL hnd hLm hlen hE hcl hR
    refine ⟨fun hr => ?_, fun i hi => ?_⟩
    · have hcov := hall L listed hsz hL (by rw [hr]; simp)
      have hf := hfin L vs W hnd hLm hcov hE hR
      by_cases hmn : m = ops.size
      · rw [if_pos hmn] at hf; exact hf
      · exfalso
        have hms : m < ops.size := by omega
        have : m ∈ Region.ready .any ops listed := by
          rw [mem_ready]
          obtain ⟨o, ho⟩ : ∃ o, ops[m]? = some o := ⟨ops[m], Array.getElem?_eq_getElem hms⟩
          refine ⟨?_, o, ho, fun e he hb => ?_⟩
          · cases hx : listed.getD m true
            · rfl
            · have := hLm m ((hL m hms).1 hx); omega
          · have hlt := ((hspec m o ho).2.1 e he).1 hb
            have := (hL e.on (by omega)).2 (hcov e.on hlt)
            have hin : e.on < listed.size := by rw [hsz]; omega
            simpa [Array.getD, hin] using this
        rw [hr] at this
        simp at this
    · obtain ⟨h0, o, ho, hdep⟩ := mem_ready.1 hi
      have his : i < ops.size := (Array.getElem?_eq_some_iff.1 ho).1
      have hiL : i ∉ L := fun h => by rw [(hL i his).2 h] at h0; cases h0
      have hdepL : ∀ e ∈ o.after, Region.binds .any e = true → e.on ∈ L := fun e he hb => by
        have h1 := hdep e he hb
        have hlt := ((hspec i o ho).2.1 e he).1 hb
        have hin : e.on < listed.size := by rw [hsz]; omega
        exact (hL e.on (by omega)).1 (by simpa [Array.getD, hin] using h1)
      have hlist : ∀ j, j < ops.size → ((listed.setIfInBounds i true).getD j true = true ↔ j ∈ L ++ [i]) := fun j hj => by
        by_cases hij : i = j
        · subst hij; simp [hsz, his]
        · rw [getD_set_ne true hij, hL j hj]; simp; intro e; exact absurd e.symm hij
      by_cases him : i < m
      · -- one of the operations that make memory
        have hnc : ∀ j ∈ L, comesAfter ops m j i = false := fun j hj => by
          cases hx : comesAfter ops m j i
          · rfl
          · exact absurd (comesAfter_mem hcl m j i hj hx) hiL
        have hg := hstep i o him ho L vs W hiL hnc hE (fun e he hb => hR _ (hdepL e he (((hspec i o ho).2.1 e he).2 hb)) (Or.inr ⟨i, him, hiL, by unfold looksToG; rw [ho]; exact Array.any_eq_true'.2 ⟨e, he, by simp [hb]⟩⟩)) _ (sees_acts hda a m vs)
        have hex : execOp (acts ops a vs L).eval o = execOp (acts ops a vs (List.range m)).eval o := by
          refine execOp_congr o (Region.noSelect_spec hns i o · · ho) (fun x hx => ?_)
          cases x with
          | tmp t =>
            have hlook : t ∈ o.looksAt ops := List.mem_append_left _ (List.mem_filterMap.2 ⟨.tmp t, by simpa using hx, rfl⟩)
            by_cases hex : ∃ j, j < m ∧ dstAt ops j = some t
            · obtain ⟨j, hjm, hj⟩ := hex
              obtain ⟨e, he, hb, rfl⟩ := (hspec i o ho).2.2.1 him j t hjm hj hlook
              have hjL := hdepL e he hb
              rw [acts_eval_in hda hjL hj, acts_eval_in hda (by simpa using hLm _ hjL) hj]
            · have h1 : ∀ j, j < m → dstAt ops j ≠ some t := fun j hjm hj => hex ⟨j, hjm, hj⟩
              rw [acts_eval_out (fun j hjL => h1 j (hLm j hjL)), acts_eval_out (fun j hjr => h1 j (by simpa using hjr))]
          | const v => rfl
          | global g => rfl
          | func f => rfl
        unfold wpOp
        simp only [ho]
        rw [if_pos (by
          unfold Region.wanted
          cases hgd : o.guard with
          | none => rfl
          | some p =>
            obtain ⟨j, b⟩ := p
            obtain ⟨t, ht, htn, e, he, heD, rfl⟩ := (hspec i o ho).1 him j b hgd
            have hjL := hdepL e he (((hspec i o ho).2.1 e he).2 heD)
            have hv := hGd i o e.on b him ho hgd _ _ (hR e.on hjL (Or.inr ⟨i, him, hiL, by unfold looksToG; rw [ho]; exact Array.any_eq_true'.2 ⟨e, he, by simp [heD]⟩⟩))
            have hev := acts_eval_in hda (a := a) (vs := vs) hjL ht
            rw [if_pos (Nat.lt_of_lt_of_le htn hN), hv] at hev
            have hlt : t < (acts ops a vs L).tmps.size := by rw [acts_size]; exact Nat.lt_of_lt_of_le htn hN
            show (yielded ops (acts ops a vs L).tmps e.on == some b) = true
            simp only [Act.eval] at hev
            unfold yielded
            have hdd : (ops[e.on]?).bind (·.dst) = some t := ht
            rw [hdd]
            simp only [Option.bind_some]
            rw [Array.getD_eq_getD_getElem?, Array.getElem?_eq_getElem hlt, Option.getD_some] at hev
            rw [Array.getElem?_eq_getElem hlt, hev]
            simp)]
        left
        refine Oper.wp_mono ?_ (hg.wp hex)
        rintro a' W' ⟨v, rfl, hEW, hE', hRv⟩
        have e1 : (acts ops a vs L).put o.dst v = acts ops a (upd vs i v) (L ++ [i]) := by
          rw [acts_snoc, acts_congr (vs := upd vs i v) (vs' := vs) (fun j hj => by unfold upd; rw [if_neg (fun e => hiL (by rw [← e]; exact hj))])]
          simp [upd, dstAt, ho]
        rw [e1]
        refine ih (L ++ [i]) (upd vs i v) W' _ (by simpa using hsz) hlist ?_ ?_ ?_ hE' ?_ ?_
        · rw [List.nodup_append]
          exact ⟨hnd, by simp, fun x hx y hy e => by simp at hy; subst hy; subst e; exact hiL hx⟩
        · intro j hj
          rcases List.mem_append.1 hj with h | h
          · exact hLm j h
          · simp at h; omega
        · have h1 : (List.range ops.size).filter (fun j => !(L ++ [i]).contains j) = ((List.range ops.size).filter (fun j => !L.contains j)).filter (fun j => j != i) := by
            rw [List.filter_filter]
            congr 1
            funext j
            simp only [List.contains_append, Bool.not_or]
            rw [Bool.and_comm]
            congr 1
            rw [Bool.eq_iff_iff]; simp [bne]
          have h2 : (((List.range ops.size).filter (fun j => !L.contains j)).filter (fun j => j != i)).length < ((List.range ops.size).filter (fun j => !L.contains j)).length := by
            rw [List.length_filter_lt_length_iff_exists]
            exact ⟨i, by simp [his, hiL], by simp⟩
          rw [h1]; omega
        · intro j hj o' ho' e he hb
          rcases List.mem_append.1 hj with h | h
          · exact List.mem_append_left _ (hcl j h o' ho' e he hb)
          · simp at h; subst h
            rw [ho] at ho'
            cases ho'
            exact List.mem_append_left _ (hdepL e he hb)
        · intro j hj hlive
          rcases List.mem_append.1 hj with h | h
          · have : upd vs i v j = vs j := by unfold upd; rw [if_neg (fun e => hiL (by rw [← e]; exact h))]
            rw [this]
            have hlive' : j ∈ Kp ∨ ∃ c, c < m ∧ c ∉ L ∧ looksToG ops c j = true := hlive.imp id (fun ⟨c, h1, h2, h3⟩ => ⟨c, h1, fun hc => h2 (List.mem_append_left _ hc), h3⟩)
            refine hRE j i _ W W' (hLm j h) him (fun e => hiL (e ▸ h)) ?_ (hR j h hlive') hEW
            unfold outlastsG
            rw [Bool.and_eq_true, Bool.not_eq_true', Bool.or_eq_true]
            refine ⟨?_, ?_⟩
            · cases hx : comesAfter ops m j i
              · rfl
              · exact absurd (comesAfter_mem hcl m j i h hx) hiL
            · rcases hlive with hk | ⟨c, h1, h2, h3⟩
              · exact Or.inl (List.contains_iff_mem.2 hk)
              · refine Or.inr (List.any_eq_true.2 ⟨c, by simpa using h1, ?_⟩)
                rw [h3, Bool.and_true, Bool.and_eq_true, bne_iff_ne, Bool.not_eq_true']
                refine ⟨fun e => by subst e; exact h2 (by simp), ?_⟩
                cases hx : comesAfter ops m i c
                · rfl
                · exact absurd (List.mem_append_left _ (comesAfter_ready hcl ho hdepL m c hx)) h2
          · simp at h; subst h; simpa [upd] using hRv
      · -- the last one
        obtain rfl : i = m := by omega
        have hcov : ∀ j, j < i → j ∈ L := fun j hj => by
          obtain ⟨e, he, hb, rfl⟩ := (hspec i o ho).2.2.2 rfl j hj
          exact hdepL e he hb
        have hf := hfin L vs W hnd hLm hcov hE hR
        rw [if_neg (by omega)] at hf
        refine wpOp_mono (fun a' W' hq => ?_) hf
        refine wpAny_done ?_ hq fuel
        rw [List.eq_nil_iff_forall_not_mem]
        intro j hj
        obtain ⟨h0', o', ho', _⟩ := mem_ready.1 hj
        have hjs := (Array.getElem?_eq_some_iff.1 ho').1
        have : j ∈ L ++ [i] := by
          by_cases hji : j < i
          · exact List.mem_append_left _ (hcov j hji)
          · have : j = i := by omega
            simp [this]
        rw [(hlist j hjs).2 this] at h0'; cases h0'

/-- A region whose operations (but for the last one) only make memory, in whatever order; what holds of the world may depend on what has been done. -/
theorem wp_region_growLG {id : Nat} {w : World} (hm : P.follows .mixedOrders = true) {n : Nat} (hok : okGrowG ops m n = true) (hN : n ≤ a.tmps.size) (hGd : ∀ i o j b, i < m → ops[i]? = some o → o.guard = some (j, b) → ∀ v W, R j v W → v = .bool b) (hG : G [] (fun _ => undef) w.drew) (hRE : ∀ i k v W W', i < m → k < m → i ≠ k → outlastsG ops m Kp i k = true → R i v W → E k W W' → R i v W')
    (hstep : ∀ i o, i < m → ops[i]? = some o → ∀ L vs W, i ∉ L → (∀ j ∈ L, comesAfter ops m j i = false) → G L vs W → (∀ e ∈ o.after, isDataG e = true → R e.on (vs e.on) W) → ∀ ρ, Sees ops a m vs ρ → GivesOp P o ρ W (fun v W' => E i W W' ∧ G (L ++ [i]) (upd vs i v) W' ∧ R i v W'))
    (hend : ∀ L vs W, (∀ j, j < m → j ∈ L) → G L vs W → (∀ j ∈ Kp, j < m → R j (vs j) W) → if m = ops.size then Q .normal (acts ops a vs (List.range m)) W else wpOp P ops Q m (fun a w => Q .normal a w) (acts ops a vs (List.range m)) W) :
    (Code.region id ops true).wp P Q a w := by
  refine wp_region_any hm ?_
  refine wpAny_growG Kp G E R hok hN hGd hRE hstep hend ops.size [] (fun _ => undef) _ _ (by simp) (fun j hj => ?_) List.nodup_nil (fun j hj => by simp at hj) ?_ hG (fun j hj => by simp at hj) (fun j hj => by simp at hj)
  · simp [hj]
  · exact Nat.le_trans (List.length_filter_le _ _) (by simp)
end
end Go.Proofs.YtaepiiediblleaaDoor

namespace Go.Proofs.YtaepiiediblleaaDoor
open Go.RowKit

set_option maxRecDepth 100000 in
set_option maxHeartbeats 1000000 in
theorem rall_calls (m : Nat) : ∀ (e : Ex) (v : Value) (w : World), e.size ≤ m → m ≤ 1000000000000000 → IsEx w e v → Calls Tryd.prog 21 #[v] w (GivesE (.int .i64 e.size) w) := by
  induction m with
  | zero => intro e v w h; have := size_pos e; omega
  | succ m ih =>
    intro e v w hm hMM he
    obtain ⟨aw, nw, cw, aa, na, ca, rfl, hw, hna, hca, ha, hx⟩ := he.parts
    have HX := Lib.hid hx
    have HN := Lib.hid hna
    have HS := Lib.hid e.size_eq
    have hS : e.size = 1 + sizes e.args := e.size_eq
    have hb2 : sizes e.args ≤ m := by omega
    have hla := length_le_sizes e.args
    have hna2 : na ≤ m := by omega
    have H : Hid (∀ (e : Ex) (v : Value) (w : World), e.size ≤ m → IsEx w e v → Calls Tryd.prog 21 #[v] w (GivesE (.int .i64 e.size) w)) := fun e v w h1 h2 => ih e v w h1 (by omega) h2
    clear ih hx hna hw hca ha he hS hm hla
    unfold exV
    go_enter Tryd.func21, Tryd.ntmps21
    go_wp2_with fail
    go_loopw [3, 4] (fun s i wr => ∃ k : Nat, k ≤ na ∧ i = .int .i64 k ∧ s = .int .i64 (1 + (sizes (e.args.take k) : Int)) ∧ wr.heap[w.heap.size]? = some (.cells #[.int .i64 e.op, .string e.name, .slice aw nw cw, .int .i64 e.lo, .int .i64 e.hi, .slice aa na ca] 26 (0, 0)) ∧ Ext w wr) (fun _ i _ => na - (intOf i).toNat)
    case atStart => exact ⟨0, by omega, rfl, by simp [sizes], alloc_new w _, (Ext.refl w).alloc _⟩
    case round =>
      obtain ⟨k, hk, rfl, rfl, hbx, hb⟩ := hrel
      have HBX := Lib.hid hbx
      have HB := Lib.hid hb
      have hlt0 := blk_lt hbx
      obtain ⟨b0, b1, b2, b3, b4, b5, bf⟩ := blk6 hbx
      have hsk := sizes_take_le e.args k
      clear hbx hb
      by_cases hlt : k < na
      · have hlt' : k < e.args.length := by have := HN.out; omega
        have t1 : decide ((k : Int) < (na : Int)) = true := by simp; omega
        obtain ⟨b, off, rfl, aw1, nw1, cw1, aa1, na1, ca1, h0, h1, h2, h3, h4, h5, h6⟩ := ExsD.at e.args _ (ExsD.ext HB.out e.args _ HX.out) k hlt'
        have H6 := Lib.hid h6
        have hs1 := Lib.hid (sizes_take_succ e.args k hlt')
        have hsz := sizes_take_succ e.args k hlt'
        have hsl := sizes_take_le e.args (k + 1)
        have hk1 : e.args[k].size ≤ m := by omega
        clear h6
        go_wp2_with fail
        refine (H.out e.args[k] _ _ hk1 H6.out).mono ?_
        rintro r w1 ⟨rfl, hb1⟩
        have HE1 := Lib.hid hb1
        clear b0 b1 b2 b3 b4 b5 bf hb1
        go_wp2_with fail
        go_roundw
        case rel => exact ⟨k + 1, by omega, by go_num, by rw [hs1.out]; go_num, HE1.out.blk HBX.out, HB.out.trans HE1.out⟩
        case measure => simp [intOf]; omega
      · have t1 : decide ((k : Int) < (na : Int)) = false := by simp; omega
        have H1 := Lib.hid (show (1 + (sizes (e.args.take k) : Int)) = (e.size : Int) by rw [HS.out, List.take_of_length_le (by have := HN.out; omega)]; omega)
        go_wp2_with fail
        go_ret
        exact givesE_int H1.out HB.out

set_option maxRecDepth 100000 in
set_option maxHeartbeats 1000000 in
theorem rdepth_calls (m : Nat) : ∀ (e : Ex) (v : Value) (w : World), e.size ≤ m → m ≤ 1000000000000000 → IsEx w e v → Calls Tryd.prog 22 #[v] w (GivesE (.int .i64 e.depth) w) := by
  induction m with
  | zero => intro e v w h; have := size_pos e; omega
  | succ m ih =>
    intro e v w hm hMM he
    obtain ⟨aw, nw, cw, aa, na, ca, rfl, hw, hna, hca, ha, hx⟩ := he.parts
    have HX := Lib.hid hx
    have HN := Lib.hid hna
    have HS := Lib.hid e.depth_eq
    have hS : e.size = 1 + sizes e.args := e.size_eq
    have hb2 : sizes e.args ≤ m := by omega
    have hla := length_le_sizes e.args
    have hna2 : na ≤ m := by omega
    have H : Hid (∀ (e : Ex) (v : Value) (w : World), e.size ≤ m → IsEx w e v → Calls Tryd.prog 22 #[v] w (GivesE (.int .i64 e.depth) w)) := fun e v w h1 h2 => ih e v w h1 (by omega) h2
    clear ih hx hna hw hca ha he hS hm hla
    unfold exV
    go_enter Tryd.func22, Tryd.ntmps22
    go_wp2_with fail
    go_loopw [3, 4] (fun s i wr => ∃ k : Nat, k ≤ na ∧ i = .int .i64 k ∧ s = .int .i64 (depths (e.args.take k) : Int) ∧ wr.heap[w.heap.size]? = some (.cells #[.int .i64 e.op, .string e.name, .slice aw nw cw, .int .i64 e.lo, .int .i64 e.hi, .slice aa na ca] 26 (0, 0)) ∧ Ext w wr) (fun _ i _ => na - (intOf i).toNat)
    case atStart => exact ⟨0, by omega, rfl, by simp [depths], alloc_new w _, (Ext.refl w).alloc _⟩
    case round =>
      obtain ⟨k, hk, rfl, rfl, hbx, hb⟩ := hrel
      have HBX := Lib.hid hbx
      have HB := Lib.hid hb
      have hlt0 := blk_lt hbx
      obtain ⟨b0, b1, b2, b3, b4, b5, bf⟩ := blk6 hbx
      have hsk := sizes_take_le e.args k
      have hdz := depths_le (e.args.take k)
      clear hbx hb
      by_cases hlt : k < na
      · have hlt' : k < e.args.length := by have := HN.out; omega
        have t1 : decide ((k : Int) < (na : Int)) = true := by simp; omega
        obtain ⟨b, off, rfl, aw1, nw1, cw1, aa1, na1, ca1, h0, h1, h2, h3, h4, h5, h6⟩ := ExsD.at e.args _ (ExsD.ext HB.out e.args _ HX.out) k hlt'
        have H6 := Lib.hid h6
        have hd1 := Lib.hid (depths_take_succ e.args k hlt')
        have hsz := sizes_take_succ e.args k hlt'
        have hsl := sizes_take_le e.args (k + 1)
        have hk1 : e.args[k].size ≤ m := by omega
        have hk2 := e.args[k].depth_le
        clear h6
        go_wp2_with fail
        refine (H.out e.args[k] _ _ hk1 H6.out).mono ?_
        rintro r w1 ⟨rfl, hb1⟩
        have HE1 := Lib.hid hb1
        clear b0 b1 b2 b3 b4 b5 bf hb1
        go_wp2_with fail
        go_roundw
        case rel => exact ⟨k + 1, by omega, by go_num, by rw [hd1.out]; congr 1; split <;> omega, HE1.out.blk HBX.out, HB.out.trans HE1.out⟩
        case measure => simp [intOf]; omega
      · have t1 : decide ((k : Int) < (na : Int)) = false := by simp; omega
        have H1 := Lib.hid (show ((depths (e.args.take k) : Int)) + 1 = (e.depth : Int) by rw [HS.out, List.take_of_length_le (by have := HN.out; omega)]; omega)
        go_wp2_with fail
        go_ret
        refine givesE_int ?_ HB.out
        rw [← H1.out]
        try go_num
end Go.Proofs.YtaepiiediblleaaDoor

namespace Go.Proofs.YtaepiiediblleaaDoor

mutual
def pNodes : Ex → Bool
  | .mk op name words lo hi args => nodeB (.mk op name words lo hi args) && pNodesAll args
def pNodesAll : List Ex → Bool
  | [] => true
  | e :: r => pNodes e && pNodesAll r
end
mutual
theorem validF_spec : (e : Ex) → (d n : Int) → n ≤ 300 → d ≤ 17 → ((validF e d n).1 = true ↔ (d + e.depth ≤ 17 ∧ n + e.size ≤ 300 ∧ pNodes e = true)) ∧ ((validF e d n).1 = true → (validF e d n).2 = n + e.size)
  | .mk op name words lo hi args, d, n, hn, hd => by
    have hs : (Ex.mk op name words lo hi args).size = 1 + sizes args := by simp [Ex.size]
    have hp : (Ex.mk op name words lo hi args).depth = depths args + 1 := by simp [Ex.depth]
    rw [validF, hs, hp, pNodes]
    by_cases hc : 300 < n + 1 ∨ 16 < d ∨ nodeB (.mk op name words lo hi args) = false
    · rw [if_pos hc]
      refine ⟨⟨fun h => by simp at h, fun ⟨h1, h2, h3⟩ => ?_⟩, fun h => by simp at h⟩
      rcases hc with hc | hc | hc
      · omega
      · omega
      · rw [hc] at h3; simp at h3
    · rw [if_neg hc]
      have hnb : nodeB (.mk op name words lo hi args) = true := by
        cases hh : nodeB (.mk op name words lo hi args)
        · exact absurd (Or.inr (Or.inr hh)) hc
        · rfl
      obtain ⟨h1, h2⟩ := validsF_spec args (d + 1) (n + 1) (by omega) (by omega)
      rw [hnb, Bool.true_and]
      refine ⟨h1.trans ⟨fun ⟨a, b, c⟩ => ⟨by omega, by omega, c⟩, fun ⟨a, b, c⟩ => ⟨by omega, by omega, c⟩⟩, fun h => by have := h2 h; omega⟩
theorem validsF_spec : (l : List Ex) → (d n : Int) → n ≤ 300 → d ≤ 17 → ((validsF l d n).1 = true ↔ (d + depths l ≤ 17 ∧ n + sizes l ≤ 300 ∧ pNodesAll l = true)) ∧ ((validsF l d n).1 = true → (validsF l d n).2 = n + sizes l)
  | [], d, n, hn, hd => by simp [validsF, depths, sizes, pNodesAll]; omega
  | e :: r, d, n, hn, hd => by
    obtain ⟨h1, h2⟩ := validF_spec e d n hn hd
    rw [validsF, depths, sizes, pNodesAll]
    by_cases hv : (validF e d n).1 = true
    · rw [if_pos hv]
      have e2 := h2 hv
      obtain ⟨a1, a2, a3⟩ := h1.1 hv
      obtain ⟨h3, h4⟩ := validsF_spec r d (validF e d n).2 (by omega) hd
      refine ⟨h3.trans ⟨fun ⟨a, b, c⟩ => ⟨by omega, by omega, by rw [a3, c]; rfl⟩, fun ⟨a, b, c⟩ => ⟨by omega, by omega, by rw [a3] at c; simpa using c⟩⟩, fun h => by have := h4 h; omega⟩
    · rw [if_neg hv]
      refine ⟨⟨fun h => by simp at h, fun ⟨a, b, c⟩ => absurd (h1.2 ⟨by omega, by omega, ?_⟩) hv⟩, fun h => by simp at h⟩
      rw [Bool.and_eq_true] at c; exact c.1
end

theorem nodeB_ref (e : Ex) (h : e.args.length ≤ 300) : nodeB e = refNodeB e := by
  obtain ⟨op, name, words, lo, hi, args⟩ := e
  simp only [nodeB, refNodeB, refNode, Ex.op, Ex.name, Ex.words, Ex.lo, Ex.hi, Ex.args, wordsB] at *
  by_cases h1 : 1 ≤ op ∧ op ≤ 8
  · have hk : op = 1 ∨ op = 2 ∨ op = 3 ∨ op = 4 ∨ op = 5 ∨ op = 6 ∨ op = 7 ∨ op = 8 := by omega
    have hw : words.isEmpty = decide (words.length = 0) := by cases words <;> simp
    have hw2 : (words.length != 0) = decide (1 ≤ words.length) := by cases words <;> simp
    rw [hw, hw2]
    rcases hk with rfl | rfl | rfl | rfl | rfl | rfl | rfl | rfl
    all_goals
      simp only [show ((1 : Int).toNat) = 1 from rfl, show ((2 : Int).toNat) = 2 from rfl, show ((3 : Int).toNat) = 3 from rfl, show ((4 : Int).toNat) = 4 from rfl, show ((5 : Int).toNat) = 5 from rfl, show ((6 : Int).toNat) = 6 from rfl, show ((7 : Int).toNat) = 7 from rfl, show ((8 : Int).toNat) = 8 from rfl, opLeast, opMost, opNamed]
      rw [Bool.eq_iff_iff]
      simp
      try grind
  · simp [h1]
mutual
theorem pNodes_ref : (e : Ex) → e.size ≤ 300 → pNodes e = nodesB e
  | .mk op name words lo hi args, h => by
    have hs : (Ex.mk op name words lo hi args).size = 1 + sizes args := by simp [Ex.size]
    have hl := length_le_sizes args
    rw [pNodes, nodesB, nodeB_ref _ (by simp only [Ex.args]; omega), pNodesAll_ref args (by omega)]
theorem pNodesAll_ref : (l : List Ex) → sizes l ≤ 300 → pNodesAll l = nodesAll l
  | [], _ => by simp [pNodesAll, nodesAll]
  | e :: r, h => by
    rw [sizes] at h
    rw [pNodesAll, nodesAll, pNodes_ref e (by omega), pNodesAll_ref r (by omega)]
end
/-- The program's Valid and the reference's are one. -/
theorem validB_ref (e : Ex) : validB e = refExprB e := by
  unfold validB refExprB
  have h := (validF_spec e 1 0 (by omega) (by omega)).1
  have e1 : refSize e ≤ 300 ↔ e.size ≤ 300 := by unfold refSize; omega
  rw [Bool.eq_iff_iff, h, Bool.and_eq_true, Bool.and_eq_true]
  constructor
  · rintro ⟨a, b, c⟩
    refine ⟨⟨?_, ?_⟩, by rw [← pNodes_ref e (by omega)]; exact c⟩
    · rw [decide_eq_false (by omega)]; rfl
    · rw [decide_eq_true_eq, e1]; omega
  · rintro ⟨⟨a, b⟩, c⟩
    have a2 : ¬ 16 < e.depth := fun h => by rw [decide_eq_true h] at a; cases a
    have b2 := e1.1 (of_decide_eq_true b)
    exact ⟨by omega, by omega, by rw [pNodes_ref e (by omega)]; exact c⟩
end Go.Proofs.YtaepiiediblleaaDoor

namespace Go.Proofs.YtaepiiediblleaaDoor
open Go.RowKit

def DepthQ (e : Ex) (w : World) (r : Ending) (w' : World) : Prop := r = .returned (.int .i64 e.depth) ∧ Ext w w'

set_option maxRecDepth 100000 in
theorem depth_calls (m : Nat) : ∀ (e : Ex) (v : Value) (w : World), e.size ≤ m → m ≤ 1000000000000000 → IsEx w e v → Calls Tryd.prog 15 #[v] w (DepthQ e w) := by
  induction m with
  | zero => intro e v w h; cases e; simp [Ex.size] at h
  | succ m ih =>
    intro e v w hm hM he
    obtain ⟨aw, nw, cw, aa, na, ca, rfl, hw, hna, hca, ha, hx⟩ := he.parts
    have hse := e.size_eq
    have hde := e.depth_eq
    have hlen := length_le_sizes e.args
    have H : Hid (∀ (e : Ex) (v : Value) (w : World), e.size ≤ m → IsEx w e v → Calls Tryd.prog 15 #[v] w (DepthQ e w)) := fun e v w h1 h2 => ih e v w h1 (by omega) h2
    have HX := Lib.hid hx
    have HN := Lib.hid hna
    have HS := Lib.hid hde
    have hb1 : na ≤ m := by omega
    have hb2 : 1 + sizes e.args ≤ m + 1 := by omega
    clear ih hx hna hw hca ha he hse hm hlen hde
    unfold exV
    go_enter Tryd.func15, Tryd.ntmps15
    go_wp2_with fail
    go_loopw [3, 9] (fun s i wr => ∃ k : Nat, k ≤ na ∧ i = .int .i64 k ∧ s = .int .i64 (depths (e.args.take k) : Int) ∧ Ext w wr) (fun _ i _ => na - (intOf i).toNat)
    case atStart => exact ⟨0, by omega, rfl, by simp [depths], (Ext.refl w).alloc _⟩
    case round =>
      obtain ⟨k, hk, rfl, rfl, hb⟩ := hrel
      have hsz := sizes_take_le e.args k
      have hdz := depths_le (e.args.take k)
      by_cases hlt : k < na
      · have hlt' : k < e.args.length := by have := HN.out; omega
        obtain ⟨b, off, rfl, aw1, nw1, cw1, aa1, na1, ca1, h0, h1, h2, h3, h4, h5, h6⟩ := ExsD.at e.args _ (ExsD.ext hb e.args _ HX.out) k hlt'
        have hs1 := Lib.hid (sizes_take_succ e.args k hlt')
        have hd1 := Lib.hid (depths_take_succ e.args k hlt')
        have hs2 := sizes_take_le e.args (k + 1)
        have H6 := Lib.hid h6
        clear h6
        have hk1 : e.args[k].size ≤ m := by have := hs1.out; omega
        have hk2 := e.args[k].depth_le
        go_wp2_with fail
        refine (H.out e.args[k] _ _ hk1 (H6.out.ext ((Ext.refl wr).alloc _))).mono ?_
        rintro r w1 ⟨rfl, hb1⟩
        go_wp2_with fail
        go_roundw
        case rel => exact ⟨k + 1, by omega, by go_num, by rw [hd1.out]; congr 1; split <;> omega, hb.trans ((((Ext.refl wr).alloc _)).trans hb1)⟩
        case measure => simp [intOf]; omega
      · have hkn := Lib.hid (show k = e.args.length by have := HN.out; omega)
        go_wp2_with fail
        go_ret
        refine ⟨?_, hb⟩
        rw [HS.out, hkn.out]
        simp
end Go.Proofs.YtaepiiediblleaaDoor

namespace Go.Proofs.YtaepiiediblleaaDoor

theorem accept_end {toks : List Tok} {k : Nat} (h : toks.length ≤ k) (kind : Int) (text : ByteArray) : acceptB toks k kind text = false := by rw [acceptB, List.getElem?_eq_none h]
theorem tokensF_ok {toks : List Tok} {e : Ex} (h : Gr toks .ors 0 [] e 0 toks.length) (h1 : e.size ≤ 300) (h2 : e.depth ≤ 16) : tokensF toks 0 = (e, (toks.length : Int), 0, 0) := by
  have hr := h.run
  rw [if_neg (by simp)] at hr
  unfold tokensF
  rw [show (0 : Int).toNat = 0 from rfl, hr, if_neg (by omega), if_neg (by simp), partOf_size, partOf_depth, if_neg (by omega), partOf_ex h1 h2]
theorem tokensF_limit {toks : List Tok} {e : Ex} (h : Gr toks .ors 0 [] e 0 toks.length) (h1 : 300 < e.size) : tokensF toks 0 = (ex0, 0, 0, 4) := by
  have hr := h.run
  rw [if_neg (by simp)] at hr
  unfold tokensF
  rw [show (0 : Int).toNat = 0 from rfl, hr, if_neg (by omega), if_neg (by simp), partOf_size, partOf_depth, if_pos (by omega)]
/-- The tokens of an expression in parentheses. -/
def parT (a : Ex) : List Tok := [markT 40] ++ tokE a ++ [markT 41]
def parPc (a : Ex) : List Pc := [.tk (markT 40)] ++ fmtPc a ++ [.tk (markT 41)]
theorem toksOf_fmtPc (a : Ex) : toksOf (fmtPc a) = tokE a := toksOf_joinPc _ _
theorem toksOf_parPc (a : Ex) : toksOf (parPc a) = parT a := by rw [parPc, toksOf_append, toksOf_append, toksOf_fmtPc]; rfl
theorem gr_par {toks : List Tok} {e : Ex} (hok : okTree e) {k : Nat} (ha : AtT toks k (parT e)) : Gr toks .neg k [] e 0 (k + (parT e).length) := (reads_ok toks e.size e (Nat.le_refl _) hok).parens ha
theorem parT_len (a : Ex) : (parT a).length = (tokE a).length + 2 := by simp [parT]

def notE (b : Ex) : Ex := .mk 6 ⟨#[]⟩ [] 0 0 [b]
def wantE (a b c : Ex) : Ex := .mk 8 ⟨#[]⟩ [] 0 0 [a, .mk 7 ⟨#[]⟩ [] 0 0 [notE b, c]]
def bindPc (a b c : Ex) : List Pc := parPc a ++ ([.sp, .tk (nameT wOr), .sp, .tk (nameT wNot), .sp] ++ (parPc b ++ ([.sp, .tk (nameT wAnd), .sp] ++ parPc c)))
def bindT (a b c : Ex) : List Tok := parT a ++ ([nameT wOr, nameT wNot] ++ (parT b ++ ([nameT wAnd] ++ parT c)))
theorem toksOf_bindPc (a b c : Ex) : toksOf (bindPc a b c) = bindT a b c := by
  simp only [bindPc, toksOf_append, toksOf_parPc, bindT, toksOf]
theorem binds_gr {toks : List Tok} {a b c : Ex} (ha : okTree a) (hb : okTree b) (hc : okTree c) (h : AtT toks 0 (bindT a b c)) (hl : toks.length = (bindT a b c).length) : Gr toks .ors 0 [] (wantE a b c) 0 toks.length := by
  unfold bindT at h
  rw [AtT.append, AtT.append, AtT.append, AtT.append] at h
  obtain ⟨h1, ⟨h2, h3, _⟩, h4, ⟨h5, _⟩, h6⟩ := h
  have ga := gr_par ha h1
  have gb := gr_par hb h4
  have gc := gr_par hc h6
  simp only [Nat.zero_add, List.length_cons, List.length_nil] at *
  have hend : (parT a).length + 2 + (parT b).length + 1 + (parT c).length = toks.length := by rw [hl]; simp [bindT]; omega
  rw [hend] at gc
  refine Gr.orStep (acc := []) (Gr.andStop (acc := []) ga (by rw [accept_at h2]; simp [nameT, wAnd_ne.2.2.2.2.1])) (by rw [accept_at h2]; simp [nameT]) ?_
  refine Gr.orStop (acc := [a]) (Gr.andStep (acc := []) (Gr.notOk (by rw [accept_at h3]; simp [nameT]) gb) (by rw [accept_at h5]; simp [nameT]) (Gr.andStop (acc := [notE b]) gc (accept_end (by omega) _ _))) (accept_end (by omega) _ _)
theorem sepA_par {a : Ex} (h : okTree a) (p : Bool) (r : List Pc) : sepA p (parPc a ++ r) = sepA false r := by
  have h1 : sepA false (fmtPc a) = true := sepA_joinPc (tokE a) true false (good_tokE a.size a (Nat.le_refl _) h) (by simp)
  unfold parPc
  rw [sepA_append, sepA_append, sepA_append]
  have e1 : endA p [.tk (markT 40)] = false := rfl
  have e2 : ∀ q, endA q [.tk (markT 41)] = false := fun _ => rfl
  have e3 : sepA p [.tk (markT 40)] = true := by simp [sepA, markT]
  have e4 : ∀ q, sepA q [.tk (markT 41)] = true := fun q => by simp [sepA, markT]
  have e5 : endA p ([.tk (markT 40)] ++ fmtPc a ++ [.tk (markT 41)]) = false := by
    have : ∀ (l m : List Pc) (q : Bool), endA q (l ++ m) = endA (endA q l) m := by
      intro l
      induction l with
      | nil => intro m q; rfl
      | cons x r ih => intro m q; cases x <;> simp [endA, ih]
    rw [this]; exact e2 _
  rw [e1, h1, e3, e4, e5]; rfl
theorem good_par {a : Ex} (h : okTree a) : ∀ t ∈ parT a, goodT t := by
  intro t ht
  simp only [parT, List.mem_append, List.mem_singleton] at ht
  rcases ht with (rfl | ht) | rfl
  · exact goodT_mark (by decide)
  · exact good_tokE a.size a (Nat.le_refl _) h t ht
  · exact goodT_mark (by decide)
theorem parPc_len {d : Nat} {a : Ex} (h : Fine d a) : (pcsB (parPc a)).length ≤ boundB d + 2 := by
  have h1 := pcsB_joinPc_le (tokE a) true
  have h2 := h.wt
  have e : (pcsB (parPc a)).length = 1 + (pcsB (fmtPc a)).length + 1 := by
    rw [parPc, pcsB_append, pcsB_append, List.length_append, List.length_append]; rfl
  unfold fmtPc at e
  omega
theorem bound4 : boundT 4 = 1211 ∧ boundB 4 = 4445 ∧ boundS 4 = 121 ∧ boundT 3 = 401 ∧ boundB 3 = 1475 ∧ boundS 3 = 40 := by decide
theorem binds_scan {a b c : Ex} (ha : Fine 4 a) (hb : Fine 4 b) (hc : Fine 4 c) : ∃ ts, scanAll ⟨(pcsB (bindPc a b c)).toArray⟩ = (ts, 0, 0) ∧ Gr ts .ors 0 [] (wantE a b c) 0 ts.length ∧ ts.length ≤ 4000 ∧ (∀ t ∈ ts, t.text.size ≤ 1000000000000000) ∧ (pcsB (bindPc a b c)).length ≤ 16384 ∧ 1 ≤ ts.length ∧ (∀ t ∈ toksOf (bindPc a b c), goodT t) := by
  have bd4 := bound4
  have l1 := ha.len; have l2 := hb.len; have l3 := hc.len
  have b1 := parPc_len ha; have b2 := parPc_len hb; have b3 := parPc_len hc
  have hgood : ∀ t ∈ toksOf (bindPc a b c), goodT t := by
    intro t ht
    rw [toksOf_bindPc, bindT] at ht
    simp only [List.mem_append, List.mem_cons, List.not_mem_nil, or_false] at ht
    rcases ht with ht | (rfl | rfl) | ht | rfl | ht
    · exact good_par ha.ok t ht
    · exact goodT_name words_ok.2.2.2.2.2.2.2
    · exact goodT_name words_ok.2.2.2.2.2.1
    · exact good_par hb.ok t ht
    · exact goodT_name words_ok.2.2.2.2.2.2.1
    · exact good_par hc.ok t ht
  have hlen : (pcsB (bindPc a b c)).length ≤ 16384 := by
    unfold bindPc
    rw [pcsB_append, pcsB_append, pcsB_append, pcsB_append]
    simp only [List.length_append]
    have q1 : (pcsB [.sp, .tk (nameT wOr), .sp, .tk (nameT wNot), .sp]).length = 8 := rfl
    have q2 : (pcsB [.sp, .tk (nameT wAnd), .sp]).length = 5 := rfl
    omega
  have hT : (bindT a b c).length ≤ 4000 := by
    simp only [bindT, List.length_append, parT_len, List.length_cons, List.length_nil]; omega
  have hsep : sepA false (bindPc a b c) = true := by
    unfold bindPc
    rw [sepA_par ha.ok]
    simp only [List.cons_append, List.nil_append, sepA, Bool.not_false, Bool.true_or, Bool.true_and]
    rw [sepA_par hb.ok]
    simp only [sepA, Bool.not_false, Bool.true_or, Bool.true_and]
    rw [show parPc c = parPc c ++ [] by simp, sepA_par hc.ok]; rfl
  obtain ⟨ts, h1, h2⟩ := scanAll_pcs hsep hgood (by rw [toksOf_bindPc]; exact hT) hlen
  rw [toksOf_bindPc] at h2
  obtain ⟨h3, h4⟩ := atT_all h2
  refine ⟨ts, h1, binds_gr ha.ok hb.ok hc.ok h3 h4, by omega, fun t ht => ?_, hlen, ?_, hgood⟩
  · have hz : zp t ∈ bindT a b c := by rw [← h2]; exact List.mem_map_of_mem ht
    have := hgood (zp t) (by rw [toksOf_bindPc]; exact hz)
    obtain ⟨_, ⟨_, h5, _⟩ | ⟨_, h5, _⟩ | ⟨_, _, c, h5, _⟩⟩ := this
    · simp only [wordB, Bool.and_eq_true, decide_eq_true_eq] at h5
      have : (zp t).text.size ≤ 16 := h5.1.1.1.2
      have e : (zp t).text = t.text := rfl
      rw [e] at this; omega
    · have e : (zp t).text = t.text := rfl
      rw [← e, h5]; decide
    · have e : (zp t).text = t.text := rfl
      rw [← e, h5]; exact (by simp [ByteArray.size] : (⟨#[c]⟩ : ByteArray).size ≤ 1000000000000000)
  · rw [h4]; simp only [bindT, List.length_append, parT_len]; omega
end Go.Proofs.YtaepiiediblleaaDoor

namespace Go.Proofs.YtaepiiediblleaaDoor
open Go.RowKit

set_option maxRecDepth 100000 in
set_option maxHeartbeats 2000000 in
theorem Parse_limit (s : ByteArray) (toks : List Tok) (w : World) (ho : HasOps w) (hs : s.size ≤ 1000000000000000) (h64 : ∀ i, i < s.size → byteAt s i ≠ 64) (hS : scanAll s = (toks, 0, 0)) (htn : toks.length ≤ 1000000) (hsz : ∀ t ∈ toks, t.text.size ≤ 1000000000000000)
    (h1 : 1 ≤ toks.length) (hT : tokensF toks 0 = (ex0, 0, 0, 4)) : Calls Tryd.prog 10 #[.string s] w (ParseQ ex0 4 [] w) := by
  have HO := Lib.hid ho
  have HS := Lib.hid hS
  have HT := Lib.hid hT
  have HZ := Lib.hid hsz
  have H64 := Lib.hid h64
  clear ho hS hT hsz h64
  go_enter Tryd.func10, Tryd.ntmps10
  go_wp2_with fail
  refine (scan_calls s _ hs H64.out).mono ?_
  rw [show (if 16384 < s.size then (([], 0, 4) : List Tok × Int × Int) else scanF s s.size 0 []) = (toks, 0, 0) from HS.out]
  rintro r w1 ⟨a, n, c, rfl, hl, hx⟩
  have hb := hx.blk (alloc_new w (.cells #[.int .i64 0, .string ⟨#[]⟩, .slice none 0 0, .int .i64 0, .int .i64 0, .slice none 0 0] 26))
  have HX1 := Lib.hid (((Ext.refl w).alloc _).trans hx)
  have HL := Lib.hid hl
  have HN := Lib.hid hl.1
  have HB := Lib.hid hb
  have hn1 : n ≤ 1000000 := by have := hl.1; simp only at this; omega
  have hn0 : 0 < n := by have := hl.1; simp only at this; omega
  have HM1 := Lib.hid (show ∀ y ∈ [w.heap.size], y < w1.heap.size from fun y hy => by
    have h1 := blk_lt hb
    rw [List.mem_singleton] at hy; subst hy; exact h1)
  clear hx hl hb
  simp only at HL HN
  go_wp2_with fail
  refine (Tokens_calls toks a n c 0 w1 HL.out (HO.out.ext HX1.out) hn1 HZ.out [w.heap.size] HM1.out).mono ?_
  rw [HT.out]
  rintro r w2 ⟨x, rfl, hix, hx2⟩
  have hb := hx2.blk HB.out
  have hlt := blk_lt hb
  obtain ⟨b0, b1, b2, b3, b4, b5, bf⟩ := blk6 hb
  obtain ⟨b, off, e1, hc⟩ := HL.out.2.2.2 0 (by omega)
  subst e1
  have c3 := hx2.cell (hc 3 (by simp [tokCells]))
  simp only [Nat.zero_mul, Nat.add_zero] at c3
  have c3' : w2.cell? ⟨b, off + 3, none⟩ = some (.int .i64 toks[0].pos) := c3
  have hbne : b ≠ w.heap.size := fun e => by
    subst e
    have c1 := hx2.cell (hc 1 (by simp [tokCells]))
    have c2 := hx2.cell (hc 2 (by simp [tokCells]))
    simp only [Nat.zero_mul, Nat.add_zero] at c1 c2
    rw [blk_cell hb] at c1 c2
    have ho : off = 0 ∨ off = 1 ∨ off = 2 ∨ off = 3 ∨ off = 4 ∨ 5 ≤ off := by omega
    rcases ho with rfl | rfl | rfl | rfl | rfl | ho
    · simp [tokCells] at c2
    · simp [tokCells] at c1
    · simp [tokCells] at c1
    · simp [tokCells] at c1
    · simp [tokCells] at c1
    · rw [Array.getElem?_eq_none (by simp; omega)] at c1; cases c1
  have hbn2 : b < w2.heap.size := block_lt c3'
  have hbn3 : b ≠ w2.heap.size := by omega
  have HX2 := Lib.hid (HX1.out.trans hx2)
  clear hix hx2 hb HX1 HB hc c3
  unfold ExV.val exV
  simp only
  go_wp2_with fail
  go_region
  all_goals go_wp2_with fail
  refine bodyPost_ret (v := .tuple #[exV0.val, .int .i64 toks[0].pos, .int .i64 4]) (by simp [results, Tryd.results10, go_sem, ExV.val, exV, exV0, b0, b1, b2, b3, b4, b5, hlt]) rfl ?_
  refine ⟨exV0, toks[0].pos, rfl, isEx0 _, fun h => by simp at h, ?_⟩
  repeat (with_reducible (first | refine Ext.alloc ?_ _ | refine Ext.setAbove ?_ ?_ _ | refine Ext.drew ?_ | refine Ext.drewN ?_ _))
  exact HX2.out
  all_goals simp
end Go.Proofs.YtaepiiediblleaaDoor
