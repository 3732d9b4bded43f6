/-
  Texts of the claim, joined: GrowGD, GrowS, GrowG, RApp, RSom, Ch, Ch2.
-/
import Derived.Test.YtefjomofjejklaaGreatDoorDt06
namespace Go.Proofs.YtefjomofjejklaaGreatDoor
set_option maxRecDepth 100000
set_option maxHeartbeats 32000000
open Go.RowKit
def isDataG (e : Edge) : Bool := match e.ground with | .data => true | .guard => true | _ => false
def okGrowG (ops : Array Oper) (m n : Nat) : Bool :=
 Region.noSelect ops && decide (m <= ops.size) && decide (ops.size <= m + 1) &&
 ((List.range ops.size).all fun i => (List.range ops.size).all fun j => i == j || dstAt ops i == none || dstAt ops i != dstAt ops j) &&
 ((List.range ops.size).all fun i => match ops[i]? with
  | none => false
  | some o => ((match o.guard with | none => true | some (j, _) => (match dstAt ops j with | none => false | some t => decide (t < n)) && o.after.any (fun e => isDataG e && e.on == j)) || i == m) && (o.after.all fun e => (!Region.binds .any e || decide (e.on < i)) && (!isDataG e || Region.binds .any e)) &&
   ((List.range m).all fun j => match dstAt ops j with
    | none => true
    | some t => !(o.looksAt ops).contains t || (i == m) || o.after.any (fun e => Region.binds .any e && e.on == j)) &&
   (i != m || (List.range m).all fun j => o.after.any (fun e => Region.binds .any e && e.on == j)))
theorem okGrow_specG {ops : Array Oper} {m n : Nat} (h : okGrowG ops m n = true) : Region.noSelect ops = true /\ m <= ops.size /\ ops.size <= m + 1 /\ DstApart ops /\
  (∀ i o, ops[i]? = some o -> (i < m -> ∀ j b, o.guard = some (j, b) -> ∃ t, dstAt ops j = some t /\ t < n /\ ∃ e ∈ o.after, isDataG e = true /\ e.on = j) /\ (∀ e ∈ o.after, (Region.binds .any e = true -> e.on < i) /\ (isDataG e = true -> Region.binds .any e = true)) /\ (i < m -> ∀ j t, j < m -> dstAt ops j = some t -> t ∈ o.looksAt ops -> ∃ e ∈ o.after, Region.binds .any e = true /\ e.on = j) /\
   (i = m -> ∀ j, j < m -> ∃ e ∈ o.after, Region.binds .any e = true /\ e.on = j)) := by
 simp only [okGrowG, Bool.and_eq_true, decide_eq_true_eq] at h
 obtain ⟨⟨⟨⟨h1, h2⟩, h3⟩, h4⟩, h5⟩ := h
 refine ⟨h1, h2, h3, ?_, ?_⟩
 ·intro i j d hi hj
  have li : i < ops.size := by
   unfold dstAt at hi
   rcases Nat.lt_or_ge i ops.size with h | h
   ·exact h
   rw [Array.getElem?_eq_none h] at hi; simp at hi
  have lj : j < ops.size := by
   unfold dstAt at hj
   rcases Nat.lt_or_ge j ops.size with h | h
   ·exact h
   rw [Array.getElem?_eq_none h] at hj; simp at hj
  have := List.all_eq_true.1 (List.all_eq_true.1 h4 i (by simpa using li)) j (by simpa using lj)
  simpa [hi, hj] using this
 intro i o ho
 have li : i < ops.size := (Array.getElem?_eq_some_iff.1 ho).1
 have h6 := List.all_eq_true.1 h5 i (by simpa using li)
 simp only [ho, Bool.and_eq_true] at h6
 obtain ⟨⟨⟨g1, g2⟩, g3⟩, g4⟩ := h6
 refine ⟨fun hm => ?_, fun e he => ?_, fun hm j t hjm hj ht => ?_, fun hm j hj => ?_⟩
 ·intro j b hg
  rcases Bool.or_eq_true_iff.1 g1 with g | g
  ·rw [hg] at g
   simp only [Bool.and_eq_true] at g
   cases hd : dstAt ops j with
   | none => rw [hd] at g; simp at g
   | some t =>
    rw [hd] at g
    obtain ⟨e, he, hb⟩ := Array.any_eq_true'.1 g.2
    simp only [Bool.and_eq_true, beq_iff_eq] at hb
    exact ⟨t, rfl, by simpa using g.1, e, he, hb.1, hb.2⟩
  have : i = m := by simpa using g
  omega
 ·have := Array.all_eq_true_iff_forall_mem.1 g2 e he
  simp only [Bool.and_eq_true, Bool.or_eq_true, Bool.not_eq_true', decide_eq_true_eq] at this
  refine ⟨fun hb => ?_, fun hb => ?_⟩
  ·rcases this.1 with h | h
   ·rw [hb] at h; cases h
   exact h
  rcases this.2 with h | h
  ·rw [hb] at h; cases h
  exact h
 ·have := List.all_eq_true.1 g3 j (by simpa using hjm)
  rw [hj] at this
  simp only [Bool.or_eq_true, Bool.not_eq_true'] at this
  rcases this with (h | h) | h
  ·rw [List.contains_iff_mem.2 ht] at h; cases h
  ·have : i = m := by simpa using h
   omega
  obtain ⟨e, he, hb⟩ := Array.any_eq_true'.1 h
  simp only [Bool.and_eq_true, beq_iff_eq] at hb
  exact ⟨e, he, hb.1, hb.2⟩
 subst hm
 rcases Bool.or_eq_true_iff.1 g4 with g | g
 ·simp at g
 have := List.all_eq_true.1 g j (by simpa using hj)
 obtain ⟨e, he, hb⟩ := Array.any_eq_true'.1 this
 simp only [Bool.and_eq_true, beq_iff_eq] at hb
 exact ⟨e, he, hb.1, hb.2⟩
def looksToG (ops : Array Oper) (c i : Nat) : Bool := match ops[c]? with | none => false | some o => o.after.any fun e => isDataG e && e.on == i
def outlastsG (ops : Array Oper) (m : Nat) (Kp : ZN) (i k : Nat) : Bool := !comesAfter ops m i k && (Kp.contains i || (List.range m).any fun c => c != k && !comesAfter ops m k c && looksToG ops c i)
section
variable {P : Program} {ops : Array Oper} {Q : Exit -> Act -> World -> Prop} {a : Act} {m : Nat} (Kp : ZN) (G : ZN -> (Nat -> Value) -> World -> Prop) (E : Nat -> World -> World -> Prop) (R : Nat -> Value -> World -> Prop)
theorem wpAny_growS {n : Nat} (hok : okGrowG ops m n = true) (hN : n <= a.tmps.size) (sk : Nat -> Bool) (hSg : ∀ i o, i < m -> sk i = true -> ops[i]? = some o -> o.guard ≠ none) (hGd : ∀ i o j b, i < m -> ops[i]? = some o -> o.guard = some (j, b) -> ∀ v W, R j v W -> if sk i = true then v ≠ .bool b else v = .bool b) (hsk : ∀ i, i < m -> sk i = true -> ∀ L vs W, i ∉ L -> G L vs W -> E i W W /\ G (L ++ [i]) (upd vs i undef) W /\ R i undef W) (hRE : ∀ i k v W W', i < m -> k < m -> i ≠ k -> outlastsG ops m Kp i k = true -> R i v W -> E k W W' -> R i v W')
  (hstep : ∀ i o, i < m -> sk i = false -> ops[i]? = some o -> ∀ L vs W, i ∉ L -> (∀ j ∈ L, comesAfter ops m j i = false) -> G L vs W -> (∀ e ∈ o.after, isDataG e = true -> R e.on (vs e.on) W) -> ∀ ρ, Sees ops a m vs ρ -> GivesOp P o ρ W (fun v W' => E i W W' /\ G (L ++ [i]) (upd vs i v) W' /\ R i v W'))
  (hend : ∀ L vs W, (∀ j, j < m -> j ∈ L) -> G L vs W -> (∀ j ∈ Kp, j < m -> R j (vs j) W) -> if m = ops.size then Q .normal (acts ops a vs (List.range m)) W else wpOp P ops Q m (fun a w => Q .normal a w) (acts ops a vs (List.range m)) W) :
  ∀ (fuel : Nat) (L : ZN) (vs : Nat -> Value) (W : World) (listed : Array Bool), listed.size = ops.size -> (∀ j, j < ops.size -> (listed.getD j true = true ↔ j ∈ L)) -> L.Nodup -> (∀ j ∈ L, j < m) -> ((List.range ops.size).filter (fun j => !L.contains j)).length <= fuel -> G L vs W -> (∀ i ∈ L, ∀ o, ops[i]? = some o -> ∀ e ∈ o.after, Region.binds .any e = true -> e.on ∈ L) -> (∀ j ∈ L, (j ∈ Kp \/ ∃ c, c < m /\ c ∉ L /\ looksToG ops c j = true) -> R j (vs j) W) ->
   wpAny P .any ops Q fuel listed (acts ops a vs L) W := by
 obtain ⟨hns, hm1, hm2, hda, hspec⟩ := okGrow_specG hok
 have hperm : ∀ L : ZN, L.Nodup -> (∀ j ∈ L, j < m) -> (∀ j, j < m -> j ∈ L) -> L.Perm (List.range m) := fun L h1 h2 h3 =>
  (List.perm_ext_iff_of_nodup h1 List.nodup_range).2 (fun j => ⟨fun h => by simpa using h2 j h, fun h => h3 j (by simpa using h)⟩)
 -- all below m are listed if none of them is ready
 have hall : ∀ (L : ZN) (listed : Array Bool), listed.size = ops.size -> (∀ j, j < ops.size -> (listed.getD j true = true ↔ j ∈ L)) -> (∀ j ∈ Region.ready .any ops listed, ¬ j < m) -> ∀ j, j < m -> j ∈ L := by
  intro L listed hsz hL hr j
  induction j using Nat.strongRecOn with
  | _ j ih =>
   intro hj
   by_cases hjL : j ∈ L
   ·exact hjL
   exfalso
   refine hr j ?_ hj
   have hjs : j < ops.size := by omega
   rw [mem_ready]
   obtain ⟨o, ho⟩ : ∃ o, ops[j]? = some o := ⟨ops[j], Array.getElem?_eq_getElem hjs⟩
   refine ⟨?_, o, ho, fun e he hb => ?_⟩
   ·cases hx : listed.getD j true
    ·rfl
    exact absurd ((hL j hjs).1 hx) hjL
   have hlt := ((hspec j o ho).2.1 e he).1 hb
   have hm := ih e.on hlt (by omega)
   have := (hL e.on (by omega)).2 hm
   have hin : e.on < listed.size := by rw [hsz]; omega
   simpa [Array.getD, hin] using this
 -- what is asked when all below m are listed
 have hfin : ∀ (L : ZN) (vs : Nat -> Value) (W : World), L.Nodup -> (∀ j ∈ L, j < m) -> (∀ j, j < m -> j ∈ L) -> G L vs W -> (∀ j ∈ L, (j ∈ Kp \/ ∃ c, c < m /\ c ∉ L /\ looksToG ops c j = true) -> R j (vs j) W) ->
   if m = ops.size then Q .normal (acts ops a vs L) W else wpOp P ops Q m (fun a w => Q .normal a w) (acts ops a vs L) W := by
  intro L vs W hnd hLm hcov hE hR
  rw [acts_perm hda (hperm L hnd hLm hcov)]
  exact hend L vs W hcov hE (fun j hk hj => hR j (hcov j hj) (Or.inl hk))
 intro fuel
 induction fuel with
 | zero =>
  intro L vs W listed hsz hL hnd hLm hlen hE hcl hR
  have hcov : ∀ j, j < ops.size -> j ∈ L := fun j hj => by
   have h0 := List.eq_nil_of_length_eq_zero (Nat.le_zero.1 hlen)
   have : j ∉ (List.range ops.size).filter (fun j => !L.contains j) := by rw [h0]; simp
   simpa [hj] using this
  have hmn : m = ops.size := by
   rcases Nat.lt_or_ge m ops.size with h | h
   ·have := hLm m (hcov m h); omega
   omega
  have hf := hfin L vs W hnd hLm (fun j hj => hcov j (by omega)) hE hR
  rw [if_pos hmn] at hf
  refine ⟨?_, hf⟩
  rw [List.eq_nil_iff_forall_not_mem]
  intro j hj
  obtain ⟨h0, o, ho, _⟩ := mem_ready.1 hj
  have := (hL j (Array.getElem?_eq_some_iff.1 ho).1).2 (hcov j (Array.getElem?_eq_some_iff.1 ho).1)
  rw [this] at h0; cases h0
 | succ fuel ih =>
  intro L vs W listed hsz hL hnd hLm hlen hE hcl hR
  refine ⟨fun hr => ?_, fun i hi => ?_⟩
  ·have hcov := hall L listed hsz hL (by rw [hr]; simp)
   have hf := hfin L vs W hnd hLm hcov hE hR
   by_cases hmn : m = ops.size
   ·rw [if_pos hmn] at hf; exact hf
   exfalso
   have hms : m < ops.size := by omega
   have : m ∈ Region.ready .any ops listed := by
    rw [mem_ready]
    obtain ⟨o, ho⟩ : ∃ o, ops[m]? = some o := ⟨ops[m], Array.getElem?_eq_getElem hms⟩
    refine ⟨?_, o, ho, fun e he hb => ?_⟩
    ·cases hx : listed.getD m true
     ·rfl
     have := hLm m ((hL m hms).1 hx); omega
    have hlt := ((hspec m o ho).2.1 e he).1 hb
    have := (hL e.on (by omega)).2 (hcov e.on hlt)
    have hin : e.on < listed.size := by rw [hsz]; omega
    simpa [Array.getD, hin] using this
   rw [hr] at this
   simp at this
  obtain ⟨h0, o, ho, hdep⟩ := mem_ready.1 hi
  have his : i < ops.size := (Array.getElem?_eq_some_iff.1 ho).1
  have hiL : i ∉ L := fun h => by rw [(hL i his).2 h] at h0; cases h0
  have hdepL : ∀ e ∈ o.after, Region.binds .any e = true -> e.on ∈ L := fun e he hb => by
   have h1 := hdep e he hb
   have hlt := ((hspec i o ho).2.1 e he).1 hb
   have hin : e.on < listed.size := by rw [hsz]; omega
   exact (hL e.on (by omega)).1 (by simpa [Array.getD, hin] using h1)
  have hlist : ∀ j, j < ops.size -> ((listed.setIfInBounds i true).getD j true = true ↔ j ∈ L ++ [i]) := fun j hj => by
   by_cases hij : i = j
   ·subst hij; simp [hsz, his]
   rw [getD_set_ne true hij, hL j hj]; simp; intro e; exact absurd e.symm hij
  by_cases him : i < m
  ·-- one of the operations that make memory
   have hnc : ∀ j ∈ L, comesAfter ops m j i = false := fun j hj => by
    cases hx : comesAfter ops m j i
    ·rfl
    exact absurd (comesAfter_mem hcl m j i hj hx) hiL
   have hcont : ∀ v W', E i W W' -> G (L ++ [i]) (upd vs i v) W' -> R i v W' -> wpAny P .any ops Q fuel (listed.setIfInBounds i true) ((acts ops a vs L).put o.dst v) W' := by
    intro v W' hEW hE' hRv
    have e1 : (acts ops a vs L).put o.dst v = acts ops a (upd vs i v) (L ++ [i]) := by
     rw [acts_snoc, acts_congr (vs := upd vs i v) (vs' := vs) (fun j hj => by unfold upd; rw [if_neg (fun e => hiL (by rw [<- e]; exact hj))])]
     simp [upd, dstAt, ho]
    rw [e1]
    refine ih (L ++ [i]) (upd vs i v) W' _ (by simpa using hsz) hlist ?_ ?_ ?_ hE' ?_ ?_
    ·rw [List.nodup_append]
     exact ⟨hnd, by simp, fun x hx y hy e => by simp at hy; subst hy; subst e; exact hiL hx⟩
    ·intro j hj
     rcases List.mem_append.1 hj with h | h
     ·exact hLm j h
     simp at h; omega
    ·have h1 : (List.range ops.size).filter (fun j => !(L ++ [i]).contains j) = ((List.range ops.size).filter (fun j => !L.contains j)).filter (fun j => j != i) := by
      rw [List.filter_filter]
      congr 1
      funext j
      simp only [List.contains_append, Bool.not_or]
      rw [Bool.and_comm]
      congr 1
      rw [Bool.eq_iff_iff]; simp [bne]
     have h2 : (((List.range ops.size).filter (fun j => !L.contains j)).filter (fun j => j != i)).length < ((List.range ops.size).filter (fun j => !L.contains j)).length := by
      rw [List.length_filter_lt_length_iff_exists]
      exact ⟨i, by simp [his, hiL], by simp⟩
     rw [h1]; omega
    ·intro j hj o' ho' e he hb
     rcases List.mem_append.1 hj with h | h
     ·exact List.mem_append_left _ (hcl j h o' ho' e he hb)
     simp at h; subst h
     rw [ho] at ho'
     cases ho'
     exact List.mem_append_left _ (hdepL e he hb)
    intro j hj hlive
    rcases List.mem_append.1 hj with h | h
    ·have : upd vs i v j = vs j := by unfold upd; rw [if_neg (fun e => hiL (by rw [<- e]; exact h))]
     rw [this]
     have hlive' : j ∈ Kp \/ ∃ c, c < m /\ c ∉ L /\ looksToG ops c j = true := hlive.imp id (fun ⟨c, h1, h2, h3⟩ => ⟨c, h1, fun hc => h2 (List.mem_append_left _ hc), h3⟩)
     refine hRE j i _ W W' (hLm j h) him (fun e => hiL (e ▸ h)) ?_ (hR j h hlive') hEW
     unfold outlastsG
     rw [Bool.and_eq_true, Bool.not_eq_true', Bool.or_eq_true]
     refine ⟨?_, ?_⟩
     ·cases hx : comesAfter ops m j i
      ·rfl
      exact absurd (comesAfter_mem hcl m j i h hx) hiL
     rcases hlive with hk | ⟨c, h1, h2, h3⟩
     ·exact Or.inl (List.contains_iff_mem.2 hk)
     refine Or.inr (List.any_eq_true.2 ⟨c, by simpa using h1, ?_⟩)
     rw [h3, Bool.and_true, Bool.and_eq_true, bne_iff_ne, Bool.not_eq_true']
     refine ⟨fun e => by subst e; exact h2 (by simp), ?_⟩
     cases hx : comesAfter ops m i c
     ·rfl
     exact absurd (List.mem_append_left _ (comesAfter_ready hcl ho hdepL m c hx)) h2
    simp at h; subst h; simpa [upd] using hRv
   cases hss : sk i
   case true =>
    unfold wpOp
    simp only [ho]
    cases hgd : o.guard with
    | none => exact absurd hgd (hSg i o him hss ho)
    | some p =>
     obtain ⟨j, b⟩ := p
     obtain ⟨t, ht, htn, e, he, heD, rfl⟩ := (hspec i o ho).1 him j b hgd
     have hjL := hdepL e he (((hspec i o ho).2.1 e he).2 heD)
     have hv := hGd i o e.on b him ho hgd _ _ (hR e.on hjL (Or.inr ⟨i, him, hiL, by unfold looksToG; rw [ho]; exact Array.any_eq_true'.2 ⟨e, he, by simp [heD]⟩⟩))
     rw [if_pos hss] at hv
     rw [if_neg (by
      unfold Region.wanted
      rw [hgd]
      have hev := acts_eval_in hda (a := a) (vs := vs) hjL ht
      rw [if_pos (Nat.lt_of_lt_of_le htn hN)] at hev
      have hlt : t < (acts ops a vs L).tmps.size := by rw [acts_size]; exact Nat.lt_of_lt_of_le htn hN
      show ¬ (yielded ops (acts ops a vs L).tmps e.on == some b) = true
      simp only [Act.eval] at hev
      unfold yielded
      have hdd : (ops[e.on]?).bind (·.dst) = some t := ht
      rw [hdd]
      simp only [Option.bind_some]
      rw [Array.getD_eq_getD_getElem?, Array.getElem?_eq_getElem hlt, Option.getD_some] at hev
      rw [Array.getElem?_eq_getElem hlt, hev]
      cases hvs : vs e.on <;> simp
      intro hb
      exact hv (by rw [hvs, hb]))]
     obtain ⟨q1, q2, q3⟩ := hsk i him hss L vs W hiL hE
     exact hcont undef W q1 q2 q3
   have hg := hstep i o him hss ho L vs W hiL hnc hE (fun e he hb => hR _ (hdepL e he (((hspec i o ho).2.1 e he).2 hb)) (Or.inr ⟨i, him, hiL, by unfold looksToG; rw [ho]; exact Array.any_eq_true'.2 ⟨e, he, by simp [hb]⟩⟩)) _ (sees_acts hda a m vs)
   have hex : execOp (acts ops a vs L).eval o = execOp (acts ops a vs (List.range m)).eval o := by
    refine execOp_congr o (Region.noSelect_spec hns i o · · ho) (fun x hx => ?_)
    cases x with
    | tmp t =>
     have hlook : t ∈ o.looksAt ops := List.mem_append_left _ (List.mem_filterMap.2 ⟨.tmp t, by simpa using hx, rfl⟩)
     by_cases hex : ∃ j, j < m /\ dstAt ops j = some t
     ·obtain ⟨j, hjm, hj⟩ := hex
      obtain ⟨e, he, hb, rfl⟩ := (hspec i o ho).2.2.1 him j t hjm hj hlook
      have hjL := hdepL e he hb
      rw [acts_eval_in hda hjL hj, acts_eval_in hda (by simpa using hLm _ hjL) hj]
     have h1 : ∀ j, j < m -> dstAt ops j ≠ some t := fun j hjm hj => hex ⟨j, hjm, hj⟩
     rw [acts_eval_out (fun j hjL => h1 j (hLm j hjL)), acts_eval_out (fun j hjr => h1 j (by simpa using hjr))]
    | const v => rfl
    | global g => rfl
    | func f => rfl
   unfold wpOp
   simp only [ho]
   rw [if_pos (by
    unfold Region.wanted
    cases hgd : o.guard with
    | none => rfl
    | some p =>
     obtain ⟨j, b⟩ := p
     obtain ⟨t, ht, htn, e, he, heD, rfl⟩ := (hspec i o ho).1 him j b hgd
     have hjL := hdepL e he (((hspec i o ho).2.1 e he).2 heD)
     have hv := hGd i o e.on b him ho hgd _ _ (hR e.on hjL (Or.inr ⟨i, him, hiL, by unfold looksToG; rw [ho]; exact Array.any_eq_true'.2 ⟨e, he, by simp [heD]⟩⟩))
     rw [if_neg (by rw [hss]; decide)] at hv
     have hev := acts_eval_in hda (a := a) (vs := vs) hjL ht
     rw [if_pos (Nat.lt_of_lt_of_le htn hN), hv] at hev
     have hlt : t < (acts ops a vs L).tmps.size := by rw [acts_size]; exact Nat.lt_of_lt_of_le htn hN
     show (yielded ops (acts ops a vs L).tmps e.on == some b) = true
     simp only [Act.eval] at hev
     unfold yielded
     have hdd : (ops[e.on]?).bind (·.dst) = some t := ht
     rw [hdd]
     simp only [Option.bind_some]
     rw [Array.getD_eq_getD_getElem?, Array.getElem?_eq_getElem hlt, Option.getD_some] at hev
     rw [Array.getElem?_eq_getElem hlt, hev]
     simp)]
   left
   refine Oper.wp_mono ?_ (hg.wp hex)
   rintro a' W' ⟨v, rfl, hEW, hE', hRv⟩
   exact hcont v W' hEW hE' hRv
  -- the last one
  obtain rfl : i = m := by omega
  have hcov : ∀ j, j < i -> j ∈ L := fun j hj => by
   obtain ⟨e, he, hb, rfl⟩ := (hspec i o ho).2.2.2 rfl j hj
   exact hdepL e he hb
  have hf := hfin L vs W hnd hLm hcov hE hR
  rw [if_neg (by omega)] at hf
  refine wpOp_mono (fun a' W' hq => ?_) hf
  refine wpAny_done ?_ hq fuel
  rw [List.eq_nil_iff_forall_not_mem]
  intro j hj
  obtain ⟨h0', o', ho', _⟩ := mem_ready.1 hj
  have hjs := (Array.getElem?_eq_some_iff.1 ho').1
  have : j ∈ L ++ [i] := by
   by_cases hji : j < i
   ·exact List.mem_append_left _ (hcov j hji)
   have : j = i := by omega
   simp [this]
  rw [(hlist j hjs).2 this] at h0'; cases h0'
theorem wp_region_growS {id : Nat} {w : World} (hm : P.follows .mixedOrders = true) {n : Nat} (hok : okGrowG ops m n = true) (hN : n <= a.tmps.size) (sk : Nat -> Bool) (hSg : ∀ i o, i < m -> sk i = true -> ops[i]? = some o -> o.guard ≠ none) (hGd : ∀ i o j b, i < m -> ops[i]? = some o -> o.guard = some (j, b) -> ∀ v W, R j v W -> if sk i = true then v ≠ .bool b else v = .bool b) (hsk : ∀ i, i < m -> sk i = true -> ∀ L vs W, i ∉ L -> G L vs W -> E i W W /\ G (L ++ [i]) (upd vs i undef) W /\ R i undef W) (hG : G [] (fun _ => undef) w.drew) (hRE : ∀ i k v W W', i < m -> k < m -> i ≠ k -> outlastsG ops m Kp i k = true -> R i v W -> E k W W' -> R i v W')
  (hstep : ∀ i o, i < m -> sk i = false -> ops[i]? = some o -> ∀ L vs W, i ∉ L -> (∀ j ∈ L, comesAfter ops m j i = false) -> G L vs W -> (∀ e ∈ o.after, isDataG e = true -> R e.on (vs e.on) W) -> ∀ ρ, Sees ops a m vs ρ -> GivesOp P o ρ W (fun v W' => E i W W' /\ G (L ++ [i]) (upd vs i v) W' /\ R i v W'))
  (hend : ∀ L vs W, (∀ j, j < m -> j ∈ L) -> G L vs W -> (∀ j ∈ Kp, j < m -> R j (vs j) W) -> if m = ops.size then Q .normal (acts ops a vs (List.range m)) W else wpOp P ops Q m (fun a w => Q .normal a w) (acts ops a vs (List.range m)) W) :
  (Code.region id ops true).wp P Q a w := by
 refine wp_region_any hm ?_
 refine wpAny_growS Kp G E R hok hN sk hSg hGd hsk hRE hstep hend ops.size [] (fun _ => undef) _ _ (by simp) (fun j hj => ?_) List.nodup_nil (fun j hj => by simp at hj) ?_ hG (fun j hj => by simp at hj) (fun j hj => by simp at hj)
 ·simp [hj]
 exact Nat.le_trans (List.length_filter_le _ _) (by simp)
end
section
variable {P : Program} {ops : Array Oper} {Q : Exit -> Act -> World -> Prop} {a : Act} {m : Nat} (Kp : ZN) (G : ZN -> (Nat -> Value) -> World -> Prop) (E : Nat -> World -> World -> Prop) (R : Nat -> Value -> World -> Prop)
theorem wp_region_growLG {id : Nat} {w : World} (hm : P.follows .mixedOrders = true) {n : Nat} (hok : okGrowG ops m n = true) (hN : n <= a.tmps.size) (hGd : ∀ i o j b, i < m -> ops[i]? = some o -> o.guard = some (j, b) -> ∀ v W, R j v W -> v = .bool b) (hG : G [] (fun _ => undef) w.drew) (hRE : ∀ i k v W W', i < m -> k < m -> i ≠ k -> outlastsG ops m Kp i k = true -> R i v W -> E k W W' -> R i v W')
  (hstep : ∀ i o, i < m -> ops[i]? = some o -> ∀ L vs W, i ∉ L -> (∀ j ∈ L, comesAfter ops m j i = false) -> G L vs W -> (∀ e ∈ o.after, isDataG e = true -> R e.on (vs e.on) W) -> ∀ ρ, Sees ops a m vs ρ -> GivesOp P o ρ W (fun v W' => E i W W' /\ G (L ++ [i]) (upd vs i v) W' /\ R i v W'))
  (hend : ∀ L vs W, (∀ j, j < m -> j ∈ L) -> G L vs W -> (∀ j ∈ Kp, j < m -> R j (vs j) W) -> if m = ops.size then Q .normal (acts ops a vs (List.range m)) W else wpOp P ops Q m (fun a w => Q .normal a w) (acts ops a vs (List.range m)) W) :
  (Code.region id ops true).wp P Q a w := by
 exact wp_region_growS Kp G E R hm hok hN (fun _ => false) (fun _ _ _ h => by cases h) (fun i o j b hi ho hg v W hv => by rw [if_neg (by decide)]; exact hGd i o j b hi ho hg v W hv) (fun _ _ h => by cases h) hG hRE (fun i o hi _ ho => hstep i o hi ho) hend
end
def wbsV (V : Ex -> Bool) : List Wb -> Bool
 | [] => false
 | .mk _ c u :: r => (V c && !wbsV V u) || wbsV V r
def wbsOkT (P : Ex -> Prop) : List Wb -> Prop
 | [] => True
 | .mk _ c u :: r => P c /\ wbsOkT P u /\ u.length <= 1000000000000000 /\ wbsOkT P r
theorem wbsV_drop (V : Ex -> Bool) {l : List Wb} {k : Nat} (hk : k < l.length) : wbsV V (l.drop k) = ((V l[k].cond && !wbsV V l[k].unl) || wbsV V (l.drop (k + 1))) := by
 rw [List.drop_eq_getElem_cons hk]
 cases h : l[k] with
 | mk n c u => rw [wbsV]; rfl
theorem wbsOkT_at {P : Ex -> Prop} : (l : List Wb) -> wbsOkT P l -> (k : Nat) -> (hk : k < l.length) -> P l[k].cond /\ wbsOkT P l[k].unl /\ l[k].unl.length <= 1000000000000000
 | [], _, k, hk => by simp at hk
 | .mk n c u :: r, h, 0, _ => by
  unfold wbsOkT at h
  exact ⟨h.1, h.2.1, h.2.2.1⟩
 | .mk n c u :: r, h, k + 1, hk => by
  unfold wbsOkT at h
  simpa using wbsOkT_at r h.2.2.2 k (by simpa using hk)
def BkI (V : Ex -> Bool) (u : List Wb) (n : Nat) (w : World) (i : Value) (wr : World) : Prop := ∃ k : Nat, i = .int .i64 k /\ k <= n /\ wbsV V u = wbsV V (u.drop k) /\ Ext w wr
def claV (V : Ex -> Bool) (x : Cla) : Bool := V x.cond && !wbsV V x.unl
def someB (V : Ex -> Bool) (kind : Int) (neg : Bool) : List Cla -> Bool
 | [] => false
 | x :: r => (x.kind == kind && (claV V x != neg)) || someB V kind neg r
def greatS (V : Ex -> Bool) (kind : Int) (m : Int) (x : Cla) : Int := if (x.kind == kind && claV V x) = true then max m x.amount else m
def greatK (V : Ex -> Bool) (kind : Int) (l : List Cla) : Int := l.foldl (greatS V kind) 0
def noCall (o : Oper) : Bool := match o.op with
 | .call c => (match c.callee with | .builtin .len => true | .builtin .cap => true | .builtin .min => true | .builtin .max => true | _ => false)
 | .move _ | .assign _ | .pick .. | .build .. | .load .. | .binOp .. | .unOp .. | .convert .. | .makeInterface .. | .slice .. | .fieldAddr .. | .field .. | .indexAddr .. | .index .. | .lookup .. | .typeAssert .. | .extract .. | .alloc .. | .box .. | .buildSlice .. | .makeSlice .. | .makeMap .. | .makeFunc .. => true
 | _ => false
theorem no_enter_v (s : Sem Value) (P : Program) (W : World) (f : FuncId) (args : Array Value) (W' : World) : (do pure (.value (<- s)) : Sem Next).run P W ≠ .ok (.enter f args) W' := by
 rw [Sem.run_bind]
 cases s.run P W <;> simp [Result.andThen, Sem.run_pure]
theorem no_enter_m (v : Value) (P : Program) (W : World) (f : FuncId) (args : Array Value) (W' : World) : (pure (.value v) : Sem Next).run P W ≠ .ok (.enter f args) W' := by
 simp [Sem.run_pure]
theorem noCall_enter {o : Oper} (h : noCall o = true) (ρ : Operand -> Value) (P : Program) (W : World) (f : FuncId) (args : Array Value) (W' : World) : (execOp ρ o).run P W ≠ .ok (.enter f args) W' := by
 unfold noCall at h
 unfold execOp
 split at h
 ·rename_i c ho
  simp only [ho]
  split at h
  all_goals first
   | (cases h; done)
   | (rename_i hc; simp only [resolve, hc, Sem.run_bind, Sem.run_pure, Result.andThen, invoke, builtin]; generalize (Sem.run P _ W) = r; cases r <;> simp)
 all_goals first
  | (cases h; done)
  | (rename_i ho; simp only [ho]; exact no_enter_v _ _ _ _ _ _)
  | (rename_i ho; simp only [ho]; exact no_enter_m _ _ _ _ _ _)
  | (rename_i ho; simp only [ho]; rw [Sem.run_bind]; generalize (Sem.run P _ W) = r; cases r <;> simp [Result.andThen, Sem.run_pure])
def WIn (C : World -> Prop) := {W : World // C W}
def Det (P : Program) (ops : Array Oper) (o : Oper) (A : Act) (W : World) (v : Value) (W' : World) : Prop :=
 (Region.wanted o (yielded ops A.tmps) = true /\ ((execOp A.eval o).run P W = .ok (.value v) W' \/ ((execOp A.eval o).run P W = .ok .skip W' /\ v = undef))) \/
 (Region.wanted o (yielded ops A.tmps) = false /\ v = undef /\ W' = W)
theorem Det.same {P : Program} {ops : Array Oper} {o : Oper} {A : Act} {W : World} {v v2 : Value} {W' W2 : World} (h : Det P ops o A W v W') (k : Det P ops o A W v2 W2) : v = v2 /\ W' = W2 := by
 unfold Det at h k
 rcases h with ⟨h1, h2⟩ | ⟨h1, h2, h3⟩ <;> rcases k with ⟨k1, k2⟩ | ⟨k1, k2, k3⟩
 ·rcases h2 with h2 | ⟨h2, h4⟩ <;> rcases k2 with k2 | ⟨k2, k4⟩ <;> rw [h2] at k2 <;> cases k2
  ·exact ⟨rfl, rfl⟩
  exact ⟨by rw [h4, k4], rfl⟩
 ·rw [h1] at k1; cases k1
 ·rw [h1] at k1; cases k1
 exact ⟨by rw [h2, k2], by rw [h3, k3]⟩
def Outs (P : Program) (ops : Array Oper) (o : Oper) (A : Act) (W : World) (T : Value -> World -> Prop) : Prop :=
 if Region.wanted o (yielded ops A.tmps) = true then GivesOp P o A.eval W T else T undef W
theorem Det.outs {P : Program} {ops : Array Oper} {o : Oper} {A : Act} {W : World} {v : Value} {W' : World} {T : Value -> World -> Prop} (h : Det P ops o A W v W') (ht : T v W') : Outs P ops o A W T := by
 unfold Outs
 rcases h with ⟨h1, h2⟩ | ⟨h1, h2, h3⟩
 ·rw [if_pos h1]
  unfold GivesOp
  rcases h2 with h2 | ⟨h2, h4⟩ <;> rw [h2]
  ·exact ht
  rw [h4] at ht; exact ht
 rw [h1, if_neg (by simp), <- h2, <- h3]; exact ht
theorem GivesOp.mono {P : Program} {o : Oper} {ρ : Operand -> Value} {W : World} {T T' : Value -> World -> Prop} (h : GivesOp P o ρ W T) (ht : ∀ v W', T v W' -> T' v W') : GivesOp P o ρ W T' := by
 unfold GivesOp at *
 split at h
 ·exact ht _ _ h
 ·exact ht _ _ h
 ·refine Calls.mono h (fun e w'' he => ?_)
  obtain ⟨v, hv, hk⟩ := he
  exact ⟨v, hv, ht _ _ hk⟩
 exact h
theorem Outs.mono {P : Program} {ops : Array Oper} {o : Oper} {A : Act} {W : World} {T T' : Value -> World -> Prop} (h : Outs P ops o A W T) (ht : ∀ v W', T v W' -> T' v W') : Outs P ops o A W T' := by
 unfold Outs at *
 split
 ·rename_i hw; rw [if_pos hw] at h; exact h.mono ht
 rename_i hw; rw [if_neg hw] at h; exact ht _ _ h
def okCh (ops : Array Oper) (m : Nat) : Bool :=
 Region.noSelect ops && decide (m <= ops.size) &&
 ((List.range ops.size).all fun i => (List.range ops.size).all fun j => i == j || dstAt ops i == none || dstAt ops i != dstAt ops j) &&
 ((List.range ops.size).all fun i => match ops[i]? with
  | none => false
  | some o => (o.after.all fun e => !Region.binds .any e || decide (e.on < i)) &&
   (decide (m <= i) || (List.range m).all fun j => match dstAt ops j with
    | none => true
    | some t => !(o.looksAt ops).contains t || o.after.any (fun e => Region.binds .any e && e.on == j)) &&
   (decide (i < m) || (List.range i).all fun j => o.after.any (fun e => Region.binds .any e && e.on == j)))
theorem okCh_spec {ops : Array Oper} {m : Nat} (h : okCh ops m = true) : Region.noSelect ops = true /\ m <= ops.size /\ DstApart ops /\
  (∀ i o, ops[i]? = some o -> (∀ e ∈ o.after, Region.binds .any e = true -> e.on < i) /\ (i < m -> ∀ j t, j < m -> dstAt ops j = some t -> t ∈ o.looksAt ops -> ∃ e ∈ o.after, Region.binds .any e = true /\ e.on = j) /\
   (m <= i -> ∀ j, j < i -> ∃ e ∈ o.after, Region.binds .any e = true /\ e.on = j)) := by
 simp only [okCh, Bool.and_eq_true, decide_eq_true_eq] at h
 obtain ⟨⟨⟨h1, h2⟩, h4⟩, h5⟩ := h
 refine ⟨h1, h2, ?_, ?_⟩
 ·intro i j d hi hj
  have hlt : ∀ i, dstAt ops i = some d -> i < ops.size := fun i hi => by
   unfold dstAt at hi
   rcases Nat.lt_or_ge i ops.size with h | h
   ·exact h
   rw [Array.getElem?_eq_none h] at hi; simp at hi
  have := List.all_eq_true.1 (List.all_eq_true.1 h4 i (by simpa using hlt i hi)) j (by simpa using hlt j hj)
  simpa [hi, hj] using this
 intro i o ho
 have h6 := List.all_eq_true.1 h5 i (by simpa using (Array.getElem?_eq_some_iff.1 ho).1)
 simp only [ho, Bool.and_eq_true] at h6
 obtain ⟨⟨g2, g3⟩, g4⟩ := h6
 have hany : ∀ j, o.after.any (fun e => Region.binds .any e && e.on == j) = true -> ∃ e ∈ o.after, Region.binds .any e = true /\ e.on = j := fun j h => by
  obtain ⟨e, he, hb⟩ := Array.any_eq_true'.1 h
  simp only [Bool.and_eq_true, beq_iff_eq] at hb
  exact ⟨e, he, hb.1, hb.2⟩
 refine ⟨fun e he hb => ?_, fun hm j t hjm hj ht => ?_, fun hm j hj => ?_⟩
 ·have := Array.all_eq_true_iff_forall_mem.1 g2 e he
  rw [hb] at this
  simpa using this
 ·rcases Bool.or_eq_true_iff.1 g3 with g | g
  ·simp only [decide_eq_true_eq] at g; omega
  have := List.all_eq_true.1 g j (by simpa using hjm)
  rw [hj] at this
  simp only [Bool.or_eq_true, Bool.not_eq_true'] at this
  rcases this with h | h
  ·rw [List.contains_iff_mem.2 ht] at h; cases h
  exact hany j h
 rcases Bool.or_eq_true_iff.1 g4 with g | g
 ·simp only [decide_eq_true_eq] at g; omega
 exact hany j (List.all_eq_true.1 g j (by simpa using hj))
def Clsd (ops : Array Oper) (L : ZN) : Prop := ∀ i ∈ L, ∀ o, ops[i]? = some o -> ∀ e ∈ o.after, Region.binds .any e = true -> e.on ∈ L
section
variable {P : Program} {ops : Array Oper} {Q : Exit -> Act -> World -> Prop} {a : Act} {m : Nat}
theorem wpAny_tail (hok : okCh ops m = true) : ∀ (r i fuel : Nat) (listed : Array Bool) (a : Act) (w : World), m <= i -> i + r = ops.size -> r <= fuel -> listed.size = ops.size -> (∀ j, j < ops.size -> (listed.getD j true = true ↔ j < i)) -> wpList P ops Q (ops.toList.drop i) a w -> wpAny P .any ops Q fuel listed a w := by
 obtain ⟨-, -, -, hspec⟩ := okCh_spec hok
 intro r
 induction r with
 | zero =>
  intro i fuel listed a w hmi hir hf hsz hL h
  rw [List.drop_eq_nil_of_le (by simp; omega)] at h
  refine wpAny_done ?_ h fuel
  rw [List.eq_nil_iff_forall_not_mem]
  intro j hj
  obtain ⟨h0, o, ho, _⟩ := mem_ready.1 hj
  have := (hL j (Array.getElem?_eq_some_iff.1 ho).1).2 (by have := (Array.getElem?_eq_some_iff.1 ho).1; omega)
  rw [this] at h0; cases h0
 | succ r ih =>
  intro i fuel listed a w hmi hir hf hsz hL h
  obtain ⟨fuel, rfl⟩ : ∃ f, fuel = f + 1 := ⟨fuel - 1, by omega⟩
  have his : i < ops.size := by omega
  have hget : ∀ j, j < i -> listed.getD j false = true := fun j hj => by
   have := (hL j (by omega)).2 hj
   have hin : j < listed.size := by omega
   simpa [Array.getD, hin] using this
  have hrdy : i ∈ Region.ready .any ops listed := by
   rw [mem_ready]
   refine ⟨?_, ops[i], Array.getElem?_eq_getElem his, fun e he hb => hget _ ((hspec i _ (Array.getElem?_eq_getElem his)).1 e he hb)⟩
   cases hx : listed.getD i true
   ·rfl
   have := (hL i his).1 hx; omega
  refine ⟨fun hr => by rw [hr] at hrdy; simp at hrdy, fun j hj => ?_⟩
  obtain ⟨h0, o, ho, hdep⟩ := mem_ready.1 hj
  have hjs := (Array.getElem?_eq_some_iff.1 ho).1
  have hge : ¬ j < i := fun hlt => by rw [(hL j hjs).2 hlt] at h0; cases h0
  have hji : j = i := by
   rcases Nat.lt_or_ge i j with hlt | hle
   ·obtain ⟨e, he, hb, rfl⟩ := (hspec j o ho).2.2 (by omega) i hlt
    have h1 := hdep e he hb
    have hin : e.on < listed.size := by omega
    have h2 : listed.getD e.on true = true := by simpa [Array.getD, hin] using h1
    have := (hL _ his).1 h2
    omega
   omega
  subst hji
  have hd : ops.toList.drop j = o :: ops.toList.drop (j + 1) := by
   rw [List.drop_eq_getElem_cons (by simpa using hjs)]
   congr 1
   have := (Array.getElem?_eq_some_iff.1 ho).2
   simpa using this
  rw [hd] at h
  have hnext : ∀ a' w', wpList P ops Q (ops.toList.drop (j + 1)) a' w' -> wpAny P .any ops Q fuel (listed.setIfInBounds j true) a' w' := fun a' w' h' => by
   refine ih (j + 1) fuel _ a' w' (by omega) (by omega) (by omega) (by simpa using hsz) (fun q hq => ?_) h'
   by_cases hjq : j = q
   ·subst hjq; simp [hsz, hjs]
   rw [getD_set_ne true hjq, hL q hq]; omega
  unfold wpOp
  simp only [ho]
  unfold wpList at h
  split
  ·rename_i hw; rw [if_pos hw] at h; exact h.imp (Oper.wp_mono hnext) id
  rename_i hw; rw [if_neg hw] at h; exact hnext _ _ h
theorem wpAny_core (G : ZN -> (Nat -> Value) -> World -> Prop) (hok : okCh ops m = true)
  (hstep : ∀ i o, i < m -> ops[i]? = some o -> ∀ L vs W, i ∉ L -> (∀ j ∈ L, j < m) -> Clsd ops L -> (∀ e ∈ o.after, Region.binds .any e = true -> e.on ∈ L) -> G L vs W -> Outs P ops o (acts ops a vs L) W (fun v W' => G (L ++ [i]) (upd vs i v) W'))
  (hend : ∀ L vs W, (∀ j, j < m -> j ∈ L) -> G L vs W -> wpList P ops Q (ops.toList.drop m) (acts ops a vs (List.range m)) W) :
  ∀ (fuel : Nat) (L : ZN) (vs : Nat -> Value) (W : World) (listed : Array Bool), listed.size = ops.size -> (∀ j, j < ops.size -> (listed.getD j true = true ↔ j ∈ L)) -> L.Nodup -> (∀ j ∈ L, j < m) -> ((List.range ops.size).filter (fun j => !L.contains j)).length <= fuel -> Clsd ops L -> G L vs W ->
   wpAny P .any ops Q fuel listed (acts ops a vs L) W := by
 obtain ⟨hns, hm1, hda, hspec⟩ := okCh_spec hok
 -- all below m are done: the rest comes one after another
 have hfin : ∀ (fuel : Nat) (L : ZN) (vs : Nat -> Value) (W : World) (listed : Array Bool), listed.size = ops.size -> (∀ j, j < ops.size -> (listed.getD j true = true ↔ j ∈ L)) -> L.Nodup -> (∀ j ∈ L, j < m) -> (∀ j, j < m -> j ∈ L) -> ((List.range ops.size).filter (fun j => !L.contains j)).length <= fuel -> G L vs W -> wpAny P .any ops Q fuel listed (acts ops a vs L) W := by
  intro fuel L vs W listed hsz hL hnd hLm hcov hlen hE
  have hmem : ∀ j, j ∈ L ↔ j < m := fun j => ⟨hLm j, hcov j⟩
  rw [acts_perm hda (L' := List.range m) ((List.perm_ext_iff_of_nodup hnd List.nodup_range).2 (fun j => by rw [hmem j, List.mem_range]))]
  refine wpAny_tail hok (ops.size - m) m fuel listed _ _ (Nat.le_refl _) (by omega) ?_ hsz (fun j hj => by rw [hL j hj, hmem]) (hend L vs W hcov hE)
  refine Nat.le_trans ?_ hlen
  have h1 : (List.range' m (ops.size - m)).Sublist ((List.range ops.size).filter (fun j => !L.contains j)) := by
   have h2 : (List.range' m (ops.size - m)) = (List.range' m (ops.size - m)).filter (fun j => !L.contains j) := by
    rw [List.filter_eq_self.2]
    intro j hj
    have := List.mem_range'_1.1 hj
    simp only [List.contains_eq_mem, Bool.not_eq_true', decide_eq_false_iff_not, hmem]
    omega
   rw [h2]
   refine List.Sublist.filter _ ?_
   rw [List.range_eq_range']
   have : List.range' 0 ops.size = List.range' 0 m ++ List.range' m (ops.size - m) := by
    have := @List.range'_append 0 m (ops.size - m) 1
    simp only [Nat.one_mul, Nat.zero_add] at this
    rw [this]
    congr 1
    omega
   rw [this]
   exact List.sublist_append_right _ _
  have := h1.length_le
  simpa using this
 intro fuel
 induction fuel with
 | zero =>
  intro L vs W listed hsz hL hnd hLm hlen hcl hE
  refine hfin 0 L vs W listed hsz hL hnd hLm (fun j hj => ?_) hlen hE
  have h0 := List.eq_nil_of_length_eq_zero (Nat.le_zero.1 hlen)
  have : j ∉ (List.range ops.size).filter (fun j => !L.contains j) := by rw [h0]; simp
  have hjs : j < ops.size := by omega
  simpa [hjs] using this
 | succ fuel ih =>
  intro L vs W listed hsz hL hnd hLm hlen hcl hE
  by_cases hcov : ∀ j, j < m -> j ∈ L
  ·exact hfin _ L vs W listed hsz hL hnd hLm hcov hlen hE
  -- the least that is not done is ready
  obtain ⟨j0, hj0, hj1, hj2⟩ : ∃ j, j < m /\ j ∉ L /\ ∀ i, i < j -> i ∈ L := by
   have : ∃ j, j < m /\ j ∉ L := by simpa using hcov
   obtain ⟨j, hj, hn⟩ := this
   induction j using Nat.strongRecOn with
   | _ j ihj =>
    by_cases hx : ∀ i, i < j -> i ∈ L
    ·exact ⟨j, hj, hn, hx⟩
    have : ∃ i, i < j /\ i ∉ L := by simpa using hx
    obtain ⟨i, hi, hin⟩ := this
    exact ihj i hi (by omega) hin
  have hrdy : j0 ∈ Region.ready .any ops listed := by
   have hjs : j0 < ops.size := by omega
   rw [mem_ready]
   refine ⟨?_, ops[j0], Array.getElem?_eq_getElem hjs, fun e he hb => ?_⟩
   ·cases hx : listed.getD j0 true
    ·rfl
    exact absurd ((hL j0 hjs).1 hx) hj1
   have hlt := (hspec j0 _ (Array.getElem?_eq_getElem hjs)).1 e he hb
   have := (hL e.on (by omega)).2 (hj2 _ hlt)
   have hin : e.on < listed.size := by omega
   simpa [Array.getD, hin] using this
  refine ⟨fun hr => by rw [hr] at hrdy; simp at hrdy, fun i hi => ?_⟩
  obtain ⟨h0, o, ho, hdep⟩ := mem_ready.1 hi
  have his : i < ops.size := (Array.getElem?_eq_some_iff.1 ho).1
  have hiL : i ∉ L := fun h => by rw [(hL i his).2 h] at h0; cases h0
  have hdepL : ∀ e ∈ o.after, Region.binds .any e = true -> e.on ∈ L := fun e he hb => by
   have h1 := hdep e he hb
   have hlt := (hspec i o ho).1 e he hb
   have hin : e.on < listed.size := by rw [hsz]; omega
   exact (hL e.on (by omega)).1 (by simpa [Array.getD, hin] using h1)
  have him : i < m := by
   rcases Nat.lt_or_ge i m with h | h
   ·exact h
   obtain ⟨e, he, hb, rfl⟩ := (hspec i o ho).2.2 h j0 (by omega)
   exact absurd (hdepL e he hb) hj1
  have hcont : ∀ v W', G (L ++ [i]) (upd vs i v) W' -> wpAny P .any ops Q fuel (listed.setIfInBounds i true) ((acts ops a vs L).put o.dst v) W' := by
   intro v W' hE'
   have e1 : (acts ops a vs L).put o.dst v = acts ops a (upd vs i v) (L ++ [i]) := by
    rw [acts_snoc, acts_congr (vs := upd vs i v) (vs' := vs) (fun j hj => by unfold upd; rw [if_neg (fun e => hiL (by rw [<- e]; exact hj))])]
    simp [upd, dstAt, ho]
   rw [e1]
   refine ih (L ++ [i]) (upd vs i v) W' _ (by simpa using hsz) (fun j hj => ?_) ?_ ?_ ?_ ?_ hE'
   ·by_cases hij : i = j
    ·subst hij; simp [hsz, his]
    rw [getD_set_ne true hij, hL j hj]; simp; intro e; exact absurd e.symm hij
   ·rw [List.nodup_append]
    exact ⟨hnd, by simp, fun x hx y hy e => by simp at hy; subst hy; subst e; exact hiL hx⟩
   ·intro j hj
    rcases List.mem_append.1 hj with h | h
    ·exact hLm j h
    simp at h; omega
   ·have h1 : (List.range ops.size).filter (fun j => !(L ++ [i]).contains j) = ((List.range ops.size).filter (fun j => !L.contains j)).filter (fun j => j != i) := by
     rw [List.filter_filter]
     congr 1
     funext j
     simp only [List.contains_append, Bool.not_or]
     rw [Bool.and_comm]
     congr 1
     rw [Bool.eq_iff_iff]; simp [bne]
    have h2 : (((List.range ops.size).filter (fun j => !L.contains j)).filter (fun j => j != i)).length < ((List.range ops.size).filter (fun j => !L.contains j)).length := by
     rw [List.length_filter_lt_length_iff_exists]
     exact ⟨i, by simp [his, hiL], by simp⟩
    rw [h1]; omega
   intro j hj o' ho' e he hb
   rcases List.mem_append.1 hj with h | h
   ·exact List.mem_append_left _ (hcl j h o' ho' e he hb)
   simp at h; subst h
   rw [ho] at ho'
   cases ho'
   exact List.mem_append_left _ (hdepL e he hb)
  have hg := hstep i o him ho L vs W hiL hLm hcl hdepL hE
  unfold wpOp
  simp only [ho]
  unfold Outs at hg
  split
  ·rename_i hw
   rw [if_pos hw] at hg
   left
   refine Oper.wp_mono ?_ (hg.wp rfl)
   rintro a' W' ⟨v, rfl, hk⟩
   exact hcont v W' hk
  rename_i hw
  rw [if_neg hw] at hg
  exact hcont _ _ hg
end
inductive Tr : Type 1
 | done
 | plain (v : Value) (next : Tr)
 | later (v : Value) (next : Tr)
 | alloc (val : Nat -> Value) (F : Nat -> World -> Prop) (U : Bool) (next : Nat -> Tr)
 | call (γ : Type) (val : γ -> Value) (Φ : γ -> World -> Prop) (Ap : γ -> Nat -> Prop) (next : γ -> Tr)
def FU (U : Bool) (F : Nat -> World -> Prop) (A : Nat -> Prop) (g : Nat) (W : World) : Prop := F g W /\ (U = true -> g < W.heap.size /\ A g)
section
variable (P : Program) (ops : Array Oper) (π : Nat -> Nat) (Q : Exit -> Act -> World -> Prop) (m : Nat) (Er : World -> World -> Prop) (C : World -> Prop)
def Ok : Tr -> Nat -> Act -> (World -> Prop) -> (World -> Prop) -> (Nat -> Prop) -> ZN -> ZN -> Prop
 | .done, k, ac, Φ, FA, _, _, _ => k = m /\ ∀ W, C W -> Φ W -> FA W -> wpList P ops Q (ops.toList.drop m) ac W
 | .plain v next, k, ac, Φ, FA, A, gh, pf => k < m /\ (∃ o, ops[π k]? = some o /\ ∀ W, C W -> Det P ops o ac W v W) /\ Ok next (k + 1) (ac.put (dstAt ops (π k)) v) Φ FA A gh pf
 | .later v next, k, ac, Φ, FA, A, gh, pf => k < m /\ gh.all (fun j => comesAfter ops m (π k) j) = true /\ (∃ o, ops[π k]? = some o /\ ∀ W, C W -> Φ W -> FA W -> Det P ops o ac W v W) /\ Ok next (k + 1) (ac.put (dstAt ops (π k)) v) Φ FA A gh (π k :: pf)
 | .alloc val F U next, k, ac, Φ, FA, A, gh, pf => k < m /\ (∃ o, ops[π k]? = some o /\ ∀ W, C W -> ∃ g W', Det P ops o ac W (val g) W' /\ Ext W W' /\ F g W' /\ (U = true -> W.heap.size <= g /\ g < W'.heap.size)) /\ ((∀ g W W', Er W W' -> F g W -> F g W') /\ (U = true -> ∀ W W', Er W W' -> W.heap.size <= W'.heap.size)) /\
   ∀ g, Ok (next g) (k + 1) (ac.put (dstAt ops (π k)) (val g)) Φ (fun W => FA W /\ FU U F A g W) A (π k :: gh) pf
 | .call γ val Φ' Ap next, k, ac, Φ, FA, A, gh, pf => k < m /\ gh.all (fun j => comesAfter ops m (π k) j) = true /\ pf.all (fun j => comesAfter ops m (π k) j) = true /\
   (∃ o, ops[π k]? = some o /\ ∀ W, C W -> Φ W -> FA W -> Outs P ops o ac W (fun v W' => Er W W' /\ ∃ c, v = val c /\ Φ' c W' /\ ∀ g, (g < W.heap.size \/ W'.heap.size <= g) -> Ap c g)) /\ Nonempty γ /\ (∀ c W W', Ext W W' -> Φ' c W -> Φ' c W') /\
   ∀ c, Ok (next c) (k + 1) (ac.put (dstAt ops (π k)) (val c)) (Φ' c) FA (fun g => A g /\ Ap c g) (π k :: gh) pf
def Inv (L : ZN) (vs : Nat -> Value) (W : World) : Tr -> Bool -> Nat -> (World -> Prop) -> (Nat -> Prop) -> Prop
 | .done, b, _, Φ, _ => b = true -> Φ W
 | .plain v next, b, k, Φ, A => (π k ∈ L -> vs (π k) = v) /\ Inv L vs W next b (k + 1) Φ A
 | .later v next, b, k, Φ, A => (π k ∈ L -> vs (π k) = v) /\ Inv L vs W next b (k + 1) Φ A
 | .alloc val F U next, b, k, Φ, A => (π k ∈ L /\ ∃ g, vs (π k) = val g /\ FU U F A g W /\ Inv L vs W (next g) b (k + 1) Φ A) \/ (π k ∉ L /\ (U = true -> ∀ g, W.heap.size <= g -> A g) /\ ∀ g, Inv L vs W (next g) b (k + 1) Φ A)
 | .call _ val Φ' Ap next, b, k, Φ, A => (b = true /\ π k ∈ L /\ ∃ c, vs (π k) = val c /\ Inv L vs W (next c) true (k + 1) (Φ' c) (fun g => A g /\ Ap c g)) \/ (π k ∉ L /\ (b = true -> Φ W) /\ ∀ c, Inv L vs W (next c) false (k + 1) (Φ' c) A)
end
structure Lin (ops : Array Oper) (m : Nat) (π σ : Nat -> Nat) : Prop where
 lt : ∀ k, k < m -> π k < m /\ σ (π k) = k
 inv : ∀ i, i < m -> σ i < m /\ π (σ i) = i
 dep : ∀ i, i < m -> ∀ o, ops[i]? = some o -> ∀ e ∈ o.after, Region.binds .any e = true -> σ e.on < σ i
section
variable {P : Program} {ops : Array Oper} {π σ : Nat -> Nat} {Q : Exit -> Act -> World -> Prop} {m : Nat} {Er : World -> World -> Prop} {C : World -> Prop} {L : ZN} {vs : Nat -> Value} {W : World} {a : Act}
theorem Inv.start : ∀ (t : Tr) (b : Bool) (k : Nat) (Φ : World -> Prop) (A : Nat -> Prop), (∀ g, A g) -> (b = true -> Φ W) -> Inv π [] vs W t b k Φ A := by
 intro t
 induction t with
 | done => intro b k Φ A _ h; exact h
 | plain v next ih => intro b k Φ A hA h; exact ⟨fun h => by simp at h, ih b _ _ _ hA h⟩
 | later v next ih => intro b k Φ A hA h; exact ⟨fun h => by simp at h, ih b _ _ _ hA h⟩
 | alloc val F U next ih => intro b k Φ A hA h; exact Or.inr ⟨by simp, fun _ g _ => hA g, fun g => ih g b _ _ _ hA h⟩
 | call γ val Φ' Ap next ih => intro b k Φ A hA h; exact Or.inr ⟨by simp, h, fun c => ih c false _ _ _ hA (fun h => by cases h)⟩
theorem snoc_mem (hl : Lin ops m π σ) {i k : Nat} (hk : k < m) (h : k ≠ σ i) : π k ∈ L ++ [i] ↔ π k ∈ L := by
 simp
 intro e
 exact absurd (by rw [<- e, (hl.lt k hk).2]) h
theorem upd_ne (hl : Lin ops m π σ) {i k : Nat} {v : Value} (hk : k < m) (h : k ≠ σ i) : upd vs i v (π k) = vs (π k) := by
 unfold upd
 rw [if_neg fun e => h (by rw [<- e, (hl.lt k hk).2])]
theorem Inv.keep (hl : Lin ops m π σ) {i : Nat} {v : Value} {W' : World} (hE : Er W W') (hx : Ext W W') : ∀ (t : Tr) (b : Bool) (k : Nat) (ac : Act) (Φ FA : World -> Prop) (A AO : Nat -> Prop) (gh pf : ZN), Ok P ops π Q m Er C t k ac Φ FA AO gh pf -> (∀ W W', Ext W W' -> Φ W -> Φ W') -> σ i < k -> Inv π L vs W t b k Φ A -> Inv π (L ++ [i]) (upd vs i v) W' t b k Φ A := by
 intro t
 induction t with
 | done => intro b k ac Φ FA A AO gh pf _ hs _ h hb; exact hs _ _ hx (h hb)
 | plain u next ih =>
  intro b k ac Φ FA A AO gh pf hok hs hi h
  refine ⟨fun hk => ?_, ih _ _ _ _ _ _ _ _ _ hok.2.2 hs (by omega) h.2⟩
  rw [upd_ne hl hok.1 (by omega)]; exact h.1 ((snoc_mem hl hok.1 (by omega)).1 hk)
 | later u next ih =>
  intro b k ac Φ FA A AO gh pf hok hs hi h
  refine ⟨fun hk => ?_, ih _ _ _ _ _ _ _ _ _ hok.2.2.2 hs (by omega) h.2⟩
  rw [upd_ne hl hok.1 (by omega)]; exact h.1 ((snoc_mem hl hok.1 (by omega)).1 hk)
 | alloc val F U next ih =>
  intro b k ac Φ FA A AO gh pf hok hs hi h
  have hm := snoc_mem (L := L) hl hok.1 (show k ≠ σ i by omega)
  rcases h with ⟨hk, g, hv, hF, h⟩ | ⟨hk, hA, h⟩
  ·exact Or.inl ⟨hm.2 hk, g, by rw [upd_ne hl hok.1 (by omega)]; exact hv, ⟨hok.2.2.1.1 g _ _ hE hF.1, fun hU => ⟨Nat.lt_of_lt_of_le (hF.2 hU).1 hx.size, (hF.2 hU).2⟩⟩, ih g _ _ _ _ _ _ _ _ _ (hok.2.2.2 g) hs (by omega) h⟩
  exact Or.inr ⟨fun h' => hk (hm.1 h'), fun hU g hg => hA hU g (Nat.le_trans hx.size hg), fun g => ih g _ _ _ _ _ _ _ _ _ (hok.2.2.2 g) hs (by omega) (h g)⟩
 | call γ val Φ' Ap next ih =>
  intro b k ac Φ FA A AO gh pf hok hs hi h
  obtain ⟨hkm, -, -, -, -, hst, hn⟩ := hok
  have hm := snoc_mem (L := L) hl hkm (show k ≠ σ i by omega)
  rcases h with ⟨hb, hk, c, hv, h⟩ | ⟨hk, hp, h⟩
  ·exact Or.inl ⟨hb, hm.2 hk, c, by rw [upd_ne hl hkm (by omega)]; exact hv, ih c _ _ _ _ _ _ _ _ _ (hn c) (hst c) (by omega) h⟩
  exact Or.inr ⟨fun h' => hk (hm.1 h'), fun hb => hs _ _ hx (hp hb), fun c => ih c _ _ _ _ _ _ _ _ _ (hn c) (hst c) (by omega) (h c)⟩
theorem Inv.after (hl : Lin ops m π σ) {i : Nat} {v : Value} {W' : World} (hE : Er W W') : ∀ (t : Tr) (b : Bool) (k : Nat) (ac : Act) (Φ FA : World -> Prop) (A A' AO : Nat -> Prop) (gh pf : ZN), Ok P ops π Q m Er C t k ac Φ FA AO gh pf -> (b = true -> Φ W') -> (∀ g, (g < W.heap.size \/ W'.heap.size <= g) -> A g -> A' g) -> σ i < k -> Inv π L vs W t false k Φ A -> Inv π (L ++ [i]) (upd vs i v) W' t b k Φ A' := by
 intro t
 induction t with
 | done => intro b k ac Φ FA A A' AO gh pf _ hp _ _ h hb; exact hp hb
 | plain u next ih =>
  intro b k ac Φ FA A A' AO gh pf hok hp hA hi h
  refine ⟨fun hk => ?_, ih _ _ _ _ _ _ _ _ _ _ hok.2.2 hp hA (by omega) h.2⟩
  rw [upd_ne hl hok.1 (by omega)]; exact h.1 ((snoc_mem hl hok.1 (by omega)).1 hk)
 | later u next ih =>
  intro b k ac Φ FA A A' AO gh pf hok hp hA hi h
  refine ⟨fun hk => ?_, ih _ _ _ _ _ _ _ _ _ _ hok.2.2.2 hp hA (by omega) h.2⟩
  rw [upd_ne hl hok.1 (by omega)]; exact h.1 ((snoc_mem hl hok.1 (by omega)).1 hk)
 | alloc val F U next ih =>
  intro b k ac Φ FA A A' AO gh pf hok hp hA hi h
  have hm := snoc_mem (L := L) hl hok.1 (show k ≠ σ i by omega)
  rcases h with ⟨hk, g, hv, hF, h⟩ | ⟨hk, hU0, h⟩
  ·exact Or.inl ⟨hm.2 hk, g, by rw [upd_ne hl hok.1 (by omega)]; exact hv, ⟨hok.2.2.1.1 g _ _ hE hF.1, fun hU => ⟨Nat.lt_of_lt_of_le (hF.2 hU).1 (hok.2.2.1.2 hU _ _ hE), hA g (Or.inl (hF.2 hU).1) (hF.2 hU).2⟩⟩, ih g _ _ _ _ _ _ _ _ _ _ (hok.2.2.2 g) hp hA (by omega) h⟩
  exact Or.inr ⟨fun h' => hk (hm.1 h'), fun hU g hg => hA g (Or.inr hg) (hU0 hU g (Nat.le_trans (hok.2.2.1.2 hU _ _ hE) hg)), fun g => ih g _ _ _ _ _ _ _ _ _ _ (hok.2.2.2 g) hp hA (by omega) (h g)⟩
 | call γ val Φ' Ap next ih =>
  intro b k ac Φ FA A A' AO gh pf hok hp hA hi h
  obtain ⟨hkm, -, -, -, -, hst, hn⟩ := hok
  have hm := snoc_mem (L := L) hl hkm (show k ≠ σ i by omega)
  rcases h with ⟨hb, -⟩ | ⟨hk, -, h⟩
  ·cases hb
  exact Or.inr ⟨fun h' => hk (hm.1 h'), hp, fun c => ih c _ _ _ _ _ _ _ _ _ _ (hn c) (fun h => by cases h) hA (by omega) (h c)⟩
theorem Inv.front {i : Nat} (hcl : Clsd ops L) (hi : i ∉ L) : ∀ (t : Tr) (k : Nat) (ac : Act) (Φ FA : World -> Prop) (A AO : Nat -> Prop) (gh pf : ZN), Ok P ops π Q m Er C t k ac Φ FA AO gh pf -> i ∈ pf -> Inv π L vs W t true k Φ A -> Φ W := by
 intro t
 induction t with
 | done => intro k ac Φ FA A AO gh pf _ _ h; exact h rfl
 | plain u next ih => intro k ac Φ FA A AO gh pf hok hp h; exact ih _ _ _ _ _ _ _ _ hok.2.2 hp h.2
 | later u next ih => intro k ac Φ FA A AO gh pf hok hp h; exact ih _ _ _ _ _ _ _ _ hok.2.2.2 (List.mem_cons_of_mem _ hp) h.2
 | alloc val F U next ih =>
  intro k ac Φ FA A AO gh pf hok hp h
  rcases h with ⟨hk, g, hv, hF, h⟩ | ⟨hk, -, h⟩
  ·exact ih g _ _ _ _ _ _ _ _ (hok.2.2.2 g) hp h
  exact ih 0 _ _ _ _ _ _ _ _ (hok.2.2.2 0) hp (h 0)
 | call γ val Φ' Ap next ih =>
  intro k ac Φ FA A AO gh pf hok hp h
  rcases h with ⟨-, hk, -⟩ | ⟨-, hp, -⟩
  ·exact absurd (comesAfter_mem hcl m _ i hk (List.all_eq_true.1 hok.2.2.1 i hp)) hi
  exact hp rfl
def Agr (ops : Array Oper) (π : Nat -> Nat) (a : Act) (L : ZN) (vs : Nat -> Value) (k : Nat) (ac : Act) : Prop :=
 ac.tmps.size = a.tmps.size /\ ∀ t, (∀ j, j < k -> π j ∈ L -> dstAt ops (π j) = some t -> ac.eval (.tmp t) = if t < a.tmps.size then vs (π j) else undef) /\ ((∀ j, j < k -> dstAt ops (π j) ≠ some t) -> ac.eval (.tmp t) = a.eval (.tmp t))
theorem Agr.step (hda : DstApart ops) {k : Nat} {ac : Act} (h : Agr ops π a L vs k ac) {v : Value} (hv : π k ∈ L -> vs (π k) = v) : Agr ops π a L vs (k + 1) (ac.put (dstAt ops (π k)) v) := by
 refine ⟨by rw [put_size]; exact h.1, fun t => ⟨fun j hj hjL ht => ?_, fun hn => ?_⟩⟩
 ·by_cases hjk : π j = π k
  ·rw [hjk] at hjL ht ⊢
   rw [ht, put_eval_same, h.1, hv hjL]
  rw [Act.eval_put (fun d hd e => by injection e with e; subst e; exact hjk (hda _ _ _ ht hd))]
  exact (h.2 t).1 j (by have : j ≠ k := fun e => hjk (by rw [e]); omega) hjL ht
 rw [Act.eval_put (fun d hd e => by injection e with e; subst e; exact hn k (by omega) hd)]
 exact (h.2 t).2 fun j hj => hn j (by omega)
theorem wanted_congr {o : Oper} {A B : Act} (hs : A.tmps.size = B.tmps.size) (h : ∀ t ∈ o.looksAt ops, A.eval (.tmp t) = B.eval (.tmp t)) : Region.wanted o (yielded ops A.tmps) = Region.wanted o (yielded ops B.tmps) := by
 unfold Region.wanted
 cases hg : o.guard with
 | none => rfl
 | some gw =>
  obtain ⟨j, b⟩ := gw
  have : yielded ops A.tmps j = yielded ops B.tmps j := by
   unfold yielded
   cases hd : (ops[j]?).bind (·.dst) with
   | none => rfl
   | some t =>
    have hl := h t (by unfold Oper.looksAt; rw [hg]; simp [hd])
    simp only [Act.eval] at hl
    rcases Nat.lt_or_ge t A.tmps.size with hlt | hge
    ·have hlt2 := hs ▸ hlt
     simp only [Array.getD_eq_getD_getElem?, Array.getElem?_eq_getElem hlt, Array.getElem?_eq_getElem hlt2, Option.getD_some] at hl
     simp only [Option.bind_some, Array.getElem?_eq_getElem hlt, Array.getElem?_eq_getElem hlt2, hl]
    simp only [Option.bind_some, Array.getElem?_eq_none hge, Array.getElem?_eq_none (hs ▸ hge)]
  simp only [this]
theorem ok_step (hok : okCh ops m = true) (hl : Lin ops m π σ) (hR : ∀ W, Er W W) (hXE : ∀ W W', Ext W W' -> Er W W') {i : Nat} {o : Oper} (hi : i < m) (ho : ops[i]? = some o) (hiL : i ∉ L) (hLm : ∀ j ∈ L, j < m) (hcl : Clsd ops L) (hrd : ∀ e ∈ o.after, Region.binds .any e = true -> e.on ∈ L) (hC : C W) :
  ∀ (t : Tr) (b : Bool) (k : Nat) (ac : Act) (Φ FA : World -> Prop) (A AO : Nat -> Prop) (gh pf : ZN), Ok P ops π Q m Er C t k ac Φ FA AO gh pf -> (∀ W W', Ext W W' -> Φ W -> Φ W') -> Inv π L vs W t b k Φ A -> Agr ops π a L vs k ac -> ((∀ j ∈ gh, j ∈ L) -> FA W /\ ∀ g, A g -> AO g) -> k <= σ i -> (b = false -> ∃ j ∈ gh, j ∉ L) ->
   (∃ v W', Det P ops o (acts ops a vs L) W v W' /\ Ext W W' /\ Inv π (L ++ [i]) (upd vs i v) W' t b k Φ A) \/
   (b = true /\ (∀ j ∈ gh, j ∈ L) /\ Outs P ops o (acts ops a vs L) W (fun v W' => Er W W' /\ Inv π (L ++ [i]) (upd vs i v) W' t b k Φ A)) := by
 obtain ⟨hns, hm1, hda, hspec⟩ := okCh_spec hok
 have hanc : ∀ j, comesAfter ops m i j = true -> j ∈ L := fun j h => comesAfter_ready hcl ho hrd m j h
 have hm' : ∀ k, k < m -> k < σ i -> (π k ∈ L ++ [i] ↔ π k ∈ L) := fun k hk h => snoc_mem hl hk (by omega)
 have hu : ∀ v k, k < m -> k < σ i -> upd vs i v (π k) = vs (π k) := fun v k hk h => upd_ne hl hk (by omega)
 have hui : ∀ v, upd vs i v i = v := fun v => by simp [upd]
 have hpi : π (σ i) = i := (hl.inv i hi).2
 -- what the walk's frame shows of operation i is what the run's frame shows
 have hsee : ∀ ac, Agr ops π a L vs (σ i) ac -> (∀ W v W', Det P ops o ac W v W' -> Det P ops o (acts ops a vs L) W v W') /\ (∀ W T, Outs P ops o ac W T -> Outs P ops o (acts ops a vs L) W T) := by
  intro ac hag
  have hev : ∀ t ∈ o.looksAt ops, ac.eval (.tmp t) = (acts ops a vs L).eval (.tmp t) := by
   intro t ht
   by_cases hex : ∃ j, j < m /\ dstAt ops j = some t
   ·obtain ⟨j, hjm, hj⟩ := hex
    obtain ⟨e, he, hb, rfl⟩ := (hspec i o ho).2.1 hi j t hjm hj ht
    have hjL := hrd e he hb
    have hlt := hl.dep i hi o ho e he hb
    have hpe := (hl.inv e.on hjm).2
    rw [acts_eval_in hda hjL hj]
    have := (hag.2 t).1 (σ e.on) hlt (by rw [hpe]; exact hjL) (by rw [hpe]; exact hj)
    rw [hpe] at this
    exact this
   have h1 : ∀ j, j < m -> dstAt ops j ≠ some t := fun j hjm hj => hex ⟨j, hjm, hj⟩
   rw [acts_eval_out (fun j hjL => h1 j (hLm j hjL)), (hag.2 t).2 (fun j hj => h1 _ (hl.lt j (by have := (hl.inv i hi).1; omega)).1)]
  have hexe : execOp ac.eval o = execOp (acts ops a vs L).eval o := by
   refine execOp_congr o (Region.noSelect_spec hns i o · · ho) (fun x hx => ?_)
   cases x with
   | tmp t => exact hev t (List.mem_append_left _ (List.mem_filterMap.2 ⟨.tmp t, by simpa using hx, rfl⟩))
   | const v => rfl
   | global g => rfl
   | func f => rfl
  have hw := wanted_congr (ops := ops) (o := o) (A := ac) (B := acts ops a vs L) (by rw [acts_size]; exact hag.1) hev
  exact ⟨fun W v W' h => by unfold Det at *; rw [<- hexe, <- hw]; exact h, fun W T h => by unfold Outs GivesOp at *; rw [<- hexe, <- hw]; exact h⟩
 intro t
 induction t with
 | done => intro b k ac Φ FA A AO gh pf hok; have := hok.1; have := (hl.inv i hi).1; intro _ _ _ _ hk; omega
 | plain v next ih =>
  intro b k ac Φ FA A AO gh pf hok hs hinv hag hFA hki hb
  obtain ⟨hkm, ⟨ok, hok1, hdet⟩, hnx⟩ := hok
  by_cases hk : k = σ i
  ·subst hk
   have h1 := hinv.1
   rw [hpi, ho] at hok1; cases hok1
   exact Or.inl ⟨v, W, (hsee ac hag).1 _ _ _ (hdet W hC), Ext.refl W, fun _ => by rw [hpi]; exact hui v, Inv.keep hl (hR W) (Ext.refl W) next b _ _ _ _ _ _ _ _ hnx hs (by omega) hinv.2⟩
  rcases ih b (k + 1) _ Φ FA A AO gh pf hnx hs hinv.2 (hag.step hda hinv.1) hFA (by omega) hb with ⟨u, W', h1, h2, h3⟩ | ⟨h1, h2, h3⟩
  ·exact Or.inl ⟨u, W', h1, h2, fun h => by rw [hu u k hkm (by omega)]; exact hinv.1 ((hm' k hkm (by omega)).1 h), h3⟩
  exact Or.inr ⟨h1, h2, h3.mono fun u W' ⟨q1, q2⟩ => ⟨q1, fun h => by rw [hu u k hkm (by omega)]; exact hinv.1 ((hm' k hkm (by omega)).1 h), q2⟩⟩
 | later v next ih =>
  intro b k ac Φ FA A AO gh pf hok hs hinv hag hFA hki hb
  obtain ⟨hkm, hgh, ⟨ok, hok1, hdet⟩, hnx⟩ := hok
  by_cases hk : k = σ i
  ·subst hk
   rw [hpi] at hgh
   rw [hpi, ho] at hok1; cases hok1
   have hghL : ∀ j ∈ gh, j ∈ L := fun j hj => hanc j (List.all_eq_true.1 hgh j hj)
   have hbt : b = true := by
    cases b
    ·obtain ⟨j, hj, hjL⟩ := hb rfl
     exact absurd (hghL j hj) hjL
    rfl
   subst hbt
   have hΦ := Inv.front (Q := Q) (C := C) (P := P) (Er := Er) hcl hiL next _ _ _ _ _ _ _ _ hnx (by rw [hpi]; simp) hinv.2
   exact Or.inl ⟨v, W, (hsee ac hag).1 _ _ _ (hdet W hC hΦ (hFA hghL).1), Ext.refl W, fun _ => by rw [hpi]; exact hui v, Inv.keep hl (hR W) (Ext.refl W) next _ _ _ _ _ _ _ _ _ hnx hs (by omega) hinv.2⟩
  rcases ih b (k + 1) _ Φ FA A AO gh _ hnx hs hinv.2 (hag.step hda hinv.1) hFA (by omega) hb with ⟨u, W', h1, h2, h3⟩ | ⟨h1, h2, h3⟩
  ·exact Or.inl ⟨u, W', h1, h2, fun h => by rw [hu u k hkm (by omega)]; exact hinv.1 ((hm' k hkm (by omega)).1 h), h3⟩
  exact Or.inr ⟨h1, h2, h3.mono fun u W' ⟨q1, q2⟩ => ⟨q1, fun h => by rw [hu u k hkm (by omega)]; exact hinv.1 ((hm' k hkm (by omega)).1 h), q2⟩⟩
 | alloc val F U next ih =>
  intro b k ac Φ FA A AO gh pf hok hs hinv hag hFA hki hb
  obtain ⟨hkm, ⟨ok, hok1, hdet⟩, hst, hnx⟩ := hok
  by_cases hk : k = σ i
  ·subst hk
   rw [hpi, ho] at hok1; cases hok1
   rcases hinv with ⟨hkL, -⟩ | ⟨-, hA0, hinv⟩
   ·exact absurd (by rw [hpi] at hkL; exact hkL) hiL
   obtain ⟨g, W', hd, hx, hF, hg⟩ := hdet W hC
   exact Or.inl ⟨val g, W', (hsee ac hag).1 _ _ _ hd, hx, Or.inl ⟨by rw [hpi]; simp, g, by rw [hpi]; exact hui _, ⟨hF, fun hU => ⟨(hg hU).2, hA0 hU g (hg hU).1⟩⟩, Inv.keep hl (hXE _ _ hx) hx (next g) b _ _ _ _ _ _ _ _ (hnx g) hs (by omega) (hinv g)⟩⟩
  rcases hinv with ⟨hkL, g, hv, hF, hinv⟩ | ⟨hkL, hA0, hinv⟩
  ·have hFU : ∀ W', Er W W' -> FU U F A g W' := fun W' h => ⟨hst.1 g _ _ h hF.1, fun hU => ⟨Nat.lt_of_lt_of_le (hF.2 hU).1 (hst.2 hU _ _ h), (hF.2 hU).2⟩⟩
   rcases ih g b (k + 1) _ Φ _ A AO _ pf (hnx g) hs hinv (hag.step hda (fun _ => hv)) (fun h => ⟨⟨(hFA fun j hj => h j (List.mem_cons_of_mem _ hj)).1, hF.1, fun hU => ⟨(hF.2 hU).1, (hFA fun j hj => h j (List.mem_cons_of_mem _ hj)).2 g (hF.2 hU).2⟩⟩, (hFA fun j hj => h j (List.mem_cons_of_mem _ hj)).2⟩) (by omega) (fun h => by obtain ⟨j, hj, hjL⟩ := hb h; exact ⟨j, List.mem_cons_of_mem _ hj, hjL⟩) with ⟨u, W', h1, h2, h3⟩ | ⟨h1, h2, h3⟩
   ·exact Or.inl ⟨u, W', h1, h2, Or.inl ⟨(hm' k hkm (by omega)).2 hkL, g, by rw [hu u k hkm (by omega)]; exact hv, hFU _ (hXE _ _ h2), h3⟩⟩
   exact Or.inr ⟨h1, fun j hj => h2 j (List.mem_cons_of_mem _ hj), h3.mono fun u W' ⟨q1, q2⟩ => ⟨q1, Or.inl ⟨(hm' k hkm (by omega)).2 hkL, g, by rw [hu u k hkm (by omega)]; exact hv, hFU _ q1, q2⟩⟩⟩
  have hall : ∀ g, ∃ v W', Det P ops o (acts ops a vs L) W v W' /\ Ext W W' /\ Inv π (L ++ [i]) (upd vs i v) W' (next g) b (k + 1) Φ A := fun g => by
   rcases ih g b (k + 1) _ Φ _ A AO _ pf (hnx g) hs (hinv g) (hag.step hda (fun h => absurd h hkL)) (fun h => absurd (h (π k) (by simp)) hkL) (by omega) (fun h => ⟨π k, by simp, hkL⟩) with h | ⟨-, h2, -⟩
   ·exact h
   exact absurd (h2 (π k) (by simp)) hkL
  obtain ⟨u, W', h1, h2, -⟩ := hall 0
  refine Or.inl ⟨u, W', h1, h2, Or.inr ⟨fun h => hkL ((hm' k hkm (by omega)).1 h), fun hU g hg => hA0 hU g (Nat.le_trans h2.size hg), fun g => ?_⟩⟩
  obtain ⟨u2, W2, k1, -, k3⟩ := hall g
  obtain ⟨rfl, rfl⟩ := h1.same k1
  exact k3
 | call γ val Φ' Ap next ih =>
  intro b k ac Φ FA A AO gh pf hok hs hinv hag hFA hki hb
  obtain ⟨hkm, hgh, hpf, ⟨ok, hok1, hout⟩, hne, hst, hnx⟩ := hok
  by_cases hk : k = σ i
  ·subst hk
   rw [hpi] at hgh
   rw [hpi, ho] at hok1; cases hok1
   have hghL : ∀ j ∈ gh, j ∈ L := fun j hj => hanc j (List.all_eq_true.1 hgh j hj)
   have hbt : b = true := by
    cases b
    ·obtain ⟨j, hj, hjL⟩ := hb rfl
     exact absurd (hghL j hj) hjL
    rfl
   subst hbt
   rcases hinv with ⟨-, hkL, -⟩ | ⟨-, hΦ, hinv⟩
   ·exact absurd (by rw [hpi] at hkL; exact hkL) hiL
   refine Or.inr ⟨rfl, hghL, ((hsee ac hag).2 _ _ (hout W hC (hΦ rfl) (hFA hghL).1)).mono ?_⟩
   rintro v W' ⟨hE, c, rfl, hΦ', hAp⟩
   exact ⟨hE, Or.inl ⟨rfl, by rw [hpi]; simp, c, by rw [hpi]; exact hui _, Inv.after hl hE (next c) true _ _ _ _ _ _ _ _ _ (hnx c) (fun _ => hΦ') (fun g hg hA => ⟨hA, hAp g hg⟩) (by omega) (hinv c)⟩⟩
  rcases hinv with ⟨hbt, hkL, c, hv, hinv⟩ | ⟨hkL, hp, hinv⟩
  ·rcases ih c true (k + 1) _ (Φ' c) _ _ _ _ pf (hnx c) (hst c) hinv (hag.step hda (fun _ => hv)) (fun h => ⟨(hFA fun j hj => h j (List.mem_cons_of_mem _ hj)).1, fun g hg => ⟨(hFA fun j hj => h j (List.mem_cons_of_mem _ hj)).2 g hg.1, hg.2⟩⟩) (by omega) (fun h => by cases h) with ⟨u, W', h1, h2, h3⟩ | ⟨h1, h2, h3⟩
   ·exact Or.inl ⟨u, W', h1, h2, Or.inl ⟨hbt, (hm' k hkm (by omega)).2 hkL, c, by rw [hu u k hkm (by omega)]; exact hv, h3⟩⟩
   exact Or.inr ⟨hbt, fun j hj => h2 j (List.mem_cons_of_mem _ hj), h3.mono fun u W' ⟨q1, q2⟩ => ⟨q1, Or.inl ⟨hbt, (hm' k hkm (by omega)).2 hkL, c, by rw [hu u k hkm (by omega)]; exact hv, q2⟩⟩⟩
  have hall : ∀ c, ∃ v W', Det P ops o (acts ops a vs L) W v W' /\ Ext W W' /\ Inv π (L ++ [i]) (upd vs i v) W' (next c) false (k + 1) (Φ' c) A := fun c => by
   rcases ih c false (k + 1) _ (Φ' c) _ _ _ _ pf (hnx c) (hst c) (hinv c) (hag.step hda (fun h => absurd h hkL)) (fun h => absurd (h (π k) (by simp)) hkL) (by omega) (fun _ => ⟨π k, by simp, hkL⟩) with h | ⟨h1, -⟩
   ·exact h
   cases h1
  obtain ⟨c0⟩ := hne
  obtain ⟨u, W', h1, hx, -⟩ := hall c0
  refine Or.inl ⟨u, W', h1, hx, Or.inr ⟨fun h => hkL ((hm' k hkm (by omega)).1 h), fun hb => hs _ _ hx (hp hb), fun c => ?_⟩⟩
  obtain ⟨u2, W2, k1, -, k3⟩ := hall c
  obtain ⟨rfl, rfl⟩ := h1.same k1
  exact k3
theorem Ok.fin (hl : Lin ops m π σ) (hda : DstApart ops) (hcov : ∀ j, j < m -> j ∈ L) (hC : C W) : ∀ (t : Tr) (k : Nat) (ac : Act) (Φ FA : World -> Prop) (A AO : Nat -> Prop) (gh pf : ZN), Ok P ops π Q m Er C t k ac Φ FA AO gh pf -> Inv π L vs W t true k Φ A -> FA W -> (∀ g, A g -> AO g) -> ac = acts ops a vs ((List.range k).map π) ->
  wpList P ops Q (ops.toList.drop m) (acts ops a vs (List.range m)) W := by
 have hput : ∀ (k : Nat) (ac : Act) (v : Value), ac = acts ops a vs ((List.range k).map π) -> vs (π k) = v -> ac.put (dstAt ops (π k)) v = acts ops a vs ((List.range (k + 1)).map π) := fun k ac v h1 h2 => by
  rw [List.range_succ, List.map_append, List.map_singleton, acts_snoc, h1, h2]
 have hperm : acts ops a vs ((List.range m).map π) = acts ops a vs (List.range m) := by
  refine acts_perm hda ((List.perm_ext_iff_of_nodup ?_ List.nodup_range).2 fun j => ?_)
  ·unfold List.Nodup
   rw [List.pairwise_map]
   refine List.Pairwise.imp_of_mem (fun {x y} hx hy hxy e => hxy ?_) (List.nodup_range (n := m))
   have h1 := (hl.lt x (List.mem_range.1 hx)).2
   have h2 := (hl.lt y (List.mem_range.1 hy)).2
   rw [<- h1, e, h2]
  rw [List.mem_map, List.mem_range]
  constructor
  ·rintro ⟨k, hk, rfl⟩
   exact (hl.lt k (List.mem_range.1 hk)).1
  intro hj
  exact ⟨σ j, List.mem_range.2 (hl.inv j hj).1, (hl.inv j hj).2⟩
 intro t
 induction t with
 | done => intro k ac Φ FA A AO gh pf hok hinv hFA _ he; obtain ⟨rfl, hok⟩ := hok; rw [he, hperm] at hok; exact hok W hC (hinv rfl) hFA
 | plain v next ih => intro k ac Φ FA A AO gh pf hok hinv hFA hA he; exact ih _ _ _ _ _ _ _ _ hok.2.2 hinv.2 hFA hA (hput k ac v he (hinv.1 (hcov _ (hl.lt k hok.1).1)))
 | later v next ih => intro k ac Φ FA A AO gh pf hok hinv hFA hA he; exact ih _ _ _ _ _ _ _ _ hok.2.2.2 hinv.2 hFA hA (hput k ac v he (hinv.1 (hcov _ (hl.lt k hok.1).1)))
 | alloc val F U next ih =>
  intro k ac Φ FA A AO gh pf hok hinv hFA hA he
  rcases hinv with ⟨hk, g, hv, hF, hinv⟩ | ⟨hk, -⟩
  ·exact ih g _ _ _ _ _ _ _ _ (hok.2.2.2 g) hinv ⟨hFA, hF.1, fun hU => ⟨(hF.2 hU).1, hA g (hF.2 hU).2⟩⟩ hA (hput k ac _ he hv)
  exact absurd (hcov _ (hl.lt k hok.1).1) hk
 | call γ val Φ' Ap next ih =>
  intro k ac Φ FA A AO gh pf hok hinv hFA hA he
  obtain ⟨hkm, -, -, -, -, -, hnx⟩ := hok
  rcases hinv with ⟨-, hk, c, hv, hinv⟩ | ⟨hk, -⟩
  ·exact ih c _ _ _ _ _ _ _ _ (hnx c) hinv hFA (fun g hg => ⟨hA g hg.1, hg.2⟩) (hput k ac _ he hv)
  exact absurd (hcov _ (hl.lt k hkm).1) hk
theorem wp_region_chn {id : Nat} {w : World} (hm : P.follows .mixedOrders = true) (hok : okCh ops m = true) (hl : Lin ops m π σ) (hR : ∀ W, Er W W) (hXE : ∀ W W', Ext W W' -> Er W W') (hCE : ∀ W W', C W -> Er W W' -> C W') {Φ : World -> Prop} (hC : C w.drew) (hΦ : Φ w.drew) (hs : ∀ W W', Ext W W' -> Φ W -> Φ W')
  (h : ∃ t, Ok P ops π Q m Er C t 0 a Φ (fun _ => True) (fun _ => True) [] []) : (Code.region id ops true).wp P Q a w := by
 obtain ⟨t, ht⟩ := h
 refine wp_region_any hm ?_
 refine wpAny_core (m := m) (fun L vs W => C W /\ Inv π L vs W t true 0 Φ (fun _ => True)) hok ?_ ?_ ops.size [] (fun _ => undef) _ _ (by simp) (fun j hj => ?_) List.nodup_nil (fun j hj => by simp at hj) ?_ (fun j hj => by simp at hj) ⟨hC, Inv.start t true 0 Φ _ (fun _ => trivial) fun _ => hΦ⟩
 ·intro i o hi ho L vs W hiL hLm hcl hrd ⟨hC, hinv⟩
  rcases ok_step (Q := Q) hok hl hR hXE hi ho hiL hLm hcl hrd hC t true 0 a Φ _ _ _ [] [] ht hs hinv ⟨rfl, fun t => ⟨fun j hj => absurd hj (by omega), fun _ => rfl⟩⟩ (fun _ => ⟨trivial, fun _ h => h⟩) (by omega) (fun h => by cases h) with ⟨v, W', h1, h2, h3⟩ | ⟨-, -, h3⟩
  ·exact h1.outs ⟨hCE _ _ hC (hXE _ _ h2), h3⟩
  exact h3.mono fun v W' ⟨q1, q2⟩ => ⟨hCE _ _ hC q1, q2⟩
 ·intro L vs W hcov ⟨hC, hinv⟩
  exact Ok.fin hl (okCh_spec hok).2.2.1 hcov hC t 0 a Φ _ _ _ [] [] ht hinv trivial (fun _ h => h) rfl
 ·simp [hj]
 exact Nat.le_trans (List.length_filter_le _ _) (by simp)
end
theorem lin_id {ops : Array Oper} {m : Nat} (hok : okCh ops m = true) : Lin ops m (fun k => k) (fun k => k) :=
 ⟨fun _ h => ⟨h, rfl⟩, fun _ h => ⟨h, rfl⟩, fun i _ o ho e he hb => ((okCh_spec hok).2.2.2 i o ho).1 e he hb⟩
end Go.Proofs.YtefjomofjejklaaGreatDoor
