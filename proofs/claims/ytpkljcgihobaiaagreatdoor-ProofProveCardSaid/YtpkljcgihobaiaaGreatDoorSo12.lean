/-
  Texts of the claim, joined: GrowS, GrowG, GnBx, Exp2, MapAt, Heap1, Heap2, Heap3.
-/
import Derived.Test.YtpkljcgihobaiaaGreatDoorSo11
import Derived.StringKeys
import Derived.Maps.Range
import Derived.Lib.Builder
namespace Go.Proofs.YtpkljcgihobaiaaGreatDoor
set_option maxRecDepth 100000
set_option maxHeartbeats 32000000
open Go.RowKit
section
variable {P : Program} {ops : Array Oper} {Q : Exit -> Act -> World -> Prop} {a : Act} {m : Nat} (Kp : ZN) (G : ZN -> (Nat -> Value) -> World -> Prop) (E : Nat -> World -> World -> Prop) (R : Nat -> Value -> World -> Prop)
theorem wpAny_growS {n : Nat} (hok : okGrowG ops m n = true) (hN : n <= a.tmps.size) (sk : Nat -> Bool) (hSg : ∀ i o, i < m -> sk i = true -> ops[i]? = some o -> o.guard ≠ none) (hGd : ∀ i o j b, i < m -> ops[i]? = some o -> o.guard = some (j, b) -> ∀ v W, R j v W -> if sk i = true then v ≠ .bool b else v = .bool b) (hsk : ∀ i, i < m -> sk i = true -> ∀ L vs W, i ∉ L -> G L vs W -> E i W W /\ G (L ++ [i]) (upd vs i undef) W /\ R i undef W) (hRE : ∀ i k v W W', i < m -> k < m -> i ≠ k -> outlastsG ops m Kp i k = true -> R i v W -> E k W W' -> R i v W')
  (hstep : ∀ i o, i < m -> sk i = false -> ops[i]? = some o -> ∀ L vs W, i ∉ L -> (∀ j ∈ L, comesAfter ops m j i = false) -> G L vs W -> (∀ e ∈ o.after, isDataG e = true -> R e.on (vs e.on) W) -> ∀ ρ, Sees ops a m vs ρ -> GivesOp P o ρ W (fun v W' => E i W W' /\ G (L ++ [i]) (upd vs i v) W' /\ R i v W'))
  (hend : ∀ L vs W, (∀ j, j < m -> j ∈ L) -> G L vs W -> (∀ j ∈ Kp, j < m -> R j (vs j) W) -> if m = ops.size then Q .normal (acts ops a vs (List.range m)) W else wpOp P ops Q m (fun a w => Q .normal a w) (acts ops a vs (List.range m)) W) :
  ∀ (fuel : Nat) (L : ZN) (vs : Nat -> Value) (W : World) (listed : Array Bool), listed.size = ops.size -> (∀ j, j < ops.size -> (listed.getD j true = true ↔ j ∈ L)) -> L.Nodup -> (∀ j ∈ L, j < m) -> ((List.range ops.size).filter (fun j => !L.contains j)).length <= fuel -> G L vs W -> (∀ i ∈ L, ∀ o, ops[i]? = some o -> ∀ e ∈ o.after, Region.binds .any e = true -> e.on ∈ L) -> (∀ j ∈ L, (j ∈ Kp \/ ∃ c, c < m /\ c ∉ L /\ looksToG ops c j = true) -> R j (vs j) W) ->
   wpAny P .any ops Q fuel listed (acts ops a vs L) W := by
 obtain ⟨hns, hm1, hm2, hda, hspec⟩ := okGrow_specG hok
 have hperm : ∀ L : ZN, L.Nodup -> (∀ j ∈ L, j < m) -> (∀ j, j < m -> j ∈ L) -> L.Perm (List.range m) := fun L h1 h2 h3 =>
  (List.perm_ext_iff_of_nodup h1 List.nodup_range).2 (fun j => ⟨fun h => by simpa using h2 j h, fun h => h3 j (by simpa using h)⟩)
 -- all below m are listed if none of them is ready
 have hall : ∀ (L : ZN) (listed : Array Bool), listed.size = ops.size -> (∀ j, j < ops.size -> (listed.getD j true = true ↔ j ∈ L)) -> (∀ j ∈ Region.ready .any ops listed, ¬ j < m) -> ∀ j, j < m -> j ∈ L := by
  intro L listed hsz hL hr j
  induction j using Nat.strongRecOn with
  | _ j ih =>
   intro hj
   by_cases hjL : j ∈ L
   ·exact hjL
   exfalso
   refine hr j ?_ hj
   have hjs : j < ops.size := by omega
   rw [mem_ready]
   obtain ⟨o, ho⟩ : ∃ o, ops[j]? = some o := ⟨ops[j], Array.getElem?_eq_getElem hjs⟩
   refine ⟨?_, o, ho, fun e he hb => ?_⟩
   ·cases hx : listed.getD j true
    ·rfl
    exact absurd ((hL j hjs).1 hx) hjL
   have hlt := ((hspec j o ho).2.1 e he).1 hb
   have hm := ih e.on hlt (by omega)
   have := (hL e.on (by omega)).2 hm
   have hin : e.on < listed.size := by rw [hsz]; omega
   simpa [Array.getD, hin] using this
 -- what is asked when all below m are listed
 have hfin : ∀ (L : ZN) (vs : Nat -> Value) (W : World), L.Nodup -> (∀ j ∈ L, j < m) -> (∀ j, j < m -> j ∈ L) -> G L vs W -> (∀ j ∈ L, (j ∈ Kp \/ ∃ c, c < m /\ c ∉ L /\ looksToG ops c j = true) -> R j (vs j) W) ->
   if m = ops.size then Q .normal (acts ops a vs L) W else wpOp P ops Q m (fun a w => Q .normal a w) (acts ops a vs L) W := by
  intro L vs W hnd hLm hcov hE hR
  rw [acts_perm hda (hperm L hnd hLm hcov)]
  exact hend L vs W hcov hE (fun j hk hj => hR j (hcov j hj) (Or.inl hk))
 intro fuel
 induction fuel with
 | zero =>
  intro L vs W listed hsz hL hnd hLm hlen hE hcl hR
  have hcov : ∀ j, j < ops.size -> j ∈ L := fun j hj => by
   have h0 := List.eq_nil_of_length_eq_zero (Nat.le_zero.1 hlen)
   have : j ∉ (List.range ops.size).filter (fun j => !L.contains j) := by rw [h0]; simp
   simpa [hj] using this
  have hmn : m = ops.size := by
   rcases Nat.lt_or_ge m ops.size with h | h
   ·have := hLm m (hcov m h); omega
   omega
  have hf := hfin L vs W hnd hLm (fun j hj => hcov j (by omega)) hE hR
  rw [if_pos hmn] at hf
  refine ⟨?_, hf⟩
  rw [List.eq_nil_iff_forall_not_mem]
  intro j hj
  obtain ⟨h0, o, ho, _⟩ := mem_ready.1 hj
  have := (hL j (Array.getElem?_eq_some_iff.1 ho).1).2 (hcov j (Array.getElem?_eq_some_iff.1 ho).1)
  rw [this] at h0; cases h0
 | succ fuel ih =>
  intro L vs W listed hsz hL hnd hLm hlen hE hcl hR
  refine ⟨fun hr => ?_, fun i hi => ?_⟩
  ·have hcov := hall L listed hsz hL (by rw [hr]; simp)
   have hf := hfin L vs W hnd hLm hcov hE hR
   by_cases hmn : m = ops.size
   ·rw [if_pos hmn] at hf; exact hf
   exfalso
   have hms : m < ops.size := by omega
   have : m ∈ Region.ready .any ops listed := by
    rw [mem_ready]
    obtain ⟨o, ho⟩ : ∃ o, ops[m]? = some o := ⟨ops[m], Array.getElem?_eq_getElem hms⟩
    refine ⟨?_, o, ho, fun e he hb => ?_⟩
    ·cases hx : listed.getD m true
     ·rfl
     have := hLm m ((hL m hms).1 hx); omega
    have hlt := ((hspec m o ho).2.1 e he).1 hb
    have := (hL e.on (by omega)).2 (hcov e.on hlt)
    have hin : e.on < listed.size := by rw [hsz]; omega
    simpa [Array.getD, hin] using this
   rw [hr] at this
   simp at this
  obtain ⟨h0, o, ho, hdep⟩ := mem_ready.1 hi
  have his : i < ops.size := (Array.getElem?_eq_some_iff.1 ho).1
  have hiL : i ∉ L := fun h => by rw [(hL i his).2 h] at h0; cases h0
  have hdepL : ∀ e ∈ o.after, Region.binds .any e = true -> e.on ∈ L := fun e he hb => by
   have h1 := hdep e he hb
   have hlt := ((hspec i o ho).2.1 e he).1 hb
   have hin : e.on < listed.size := by rw [hsz]; omega
   exact (hL e.on (by omega)).1 (by simpa [Array.getD, hin] using h1)
  have hlist : ∀ j, j < ops.size -> ((listed.setIfInBounds i true).getD j true = true ↔ j ∈ L ++ [i]) := fun j hj => by
   by_cases hij : i = j
   ·subst hij; simp [hsz, his]
   rw [getD_set_ne true hij, hL j hj]; simp; intro e; exact absurd e.symm hij
  by_cases him : i < m
  ·-- one of the operations that make memory
   have hnc : ∀ j ∈ L, comesAfter ops m j i = false := fun j hj => by
    cases hx : comesAfter ops m j i
    ·rfl
    exact absurd (comesAfter_mem hcl m j i hj hx) hiL
   have hcont : ∀ v W', E i W W' -> G (L ++ [i]) (upd vs i v) W' -> R i v W' -> wpAny P .any ops Q fuel (listed.setIfInBounds i true) ((acts ops a vs L).put o.dst v) W' := by
    intro v W' hEW hE' hRv
    have e1 : (acts ops a vs L).put o.dst v = acts ops a (upd vs i v) (L ++ [i]) := by
     rw [acts_snoc, acts_congr (vs := upd vs i v) (vs' := vs) (fun j hj => by unfold upd; rw [if_neg (fun e => hiL (by rw [<- e]; exact hj))])]
     simp [upd, dstAt, ho]
    rw [e1]
    refine ih (L ++ [i]) (upd vs i v) W' _ (by simpa using hsz) hlist ?_ ?_ ?_ hE' ?_ ?_
    ·rw [List.nodup_append]
     exact ⟨hnd, by simp, fun x hx y hy e => by simp at hy; subst hy; subst e; exact hiL hx⟩
    ·intro j hj
     rcases List.mem_append.1 hj with h | h
     ·exact hLm j h
     simp at h; omega
    ·have h1 : (List.range ops.size).filter (fun j => !(L ++ [i]).contains j) = ((List.range ops.size).filter (fun j => !L.contains j)).filter (fun j => j != i) := by
      rw [List.filter_filter]
      congr 1
      funext j
      simp only [List.contains_append, Bool.not_or]
      rw [Bool.and_comm]
      congr 1
      rw [Bool.eq_iff_iff]; simp [bne]
     have h2 : (((List.range ops.size).filter (fun j => !L.contains j)).filter (fun j => j != i)).length < ((List.range ops.size).filter (fun j => !L.contains j)).length := by
      rw [List.length_filter_lt_length_iff_exists]
      exact ⟨i, by simp [his, hiL], by simp⟩
     rw [h1]; omega
    ·intro j hj o' ho' e he hb
     rcases List.mem_append.1 hj with h | h
     ·exact List.mem_append_left _ (hcl j h o' ho' e he hb)
     simp at h; subst h
     rw [ho] at ho'
     cases ho'
     exact List.mem_append_left _ (hdepL e he hb)
    intro j hj hlive
    rcases List.mem_append.1 hj with h | h
    ·have : upd vs i v j = vs j := by unfold upd; rw [if_neg (fun e => hiL (by rw [<- e]; exact h))]
     rw [this]
     have hlive' : j ∈ Kp \/ ∃ c, c < m /\ c ∉ L /\ looksToG ops c j = true := hlive.imp id (fun ⟨c, h1, h2, h3⟩ => ⟨c, h1, fun hc => h2 (List.mem_append_left _ hc), h3⟩)
     refine hRE j i _ W W' (hLm j h) him (fun e => hiL (e ▸ h)) ?_ (hR j h hlive') hEW
     unfold outlastsG
     rw [Bool.and_eq_true, Bool.not_eq_true', Bool.or_eq_true]
     refine ⟨?_, ?_⟩
     ·cases hx : comesAfter ops m j i
      ·rfl
      exact absurd (comesAfter_mem hcl m j i h hx) hiL
     rcases hlive with hk | ⟨c, h1, h2, h3⟩
     ·exact Or.inl (List.contains_iff_mem.2 hk)
     refine Or.inr (List.any_eq_true.2 ⟨c, by simpa using h1, ?_⟩)
     rw [h3, Bool.and_true, Bool.and_eq_true, bne_iff_ne, Bool.not_eq_true']
     refine ⟨fun e => by subst e; exact h2 (by simp), ?_⟩
     cases hx : comesAfter ops m i c
     ·rfl
     exact absurd (List.mem_append_left _ (comesAfter_ready hcl ho hdepL m c hx)) h2
    simp at h; subst h; simpa [upd] using hRv
   cases hss : sk i
   case true =>
    unfold wpOp
    simp only [ho]
    cases hgd : o.guard with
    | none => exact absurd hgd (hSg i o him hss ho)
    | some p =>
     obtain ⟨j, b⟩ := p
     obtain ⟨t, ht, htn, e, he, heD, rfl⟩ := (hspec i o ho).1 him j b hgd
     have hjL := hdepL e he (((hspec i o ho).2.1 e he).2 heD)
     have hv := hGd i o e.on b him ho hgd _ _ (hR e.on hjL (Or.inr ⟨i, him, hiL, by unfold looksToG; rw [ho]; exact Array.any_eq_true'.2 ⟨e, he, by simp [heD]⟩⟩))
     rw [if_pos hss] at hv
     rw [if_neg (by
      unfold Region.wanted
      rw [hgd]
      have hev := acts_eval_in hda (a := a) (vs := vs) hjL ht
      rw [if_pos (Nat.lt_of_lt_of_le htn hN)] at hev
      have hlt : t < (acts ops a vs L).tmps.size := by rw [acts_size]; exact Nat.lt_of_lt_of_le htn hN
      show ¬ (yielded ops (acts ops a vs L).tmps e.on == some b) = true
      simp only [Act.eval] at hev
      unfold yielded
      have hdd : (ops[e.on]?).bind (·.dst) = some t := ht
      rw [hdd]
      simp only [Option.bind_some]
      rw [Array.getD_eq_getD_getElem?, Array.getElem?_eq_getElem hlt, Option.getD_some] at hev
      rw [Array.getElem?_eq_getElem hlt, hev]
      cases hvs : vs e.on <;> simp
      intro hb
      exact hv (by rw [hvs, hb]))]
     obtain ⟨q1, q2, q3⟩ := hsk i him hss L vs W hiL hE
     exact hcont undef W q1 q2 q3
   have hg := hstep i o him hss ho L vs W hiL hnc hE (fun e he hb => hR _ (hdepL e he (((hspec i o ho).2.1 e he).2 hb)) (Or.inr ⟨i, him, hiL, by unfold looksToG; rw [ho]; exact Array.any_eq_true'.2 ⟨e, he, by simp [hb]⟩⟩)) _ (sees_acts hda a m vs)
   have hex : execOp (acts ops a vs L).eval o = execOp (acts ops a vs (List.range m)).eval o := by
    refine execOp_congr o (Region.noSelect_spec hns i o · · ho) (fun x hx => ?_)
    cases x with
    | tmp t =>
     have hlook : t ∈ o.looksAt ops := List.mem_append_left _ (List.mem_filterMap.2 ⟨.tmp t, by simpa using hx, rfl⟩)
     by_cases hex : ∃ j, j < m /\ dstAt ops j = some t
     ·obtain ⟨j, hjm, hj⟩ := hex
      obtain ⟨e, he, hb, rfl⟩ := (hspec i o ho).2.2.1 him j t hjm hj hlook
      have hjL := hdepL e he hb
      rw [acts_eval_in hda hjL hj, acts_eval_in hda (by simpa using hLm _ hjL) hj]
     have h1 : ∀ j, j < m -> dstAt ops j ≠ some t := fun j hjm hj => hex ⟨j, hjm, hj⟩
     rw [acts_eval_out (fun j hjL => h1 j (hLm j hjL)), acts_eval_out (fun j hjr => h1 j (by simpa using hjr))]
    | const v => rfl
    | global g => rfl
    | func f => rfl
   unfold wpOp
   simp only [ho]
   rw [if_pos (by
    unfold Region.wanted
    cases hgd : o.guard with
    | none => rfl
    | some p =>
     obtain ⟨j, b⟩ := p
     obtain ⟨t, ht, htn, e, he, heD, rfl⟩ := (hspec i o ho).1 him j b hgd
     have hjL := hdepL e he (((hspec i o ho).2.1 e he).2 heD)
     have hv := hGd i o e.on b him ho hgd _ _ (hR e.on hjL (Or.inr ⟨i, him, hiL, by unfold looksToG; rw [ho]; exact Array.any_eq_true'.2 ⟨e, he, by simp [heD]⟩⟩))
     rw [if_neg (by rw [hss]; decide)] at hv
     have hev := acts_eval_in hda (a := a) (vs := vs) hjL ht
     rw [if_pos (Nat.lt_of_lt_of_le htn hN), hv] at hev
     have hlt : t < (acts ops a vs L).tmps.size := by rw [acts_size]; exact Nat.lt_of_lt_of_le htn hN
     show (yielded ops (acts ops a vs L).tmps e.on == some b) = true
     simp only [Act.eval] at hev
     unfold yielded
     have hdd : (ops[e.on]?).bind (·.dst) = some t := ht
     rw [hdd]
     simp only [Option.bind_some]
     rw [Array.getD_eq_getD_getElem?, Array.getElem?_eq_getElem hlt, Option.getD_some] at hev
     rw [Array.getElem?_eq_getElem hlt, hev]
     simp)]
   left
   refine Oper.wp_mono ?_ (hg.wp hex)
   rintro a' W' ⟨v, rfl, hEW, hE', hRv⟩
   exact hcont v W' hEW hE' hRv
  -- the last one
  obtain rfl : i = m := by omega
  have hcov : ∀ j, j < i -> j ∈ L := fun j hj => by
   obtain ⟨e, he, hb, rfl⟩ := (hspec i o ho).2.2.2 rfl j hj
   exact hdepL e he hb
  have hf := hfin L vs W hnd hLm hcov hE hR
  rw [if_neg (by omega)] at hf
  refine wpOp_mono (fun a' W' hq => ?_) hf
  refine wpAny_done ?_ hq fuel
  rw [List.eq_nil_iff_forall_not_mem]
  intro j hj
  obtain ⟨h0', o', ho', _⟩ := mem_ready.1 hj
  have hjs := (Array.getElem?_eq_some_iff.1 ho').1
  have : j ∈ L ++ [i] := by
   by_cases hji : j < i
   ·exact List.mem_append_left _ (hcov j hji)
   have : j = i := by omega
   simp [this]
  rw [(hlist j hjs).2 this] at h0'; cases h0'
theorem wp_region_growS {id : Nat} {w : World} (hm : P.follows .mixedOrders = true) {n : Nat} (hok : okGrowG ops m n = true) (hN : n <= a.tmps.size) (sk : Nat -> Bool) (hSg : ∀ i o, i < m -> sk i = true -> ops[i]? = some o -> o.guard ≠ none) (hGd : ∀ i o j b, i < m -> ops[i]? = some o -> o.guard = some (j, b) -> ∀ v W, R j v W -> if sk i = true then v ≠ .bool b else v = .bool b) (hsk : ∀ i, i < m -> sk i = true -> ∀ L vs W, i ∉ L -> G L vs W -> E i W W /\ G (L ++ [i]) (upd vs i undef) W /\ R i undef W) (hG : G [] (fun _ => undef) w.drew) (hRE : ∀ i k v W W', i < m -> k < m -> i ≠ k -> outlastsG ops m Kp i k = true -> R i v W -> E k W W' -> R i v W')
  (hstep : ∀ i o, i < m -> sk i = false -> ops[i]? = some o -> ∀ L vs W, i ∉ L -> (∀ j ∈ L, comesAfter ops m j i = false) -> G L vs W -> (∀ e ∈ o.after, isDataG e = true -> R e.on (vs e.on) W) -> ∀ ρ, Sees ops a m vs ρ -> GivesOp P o ρ W (fun v W' => E i W W' /\ G (L ++ [i]) (upd vs i v) W' /\ R i v W'))
  (hend : ∀ L vs W, (∀ j, j < m -> j ∈ L) -> G L vs W -> (∀ j ∈ Kp, j < m -> R j (vs j) W) -> if m = ops.size then Q .normal (acts ops a vs (List.range m)) W else wpOp P ops Q m (fun a w => Q .normal a w) (acts ops a vs (List.range m)) W) :
  (Code.region id ops true).wp P Q a w := by
 refine wp_region_any hm ?_
 refine wpAny_growS Kp G E R hok hN sk hSg hGd hsk hRE hstep hend ops.size [] (fun _ => undef) _ _ (by simp) (fun j hj => ?_) List.nodup_nil (fun j hj => by simp at hj) ?_ hG (fun j hj => by simp at hj) (fun j hj => by simp at hj)
 ·simp [hj]
 exact Nat.le_trans (List.length_filter_le _ _) (by simp)
end
section
variable {P : Program} {ops : Array Oper} {Q : Exit -> Act -> World -> Prop} {a : Act} {m : Nat} (Kp : ZN) (G : ZN -> (Nat -> Value) -> World -> Prop) (E : Nat -> World -> World -> Prop) (R : Nat -> Value -> World -> Prop)
theorem wp_region_growLG {id : Nat} {w : World} (hm : P.follows .mixedOrders = true) {n : Nat} (hok : okGrowG ops m n = true) (hN : n <= a.tmps.size) (hGd : ∀ i o j b, i < m -> ops[i]? = some o -> o.guard = some (j, b) -> ∀ v W, R j v W -> v = .bool b) (hG : G [] (fun _ => undef) w.drew) (hRE : ∀ i k v W W', i < m -> k < m -> i ≠ k -> outlastsG ops m Kp i k = true -> R i v W -> E k W W' -> R i v W')
  (hstep : ∀ i o, i < m -> ops[i]? = some o -> ∀ L vs W, i ∉ L -> (∀ j ∈ L, comesAfter ops m j i = false) -> G L vs W -> (∀ e ∈ o.after, isDataG e = true -> R e.on (vs e.on) W) -> ∀ ρ, Sees ops a m vs ρ -> GivesOp P o ρ W (fun v W' => E i W W' /\ G (L ++ [i]) (upd vs i v) W' /\ R i v W'))
  (hend : ∀ L vs W, (∀ j, j < m -> j ∈ L) -> G L vs W -> (∀ j ∈ Kp, j < m -> R j (vs j) W) -> if m = ops.size then Q .normal (acts ops a vs (List.range m)) W else wpOp P ops Q m (fun a w => Q .normal a w) (acts ops a vs (List.range m)) W) :
  (Code.region id ops true).wp P Q a w := by
 exact wp_region_growS Kp G E R hm hok hN (fun _ => false) (fun _ _ _ h => by cases h) (fun i o j b hi ho hg v W hv => by rw [if_neg (by decide)]; exact hGd i o j b hi ho hg v W hv) (fun _ _ h => by cases h) hG hRE (fun i o hi _ ho => hstep i o hi ho) hend
end
def GnBx (w0 : World) (Z : Obj) (Pd : World -> Value -> Prop) (M : ZN) (kc ka : Nat) (L : ZN) (vs : Nat -> Value) (W : World) : Prop :=
 Ext w0 W /\ (ka ∈ L -> ∃ y, vs ka = .pointer (some ⟨y, 0, none⟩) /\ W.heap[y]? = some Z /\ w0.heap.size <= y) /\
  (kc ∈ L -> ∃ Y : ZN, (∀ y, ka ∈ L -> vs ka = .pointer (some ⟨y, 0, none⟩) -> y ∈ Y) /\ Pd (mask W (Y ++ M)) (vs kc))
section
variable {w0 W W' : World} {Z : Obj} {Pd : World -> Value -> Prop} {M : ZN} {kc ka : Nat} {L : ZN} {vs : Nat -> Value}
theorem gnbx_start : GnBx w0 Z Pd M kc ka [] vs w0.drew := ⟨(Ext.refl w0).drew, fun h => by simp at h, fun h => by simp at h⟩
theorem gnbx_step {i : Nat} {v : Value} (hP : ∀ W W' v, Sub W W' -> Pd W v -> Pd W' v) (h1 : i ≠ kc) (h2 : i ≠ ka) (h : GnBx w0 Z Pd M kc ka L vs W) (hx : Ext W W') : GnBx w0 Z Pd M kc ka (L ++ [i]) (upd vs i v) W' := by
 have m1 : kc ∈ L ++ [i] -> kc ∈ L := fun hm => by simp at hm; rcases hm with hm | hm; exact hm; exact absurd hm.symm h1
 have m2 : ka ∈ L ++ [i] -> ka ∈ L := fun hm => by simp at hm; rcases hm with hm | hm; exact hm; exact absurd hm.symm h2
 have u1 : upd vs i v kc = vs kc := by unfold upd; rw [if_neg (fun e => h1 e.symm)]
 have u2 : upd vs i v ka = vs ka := by unfold upd; rw [if_neg (fun e => h2 e.symm)]
 refine ⟨h.1.trans hx, fun hm => ?_, fun hm => ?_⟩
 ·rw [u2]
  obtain ⟨y, q1, q2, q3⟩ := h.2.1 (m2 hm)
  exact ⟨y, q1, hx.blk q2, q3⟩
 rw [u1, u2]
 obtain ⟨Y, q1, q2⟩ := h.2.2 (m1 hm)
 exact ⟨Y, fun y hy => q1 y (m2 hy), hP _ _ _ (mask_ext _ hx) q2⟩
theorem gnbx_call (hka : ka ≠ kc) (hM : ∀ y ∈ M, y < w0.heap.size) (h : GnBx w0 Z Pd M kc ka L vs W) : ∃ Y : ZN, (∀ y ∈ Y ++ M, y < W.heap.size) /\ ∀ (v : Value) (W' : World), Ext W W' -> Pd (mask W' (Y ++ M)) v -> GnBx w0 Z Pd M kc ka (L ++ [kc]) (upd vs kc v) W' := by
 have m2 : ka ∈ L ++ [kc] -> ka ∈ L := fun hm => by simp at hm; rcases hm with hm | hm; exact hm; exact absurd hm hka
 have u1 : ∀ v, upd vs kc v kc = v := fun v => by unfold upd; rw [if_pos rfl]
 have u2 : ∀ v, upd vs kc v ka = vs ka := fun v => by unfold upd; rw [if_neg hka]
 have hs := h.1.size
 by_cases hk : ka ∈ L
 ·obtain ⟨y, q1, q2, q3⟩ := h.2.1 hk
  refine ⟨[y], fun z hz => ?_, fun v W' hx hp => ⟨h.1.trans hx, fun _ => ?_, fun _ => ?_⟩⟩
  ·rcases List.mem_append.1 hz with hz | hz
   ·simp only [List.mem_singleton] at hz; rw [hz]; exact blk_lt q2
   have := hM z hz; omega
  ·rw [u2]; exact ⟨y, q1, hx.blk q2, q3⟩
  refine ⟨[y], fun z _ hz => ?_, by rw [u1]; exact hp⟩
  rw [u2, q1] at hz
  simp only [Value.pointer.injEq, Option.some.injEq, Addr.mk.injEq, and_true] at hz
  simp [hz]
 refine ⟨[], fun z hz => ?_, fun v W' hx hp => ⟨h.1.trans hx, fun hm => absurd (m2 hm) hk, fun _ => ⟨[], fun z hz _ => absurd (m2 hz) hk, by rw [u1]; exact hp⟩⟩⟩
 have := hM z (by simpa using hz); omega
theorem gnbx_alloc {arr : Array Value} {t : TypeId} (hP : ∀ W W' v, Sub W W' -> Pd W v -> Pd W' v) (hka : ka ≠ kc) (hZ : Z = .cells arr t (0, 0)) (h : GnBx w0 Z Pd M kc ka L vs W) : GnBx w0 Z Pd M kc ka (L ++ [ka]) (upd vs ka (.pointer (some ⟨W.heap.size, 0, none⟩))) (W.alloc (.cells arr t)) := by
 have m1 : kc ∈ L ++ [ka] -> kc ∈ L := fun hm => by simp at hm; rcases hm with hm | hm; exact hm; exact absurd hm.symm hka
 have hx := (Ext.refl W).alloc (.cells arr t)
 have u1 : ∀ v, upd vs ka v ka = v := fun v => by unfold upd; rw [if_pos rfl]
 have u2 : ∀ v, upd vs ka v kc = vs kc := fun v => by unfold upd; rw [if_neg (fun e => hka e.symm)]
 refine ⟨h.1.trans hx, fun _ => ⟨_, u1 _, by rw [hZ]; exact alloc_new W _, h.1.size⟩, fun hm => ?_⟩
 obtain ⟨Y, q1, q2⟩ := h.2.2 (m1 hm)
 refine ⟨W.heap.size :: Y, fun z _ hz => ?_, ?_⟩
 ·rw [u1] at hz
  simp only [Value.pointer.injEq, Option.some.injEq, Addr.mk.injEq, and_true] at hz
  simp [hz]
 rw [u2]
 refine hP _ _ _ (mask_sub_mask fun k hk hn => ⟨fun hm => ?_, hx.block k hk⟩) q2
 simp only [List.cons_append, List.mem_cons] at hm
 rcases hm with hm | hm
 ·omega
 exact hn hm
theorem gnbx_end (hP : ∀ W W' v, Sub W W' -> Pd W v -> Pd W' v) (h : GnBx w0 Z Pd M kc ka L vs W) (h1 : kc ∈ L) (h2 : ka ∈ L) : ∃ y, vs ka = .pointer (some ⟨y, 0, none⟩) /\ W.heap[y]? = some Z /\ w0.heap.size <= y /\ Pd (mask W (y :: M)) (vs kc) := by
 obtain ⟨y, q1, q2, q3⟩ := h.2.1 h2
 obtain ⟨Y, q4, q5⟩ := h.2.2 h1
 refine ⟨y, q1, q2, q3, hP _ _ _ (mask_less W fun z hz => ?_) q5⟩
 rcases List.mem_cons.1 hz with rfl | hz
 ·exact List.mem_append_left _ (q4 _ h2 q1)
 exact List.mem_append_right _ hz
end
mutual
theorem expE_ge {D : BA -> Option Nat} {s : BA} {n : Nat} (hn : D s = some n) : (e : Ex) -> s ∈ namesE e -> min n 2001 <= expE D e
 | .mk op name words lo hi args, h => by
  rw [namesE, List.mem_append] at h
  rw [expE]
  rcases h with h | h
  ·by_cases h3 : op = 3
   ·rw [if_pos h3] at h
    have : s = name := by simpa using h
    subst this
    rw [if_pos h3, hn]
    simp only [Option.getD_some]
    omega
   rw [if_neg h3] at h; simp at h
  have := expL_ge hn args h
  omega
theorem expL_ge {D : BA -> Option Nat} {s : BA} {n : Nat} (hn : D s = some n) : (l : List Ex) -> s ∈ namesL l -> min n 2001 <= expL D l
 | [], h => by rw [namesL] at h; simp at h
 | e :: r, h => by
  rw [namesL, List.mem_append] at h
  rw [expL]
  rcases h with h | h
  ·have := expE_ge hn e h; omega
  have := expL_ge hn r h; omega
end
theorem expF_ge {l : List Cla} {e : Ex} {s : BA} {d : Nat} (hs : s ∈ namesE e) (hd : defAt l s = some d) {f : Nat} (h : expF l f (l.getD d cla0).cond = 2001) : expF l (f + 1) e = 2001 := by
 have h1 := expF_le l (f + 1) e
 rw [expF] at h1 ⊢
 have := expE_ge (D := fun s => (defAt l s).map fun d => expF l f (l.getD d cla0).cond) (n := 2001) (by rw [hd]; simp only [Option.map_some]; rw [h]) e hs
 omega
inductive Reach (l : List Cla) (e : Ex) : Nat -> Prop
 | base {s : BA} {d : Nat} : s ∈ namesE e -> defAt l s = some d -> Reach l e d
 | step {d d' : Nat} {s : BA} : Reach l e d -> s ∈ namesE (l.getD d cla0).cond -> defAt l s = some d' -> Reach l e d'
theorem Reach.large {l : List Cla} {e : Ex} {d : Nat} (h : Reach l e d) : (∀ f, expF l f (l.getD d cla0).cond = 2001) -> ∀ f, expF l f e = 2001 := by
 induction h with
 | base hs hd =>
  intro h f
  cases f with
  | zero => rfl
  | succ f => exact expF_ge hs hd (h f)
 | step _ hs hd ih =>
  intro h
  refine ih fun f => ?_
  cases f with
  | zero => rfl
  | succ f => exact expF_ge hs hd (h f)
structure Used (l : List Cla) (e : Ex) (u : List Cla) : Prop where
 defs : ∀ c ∈ u, c.kind = 1 /\ ∃ d, defAt l c.name = some d /\ c.cond = (l.getD d cla0).cond /\ Reach l e d
 names : (u.map (·.name)).Nodup
 top : ∀ s ∈ namesE e, ∀ d, defAt l s = some d -> s ∈ u.map (·.name)
 closed : ∀ c ∈ u, ∀ s ∈ namesE c.cond, ∀ d, defAt l s = some d -> s ∈ u.map (·.name)
theorem Used.defAt {l : List Cla} {e : Ex} {u : List Cla} (h : Used l e u) {i : Nat} (hi : i < u.length) : defAt u u[i].name = some i := by
 unfold Proofs.YtpkljcgihobaiaaGreatDoor.defAt
 rw [List.findIdx?_eq_some_iff_getElem]
 refine ⟨hi, ?_, fun j hj => ?_⟩
 ·have := (h.defs u[i] (List.getElem_mem hi)).1
  simp [this]
 have hne : u[j].name ≠ u[i].name := by
  have := (List.pairwise_iff_getElem.1 h.names) j i (by simp; omega) (by simpa using hi) hj
  simpa using this
 simp [hne]
theorem Used.at {l : List Cla} {e : Ex} {u : List Cla} (h : Used l e u) {s : BA} (hm : s ∈ u.map (·.name)) : ∃ i d, i < u.length /\ Proofs.YtpkljcgihobaiaaGreatDoor.defAt u s = some i /\ Proofs.YtpkljcgihobaiaaGreatDoor.defAt l s = some d /\ (u.getD i cla0).cond = (l.getD d cla0).cond := by
 obtain ⟨c, hc, rfl⟩ := List.mem_map.1 hm
 obtain ⟨i, hi, rfl⟩ := List.mem_iff_getElem.1 hc
 obtain ⟨_, d, h1, h2, _⟩ := h.defs _ hc
 exact ⟨i, d, hi, h.defAt hi, h1, by rw [getD_cla hi]; exact h2⟩
theorem Used.only {l : List Cla} {e : Ex} {u : List Cla} (h : Used l e u) {s : BA} (hn : Proofs.YtpkljcgihobaiaaGreatDoor.defAt l s = none) : Proofs.YtpkljcgihobaiaaGreatDoor.defAt u s = none := by
 cases hd : Proofs.YtpkljcgihobaiaaGreatDoor.defAt u s with
 | none => rfl
 | some i =>
  have hi := defAt_lt hd
  have h1 := (defAt_name hd).1
  rw [getD_cla hi] at h1
  obtain ⟨_, d, h2, _⟩ := h.defs _ (List.getElem_mem hi)
  rw [h1, hn] at h2
  cases h2
theorem Used.same {l : List Cla} {e : Ex} {u : List Cla} (h : Used l e u) : ∀ f x, (∀ s ∈ namesE x, ∀ d, Proofs.YtpkljcgihobaiaaGreatDoor.defAt l s = some d -> s ∈ u.map (·.name)) -> expF u f x = expF l f x := by
 intro f
 induction f with
 | zero => intro x _; rfl
 | succ f ih =>
  intro x hx
  rw [expF, expF]
  refine expE_congr _ fun s hs => ?_
  cases hd : Proofs.YtpkljcgihobaiaaGreatDoor.defAt l s with
  | none => rw [h.only hd]; rfl
  | some d =>
   obtain ⟨i, d', hi, h1, h2, h3⟩ := h.at (hx s hs d hd)
   rw [hd] at h2
   cases h2
   rw [h1]
   simp only [Option.map_some, h3, Option.some.injEq]
   refine ih _ fun t ht d2 hd2 => ?_
   rw [<- h3, getD_cla hi] at ht
   exact h.closed _ (List.getElem_mem hi) t ht d2 hd2
theorem Used.len {l : List Cla} {e : Ex} {u : List Cla} (h : Used l e u) : u.length <= l.length := by
 have key := nodup_le (u.map fun c => (Proofs.YtpkljcgihobaiaaGreatDoor.defAt l c.name).getD 0) (List.range l.length) ?_ ?_
 ·simpa using key
 ·rw [List.Nodup, List.pairwise_map]
  have h1 := h.names
  rw [List.Nodup, List.pairwise_map] at h1
  refine h1.imp_of_mem fun {a b} ha hb hne he => ?_
  obtain ⟨_, d, h2, _⟩ := h.defs a ha
  obtain ⟨_, d', h3, _⟩ := h.defs b hb
  rw [h2, h3] at he
  simp only [Option.getD_some] at he
  subst he
  exact hne ((defAt_name h2).1.symm.trans (defAt_name h3).1)
 intro x hx
 obtain ⟨c, hc, rfl⟩ := List.mem_map.1 hx
 obtain ⟨_, d, h2, _⟩ := h.defs c hc
 rw [h2]
 exact List.mem_range.2 (defAt_lt h2)
theorem Used.good {l : List Cla} {e : Ex} {u : List Cla} (h : Used l e u) {o : ZN} (ht : Topo (u.map Cla.dfn) o) (hb : ∀ c ∈ u, bareE c.cond = true) (he : bareE e = true) : szE (sizesF u o) e = expanded l e := by
 have hlt : ∀ i ∈ o, i < u.length := fun i hi => by simpa using ht.lt hi
 rw [sizes_exp ht (fun i hi => by rw [getD_cla (hlt i hi)]; exact h.defAt (hlt i hi)) (fun i hi => by rw [getD_cla (hlt i hi)]; exact hb _ (List.getElem_mem _)) e he]
 unfold expanded
 rw [<- h.same (l.length + 1) e h.top, expF, expF]
 refine expE_congr _ fun s hs => ?_
 cases hd : Proofs.YtpkljcgihobaiaaGreatDoor.defAt u s with
 | none => rfl
 | some i =>
  have hi := defAt_lt hd
  have hio : i ∈ o := (ht.all i).2 (by rw [isDef_dfn hi, (h.defs _ (List.getElem_mem hi)).1]; rfl)
  obtain ⟨q, hq⟩ := List.mem_iff_getElem?.1 hio
  have hql : q < o.length := (List.getElem?_eq_some_iff.1 hq).1
  have h1 := ht.len
  have h2 := h.len
  simp only [List.length_map] at h1
  simp only [Option.map_some, Option.some.injEq]
  exact expF_stable ht q i hq _ _ (by omega) (by omega)
theorem Used.cyclic {l : List Cla} {e : Ex} {u : List Cla} (h : Used l e u) {o : ZN} (ho : OInv (u.map Cla.dfn) o []) (hc : o.length < countOf (u.map Cla.dfn)) : expanded l e = 2001 := by
 have hbad : ∀ f i, (hi : i < u.length) -> i ∉ o -> expF u f u[i].cond = 2001 := by
  intro f
  induction f with
  | zero => intro i _ _; rfl
  | succ f ih =>
   intro i hi hio
   have hdef : isDef (u.map Cla.dfn) i = true := by rw [isDef_dfn hi, (h.defs _ (List.getElem_mem hi)).1]; rfl
   have hm : missL (u.map Cla.dfn) o i ≠ [] := fun hm => hio (by have := (ho.ready i).2 ⟨hdef, hm⟩; simpa using this)
   obtain ⟨s, hs⟩ := List.exists_mem_of_ne_nil _ hm
   obtain ⟨h1, d, h2, h3⟩ := mem_miss.1 hs
   rw [usesAt_dfn hi, refNames_mem] at h1
   rw [firstAt_dfn] at h2
   have hdl := defAt_lt h2
   refine expF_ge h1 h2 ?_
   rw [getD_cla hdl]
   exact ih d hdl h3
 obtain ⟨i, hi, hio⟩ : ∃ i, i < u.length /\ i ∉ o := by
  refine Classical.byContradiction fun hn => ?_
  have := nodup_le _ o (List.nodup_range.filter (isDef (u.map Cla.dfn))) fun i hi => Classical.byContradiction fun hio => hn ⟨i, by simpa using isDef_lt (mem_defs.1 hi), hio⟩
  unfold countOf at hc
  omega
 obtain ⟨_, d, h1, h2, h3⟩ := h.defs _ (List.getElem_mem hi)
 refine h3.large (fun f => ?_) _
 rw [<- h2, <- h.same f u[i].cond (h.closed _ (List.getElem_mem hi))]
 exact hbad f i hi hio
open Go.RowKit Go.Maps
def heldE (v : Value) : Option (DataW Value × List MemPlace) := some (.held v, [])
def HoldsF (D : DataW Value) (f : Lit -> Option Value) : Prop := ∀ x, WideAt.IsKeyLit x -> Maps.has D x = (f x).isSome /\ ∀ v, f x = some v -> ∀ z, D.atKey x z = .held v
def MapAt (w : World) (k : TypeId) (b n : Nat) (f : Lit -> Option Value) : Prop := ∃ D : DataW Value, w.ownsMap Tryz.prog k heldE b n D /\ HoldsF D f
open Classical in
noncomputable def setF (f : Lit -> Option Value) (x : Lit) (v : Option Value) : Lit -> Option Value := fun y => if y = x then v else f y
theorem setF_same (f : Lit -> Option Value) (x : Lit) (v : Option Value) : setF f x v x = v := by simp [setF]
theorem setF_other (f : Lit -> Option Value) {x y : Lit} (v : Option Value) (h : y ≠ x) : setF f x v y = f y := by simp [setF, h]
theorem MapAt.made (w : World) (k : TypeId) : MapAt (w.alloc (.map #[] 0)) k w.heap.size 0 (fun _ => none) :=
 ⟨.map [], World.ownsMap_made w _ k heldE, fun x _ => ⟨rfl, fun v h => by cases h⟩⟩
theorem MapAt.lt {w : World} {k : TypeId} {b n : Nat} {f : Lit -> Option Value} (h : MapAt w k b n f) : b < w.heap.size := by obtain ⟨D, h, _⟩ := h; exact h.lt
theorem MapAt.more {w : World} {k : TypeId} {b n n' : Nat} {f : Lit -> Option Value} (h : MapAt w k b n f) (hn : n <= n') : MapAt w k b n' f := by obtain ⟨D, h, hs⟩ := h; exact ⟨D, h.mono hn, hs⟩
theorem MapAt.chg {w w' : World} {k : TypeId} {b n : Nat} {f : Lit -> Option Value} {N : ZN} (h : MapAt w k b n f) (hc : Chg N w w') (hn : b ∉ N) : MapAt w' k b n f := by
 have hlt := h.lt
 obtain ⟨D, ⟨es, clock, hb, r⟩, hs⟩ := h
 exact ⟨D, ⟨es, clock, (hc.block b hlt hn).trans hb, r⟩, hs⟩
theorem MapAt.ext {w w' : World} {k : TypeId} {b n : Nat} {f : Lit -> Option Value} (h : MapAt w k b n f) (he : Ext w w') : MapAt w' k b n f := h.chg (he.chg []) (by simp)
theorem MapAt.congr {w : World} {k : TypeId} {b n : Nat} {f g : Lit -> Option Value} (h : MapAt w k b n f) (e : ∀ x, f x = g x) : MapAt w k b n g := by rw [show g = f from funext fun x => (e x).symm]; exact h
theorem grown_one {w w' : World} {b : Nat} (h : w.grownBy w' (some b)) : Chg [b] w w' := ⟨h.os, h.tape, h.output, h.size, fun k hk hn => h.block k hk (fun e => hn (by simp at e; simp [e]))⟩
theorem HoldsF.at {D : DataW Value} {f : Lit -> Option Value} (h : HoldsF D f) {x : Lit} (hx : WideAt.IsKeyLit x) {v z : Value} (hv : DataW.held v = D.atKey x (.held z)) : v = (f x).getD z := by
 obtain ⟨h1, h2⟩ := h x hx
 cases hf : f x with
 | none =>
  rw [hf] at h1
  rw [atKey_of_not_has h1] at hv
  simpa using hv
 | some u =>
  rw [h2 u hf] at hv
  simpa using hv
theorem HoldsF.put {D : DataW Value} {f : Lit -> Option Value} (h : HoldsF D f) (hD : IsMap D) {x : Lit} (hx : WideAt.IsKeyLit x) (v : Value) : HoldsF (D.put x (.held v)) (setF f x (some v)) := by
 intro y hy
 by_cases e : y = x
 ·subst e
  rw [setF_same]
  refine ⟨by rw [has_put_same hD hx]; rfl, fun u hu z => ?_⟩
  rw [atKey_put_same hD hx]
  cases hu; rfl
 rw [setF_other _ _ e]
 refine ⟨by rw [has_put_other e]; exact (h y hy).1, fun u hu z => ?_⟩
 rw [atKey_put_other e]
 exact (h y hy).2 u hu z
theorem HoldsF.del {D : DataW Value} {f : Lit -> Option Value} (h : HoldsF D f) {x : Lit} (hx : WideAt.IsKeyLit x) : HoldsF (D.del x) (setF f x none) := by
 intro y hy
 by_cases e : y = x
 ·subst e
  rw [setF_same]
  exact ⟨by rw [has_del_same]; rfl, fun u hu => by cases hu⟩
 rw [setF_other _ _ e]
 refine ⟨by rw [has_del_other e]; exact (h y hy).1, fun u hu z => ?_⟩
 rw [atKey_del_other e]
 exact (h y hy).2 u hu z
theorem HoldsF.size {D : DataW Value} {f : Lit -> Option Value} (h : HoldsF D f) {es : List (Lit × DataW Value)} (hD : D = .map es) (hk : ∀ p ∈ es, WideAt.IsKeyLit p.1) : Maps.size D = 0 ↔ ∀ x, WideAt.IsKeyLit x -> f x = none := by
 subst hD
 rw [size_eq]
 constructor
 ·intro h0 x hx
  have := (h x hx).1
  rw [List.eq_nil_of_length_eq_zero h0] at this
  cases hf : f x with
  | none => rfl
  | some u => rw [hf] at this; simp [has_eq] at this
 intro h0
 cases es with
 | nil => rfl
 | cons p r =>
  have hp := hk p (by simp)
  have := (h p.1 hp).1
  rw [h0 p.1 hp, has_eq] at this
  simp [WideAt.sameKey_self hp] at this
section
variable (w : World) {ops : Array Oper} {rest : List Oper} {o : Oper} {a : Act} {Q : Exit -> Act -> World -> Prop}
theorem wpList_map_ok (hg : o.guard = none) (m x : Operand) (t : TypeId) (hop : o.op = Op.lookup t m x true) (k e : TypeId) (K : Keyed Tryz.prog k) (ht : Tryz.prog.underlying t = some (.map k e)) {z : Value} (hz : (zeroValue e).run Tryz.prog w = .ok z w) (b n : Nat) (f : Lit -> Option Value)
  (hm : a.eval m = .map (some b)) (hmap : MapAt w k b n f) (key : Value) (kl : Lit) (hx : a.eval x = key) (hkey : keyOf Tryz.prog k key = some kl) (hkl : WideAt.IsKeyLit kl)
  (hK : wpList Tryz.prog ops Q rest (a.put o.dst (.tuple #[(f kl).getD z, .bool (f kl).isSome])) w) : wpList Tryz.prog ops Q (o :: rest) a w := by
 obtain ⟨D, hown, hf⟩ := hmap
 refine wpList_lookup_own_ok w hg m x t hop k e K ht heldE hz (.held z) [] rfl b n D hm hown key kl hx hkey fun v ps hv => ?_
 have e1 : DataW.held v = D.atKey kl (.held z) := by
  simp only [heldE, Option.some.injEq, Prod.mk.injEq] at hv
  exact hv.1
 rw [hf.at hkl e1, (hf kl hkl).1]
 exact hK
theorem wpList_map_get (hg : o.guard = none) (m x : Operand) (t : TypeId) (hop : o.op = Op.lookup t m x false) (k e : TypeId) (K : Keyed Tryz.prog k) (ht : Tryz.prog.underlying t = some (.map k e)) {z : Value} (hz : (zeroValue e).run Tryz.prog w = .ok z w) (b n : Nat) (f : Lit -> Option Value)
  (hm : a.eval m = .map (some b)) (hmap : MapAt w k b n f) (key : Value) (kl : Lit) (hx : a.eval x = key) (hkey : keyOf Tryz.prog k key = some kl) (hkl : WideAt.IsKeyLit kl)
  (hK : wpList Tryz.prog ops Q rest (a.put o.dst ((f kl).getD z)) w) : wpList Tryz.prog ops Q (o :: rest) a w := by
 obtain ⟨D, hown, hf⟩ := hmap
 refine wpList_plain hg fun K' hK' => ?_
 obtain ⟨v, ps, hrun, hv⟩ := hown.lookup K ht hz (zd := .held z) (zp := []) rfl hkey
 have e1 : DataW.held v = D.atKey kl (.held z) := by
  simp only [heldE, Option.some.injEq, Prod.mk.injEq] at hv
  exact hv.1
 rw [<- hf.at hkl e1] at hK
 unfold Oper.wp
 simp [execOp, hop, hm, hx, hrun, Result.andThen]
 exact hK' _ _ hK
theorem wpList_map_put (hg : o.guard = none) (m x v : Operand) (t : TypeId) (hop : o.op = Op.mapUpdate t m x v) (k e : TypeId) (K : Keyed Tryz.prog k) (ht : Tryz.prog.underlying t = some (.map k e)) (b n : Nat) (f : Lit -> Option Value)
  (hm : a.eval m = .map (some b)) (hmap : MapAt w k b n f) (hn : n < maxLen) (key val : Value) (kl : Lit) (hx : a.eval x = key) (hv : a.eval v = val) (hkey : keyOf Tryz.prog k key = some kl) (hkl : WideAt.IsKeyLit kl)
  (hK : ∀ w', MapAt w' k b (n + 1) (setF f kl (some val)) -> Chg [b] w w' -> wpList Tryz.prog ops Q rest (a.put o.dst undef) w') : wpList Tryz.prog ops Q (o :: rest) a w := by
 obtain ⟨D, hown, hf⟩ := hmap
 refine wpList_mapUpdate_own w hg m x v t hop k e K ht heldE b n D hm hown hn key val kl hx hv hkey (.held val) [] rfl fun w' h1 h2 => ?_
 exact hK w' ⟨_, h1, hf.put hown.isMap hkl val⟩ (grown_one h2)
theorem wpList_map_del (hg : o.guard = none) (m x : Operand) (t k : TypeId) (hop : o.op = Op.call { callee := Callee.builtin Builtin.delete, args := #[m, x], argTypes := #[t, k] }) (e : TypeId) (K : Keyed Tryz.prog k) (ht : Tryz.prog.underlying t = some (.map k e)) (b n : Nat) (f : Lit -> Option Value)
  (hm : a.eval m = .map (some b)) (hmap : MapAt w k b n f) (key : Value) (kl : Lit) (hx : a.eval x = key) (hkey : keyOf Tryz.prog k key = some kl) (hkl : WideAt.IsKeyLit kl)
  (hK : ∀ w', MapAt w' k b n (setF f kl none) -> Chg [b] w w' -> wpList Tryz.prog ops Q rest (a.put o.dst (.tuple #[])) w') : wpList Tryz.prog ops Q (o :: rest) a w := by
 obtain ⟨D, hown, hf⟩ := hmap
 refine wpList_delete_own w hg m x t k hop e K ht heldE b n D hm hown key kl hx hkey fun w' h1 h2 => ?_
 exact hK w' ⟨_, h1, hf.del hkl⟩ (grown_one h2.grown)
theorem wpList_map_len (hg : o.guard = none) (m : Operand) (t : TypeId) (hop : o.op = Op.call { callee := Callee.builtin Builtin.len, args := #[m], argTypes := #[t] }) (k e : TypeId) (K : Keyed Tryz.prog k) (ht : Tryz.prog.underlying t = some (.map k e)) (b n : Nat) (f : Lit -> Option Value)
  (hm : a.eval m = .map (some b)) (hmap : MapAt w k b n f)
  (hK : ∀ s : Nat, s <= n -> (s = 0 ↔ ∀ x, WideAt.IsKeyLit x -> f x = none) -> wpList Tryz.prog ops Q rest (a.put o.dst (.int .i64 s)) w) : wpList Tryz.prog ops Q (o :: rest) a w := by
 obtain ⟨D, hown, hf⟩ := hmap
 refine wpList_len_own w hg m t hop k e ht heldE b n D hm hown ?_
 obtain ⟨es, hes, _, hk⟩ := hown.entries K
 exact hK _ hown.size_le (hf.size hes hk)
end
theorem pile_cell {e : TypeId} {g : Nat} {cur : Array Value} {xs : ZI} {w : World} (hg : w.heap[g]? = some (.cells cur e (0, 0))) (h4 : cur.toList.take xs.length = xs.map fun z => Value.int .i64 z) {i : Nat} (hi : i < xs.length) : w.cell? ⟨g, i, none⟩ = some (.int .i64 xs[i]) /\ w.frozen? ⟨g, i, none⟩ = false := by
 have h5 : (cur.toList.take xs.length)[i]? = some (.int .i64 xs[i]) := by rw [h4]; simp [hi]
 rw [List.getElem?_take, if_pos hi] at h5
 refine ⟨?_, Lib.frozen_of_heap hg i⟩
 rw [Lib.cell_of_heap hg]
 simpa using h5
theorem meth_push (n b : Nat) (w : World) : (method (n + 1) 130 (.pointer (some ⟨b, 0, none⟩)) "Push").run Tryz.prog w = .ok (179, .pointer (some ⟨b, 0, none⟩)) w := by kernel_rfl
theorem meth_pop (n b : Nat) (w : World) : (method (n + 1) 130 (.pointer (some ⟨b, 0, none⟩)) "Pop").run Tryz.prog w = .ok (178, .pointer (some ⟨b, 0, none⟩)) w := by kernel_rfl
theorem meth_len (n b : Nat) (v : Value) (w : World) (h : w.cell? ⟨b, 0, none⟩ = some v) : (method (n + 1) 130 (.pointer (some ⟨b, 0, none⟩)) "Len").run Tryz.prog w = .ok (96, v) w := by
 have e : (method (n + 1) 130 (.pointer (some ⟨b, 0, none⟩)) "Len").run Tryz.prog w = (loadVar 131 ⟨b, 0, none⟩ >>= fun v => pure (96, v)).run Tryz.prog w := by kernel_rfl
 rw [e]
 simp [loadVar, go_sem, h]
theorem meth_less (n b : Nat) (v : Value) (w : World) (h : w.cell? ⟨b, 0, none⟩ = some v) : (method (n + 1) 130 (.pointer (some ⟨b, 0, none⟩)) "Less").run Tryz.prog w = .ok (177, v) w := by
 have e : (method (n + 1) 130 (.pointer (some ⟨b, 0, none⟩)) "Less").run Tryz.prog w = (loadVar 131 ⟨b, 0, none⟩ >>= fun v => pure (177, v)).run Tryz.prog w := by kernel_rfl
 rw [e]
 simp [loadVar, go_sem, h]
theorem meth_swap (n b : Nat) (v : Value) (w : World) (h : w.cell? ⟨b, 0, none⟩ = some v) : (method (n + 1) 130 (.pointer (some ⟨b, 0, none⟩)) "Swap").run Tryz.prog w = .ok (181, v) w := by
 have e : (method (n + 1) 130 (.pointer (some ⟨b, 0, none⟩)) "Swap").run Tryz.prog w = (loadVar 131 ⟨b, 0, none⟩ >>= fun v => pure (181, v)).run Tryz.prog w := by kernel_rfl
 rw [e]
 simp [loadVar, go_sem, h]
theorem ahead_len (n b : Nat) (w : World) : (nilAhead (n + 1) 130 (.pointer (some ⟨b, 0, none⟩)) "Len").run Tryz.prog w = .ok (some false) w := by kernel_rfl
theorem ahead_less (n b : Nat) (w : World) : (nilAhead (n + 1) 130 (.pointer (some ⟨b, 0, none⟩)) "Less").run Tryz.prog w = .ok (some false) w := by kernel_rfl
theorem ahead_swap (n b : Nat) (w : World) : (nilAhead (n + 1) 130 (.pointer (some ⟨b, 0, none⟩)) "Swap").run Tryz.prog w = .ok (some false) w := by kernel_rfl
theorem ahead_push (n b : Nat) (w : World) : (nilAhead (n + 1) 130 (.pointer (some ⟨b, 0, none⟩)) "Push").run Tryz.prog w = .ok (some false) w := by kernel_rfl
theorem ahead_pop (n b : Nat) (w : World) : (nilAhead (n + 1) 130 (.pointer (some ⟨b, 0, none⟩)) "Pop").run Tryz.prog w = .ok (some false) w := by kernel_rfl
theorem ilen_calls (a : OA) (n c : Nat) (w : World) : Calls Tryz.prog 96 #[.slice a n c] w (Gives (.int .i64 n) w) := by
 go_enter Tryz.func96, Tryz.ntmps96
 go_wp2_with fail
 go_ret
 exact ⟨rfl, rfl⟩
theorem iless_calls (g n c i j : Nat) (x y : Int) (w : World) (hi : i < n) (hj : j < n) (h1 : w.cell? ⟨g, i, none⟩ = some (.int .i64 x)) (h2 : w.cell? ⟨g, j, none⟩ = some (.int .i64 y)) :
  Calls Tryz.prog 177 #[.slice (some ⟨g, 0, none⟩) n c, .int .i64 i, .int .i64 j] w (GivesE (.bool (decide (x < y))) w) := by
 go_enter Tryz.func177, Tryz.ntmps177
 go_upto_region 1 with fail
 go_quiet (fail)
 go_wp2_with fail
 go_ret
 exact ⟨rfl, Ext.drewN (Ext.refl _) _⟩
def tabS (g n c i j : Nat) (x y : Int) : List Value :=
 [.slice (some ⟨g, 0, none⟩) n c, .int .i64 i, .slice (some ⟨g, 0, none⟩) n c, .int .i64 j, .slice (some ⟨g, 0, none⟩) n c, .int .i64 j, .pointer (some ⟨g, j, none⟩), .int .i64 y, .slice (some ⟨g, 0, none⟩) n c, .int .i64 i, .pointer (some ⟨g, i, none⟩), .int .i64 x, .pointer (some ⟨g, i, none⟩), undef, .pointer (some ⟨g, j, none⟩)]
def RS (tab : List Value) (i : Nat) (u : Value) (_ : World) : Prop := u = tab.getD i undef
def GS (w w1 : World) (L : ZN) (W : World) : Prop := (13 ∉ L -> ∃ k, W = w.drewN k) /\ (13 ∈ L -> ∃ k, W = w1.drewN k)
def ES (_ : Nat) (_ _ : World) : Prop := True
theorem GS.plain {w w1 : World} {L : ZN} {W : World} (h : GS w w1 L W) {i : Nat} (hi : i ≠ 13) : GS w w1 (L ++ [i]) W := by
 have hm : 13 ∈ L ++ [i] ↔ 13 ∈ L := by simp; omega
 unfold GS
 rw [hm]; exact h
theorem swap_before {ops : Array Oper} {m : Nat} {L : ZN} {i : Nat} (hg : (13 == i || comesAfter ops m 13 i) = true) (hi : i ∉ L) (hL : ∀ j ∈ L, comesAfter ops m j i = false) : 13 ∉ L := by
 intro h
 rw [hL 13 h] at hg
 simp only [Bool.or_false, beq_iff_eq] at hg
 exact hi (hg ▸ h)
theorem iswap_calls (g n c i j : Nat) (x y : Int) (w : World) (hi : i < n) (hj : j < n) (h1 : w.cell? ⟨g, i, none⟩ = some (.int .i64 x)) (h2 : w.cell? ⟨g, j, none⟩ = some (.int .i64 y)) (hf : ∀ k, w.frozen? ⟨g, k, none⟩ = false) :
  Calls Tryz.prog 181 #[.slice (some ⟨g, 0, none⟩) n c, .int .i64 i, .int .i64 j] w (fun e w' => e = .returned (.tuple #[]) /\ ∃ k, w' = ((w.setCell ⟨g, i, none⟩ (.int .i64 y)).setCell ⟨g, j, none⟩ (.int .i64 x)).drewN k) := by
 go_enter Tryz.func181, Tryz.ntmps181
 go_upto_region 0 with fail
 refine wp_region_growL (m := 15) [11, 14] (GS w (w.setCell ⟨g, i, none⟩ (.int .i64 y))) ES (RS (tabS g n c i j x y)) (by kernel_rfl) (by kernel_rfl) ⟨fun _ => ⟨1, rfl⟩, fun h => by simp at h⟩ (fun _ _ _ _ _ _ _ _ _ hR _ => hR) ?_ ?_
 ·intro q o hq ho L vs W hiL hnc hG hd ρ hρ
  have hq' := ltc15 hq
  clear hq
  have o0 : ρ (.tmp 0) = .slice (some ⟨g, 0, none⟩) n c := hρ.out 0 rfl
  have o1 : ρ (.tmp 1) = .int .i64 i := hρ.out 1 rfl
  have o2 : ρ (.tmp 2) = .int .i64 j := hρ.out 2 rfl
  have hcs := hρ.const
  have HG := hI hG
  clear hG
  rcases hq' with rfl | rfl | rfl | rfl | rfl | rfl | rfl | rfl | rfl | rfl | rfl | rfl | rfl | rfl | rfl
  ·cases ho
   clear hρ hd
   unfold GivesOp
   go_simp
   exact ⟨trivial, HG.out.plain (by omega), rfl⟩
  ·cases ho
   clear hρ hd
   unfold GivesOp
   go_simp
   exact ⟨trivial, HG.out.plain (by omega), rfl⟩
  ·cases ho
   clear hρ hd
   unfold GivesOp
   go_simp
   exact ⟨trivial, HG.out.plain (by omega), rfl⟩
  ·cases ho
   clear hρ hd
   unfold GivesOp
   go_simp
   exact ⟨trivial, HG.out.plain (by omega), rfl⟩
  ·cases ho
   clear hρ hd
   unfold GivesOp
   go_simp
   exact ⟨trivial, HG.out.plain (by omega), rfl⟩
  ·cases ho
   clear hρ hd
   unfold GivesOp
   go_simp
   exact ⟨trivial, HG.out.plain (by omega), rfl⟩
  ·cases ho
   have i4 := hρ.i 4 10
   have d4 : vs 4 = _ := hd ⟨4, .data⟩ (by simp) rfl
   rw [d4] at i4
   dsimp only [tabS, List.getD_cons_zero, List.getD_cons_succ] at i4
   have i5 := hρ.i 5 11
   have d5 : vs 5 = _ := hd ⟨5, .data⟩ (by simp) rfl
   rw [d5] at i5
   dsimp only [tabS, List.getD_cons_zero, List.getD_cons_succ] at i5
   clear hρ hd
   unfold GivesOp
   go_simp
   exact ⟨trivial, HG.out.plain (by omega), rfl⟩
  ·cases ho
   have i6 := hρ.i 6 12
   have d6 : vs 6 = _ := hd ⟨6, .data⟩ (by simp) rfl
   rw [d6] at i6
   dsimp only [tabS, List.getD_cons_zero, List.getD_cons_succ] at i6
   obtain ⟨kw, rfl⟩ := HG.out.1 (swap_before (by decide +kernel) hiL hnc)
   have c1 : (w.drewN kw).cell? ⟨g, i, none⟩ = some (.int .i64 x) := h1
   have c2 : (w.drewN kw).cell? ⟨g, j, none⟩ = some (.int .i64 y) := h2
   have cf : ∀ k, (w.drewN kw).frozen? ⟨g, k, none⟩ = false := hf
   clear hρ hd
   unfold GivesOp
   go_simp
   exact ⟨trivial, HG.out.plain (by omega), rfl⟩
  ·cases ho
   clear hρ hd
   unfold GivesOp
   go_simp
   exact ⟨trivial, HG.out.plain (by omega), rfl⟩
  ·cases ho
   clear hρ hd
   unfold GivesOp
   go_simp
   exact ⟨trivial, HG.out.plain (by omega), rfl⟩
  ·cases ho
   have i8 := hρ.i 8 14
   have d8 : vs 8 = _ := hd ⟨8, .data⟩ (by simp) rfl
   rw [d8] at i8
   dsimp only [tabS, List.getD_cons_zero, List.getD_cons_succ] at i8
   have i9 := hρ.i 9 15
   have d9 : vs 9 = _ := hd ⟨9, .data⟩ (by simp) rfl
   rw [d9] at i9
   dsimp only [tabS, List.getD_cons_zero, List.getD_cons_succ] at i9
   clear hρ hd
   unfold GivesOp
   go_simp
   exact ⟨trivial, HG.out.plain (by omega), rfl⟩
  ·cases ho
   have i10 := hρ.i 10 16
   have d10 : vs 10 = _ := hd ⟨10, .data⟩ (by simp) rfl
   rw [d10] at i10
   dsimp only [tabS, List.getD_cons_zero, List.getD_cons_succ] at i10
   obtain ⟨kw, rfl⟩ := HG.out.1 (swap_before (by decide +kernel) hiL hnc)
   have c1 : (w.drewN kw).cell? ⟨g, i, none⟩ = some (.int .i64 x) := h1
   have c2 : (w.drewN kw).cell? ⟨g, j, none⟩ = some (.int .i64 y) := h2
   have cf : ∀ k, (w.drewN kw).frozen? ⟨g, k, none⟩ = false := hf
   clear hρ hd
   unfold GivesOp
   go_simp
   exact ⟨trivial, HG.out.plain (by omega), rfl⟩
  ·cases ho
   have i0 := hρ.i 0 6
   have d0 : vs 0 = _ := hd ⟨0, .data⟩ (by simp) rfl
   rw [d0] at i0
   dsimp only [tabS, List.getD_cons_zero, List.getD_cons_succ] at i0
   have i1 := hρ.i 1 7
   have d1 : vs 1 = _ := hd ⟨1, .data⟩ (by simp) rfl
   rw [d1] at i1
   dsimp only [tabS, List.getD_cons_zero, List.getD_cons_succ] at i1
   clear hρ hd
   unfold GivesOp
   go_simp
   exact ⟨trivial, HG.out.plain (by omega), rfl⟩
  ·cases ho
   have i12 := hρ.i 12 18
   have d12 : vs 12 = _ := hd ⟨12, .data⟩ (by simp) rfl
   rw [d12] at i12
   dsimp only [tabS, List.getD_cons_zero, List.getD_cons_succ] at i12
   have i7 := hρ.i 7 13
   have d7 : vs 7 = _ := hd ⟨7, .data⟩ (by simp) rfl
   rw [d7] at i7
   dsimp only [tabS, List.getD_cons_zero, List.getD_cons_succ] at i7
   obtain ⟨kw, rfl⟩ := HG.out.1 (swap_before (by decide +kernel) hiL hnc)
   have c1 : (w.drewN kw).cell? ⟨g, i, none⟩ = some (.int .i64 x) := h1
   have c2 : (w.drewN kw).cell? ⟨g, j, none⟩ = some (.int .i64 y) := h2
   have cf : ∀ k, (w.drewN kw).frozen? ⟨g, k, none⟩ = false := hf
   clear hρ hd
   unfold GivesOp
   go_simp
   exact ⟨trivial, ⟨fun h => absurd (by simp) h, fun _ => ⟨kw, rfl⟩⟩, rfl⟩
  cases ho
  have i2 := hρ.i 2 8
  have d2 : vs 2 = _ := hd ⟨2, .data⟩ (by simp) rfl
  rw [d2] at i2
  dsimp only [tabS, List.getD_cons_zero, List.getD_cons_succ] at i2
  have i3 := hρ.i 3 9
  have d3 : vs 3 = _ := hd ⟨3, .data⟩ (by simp) rfl
  rw [d3] at i3
  dsimp only [tabS, List.getD_cons_zero, List.getD_cons_succ] at i3
  clear hρ hd
  unfold GivesOp
  go_simp
  exact ⟨trivial, HG.out.plain (by omega), rfl⟩
 intro L vs W hall hG hR
 rw [if_neg (by decide +kernel)]
 have r11 : vs 11 = .int .i64 x := hR 11 (by simp) (by omega)
 have r14 : vs 14 = .pointer (some ⟨g, j, none⟩) := hR 14 (by simp) (by omega)
 obtain ⟨kw, rfl⟩ := hG.2 (hall 13 (by omega))
 have c2 : ∃ u, ((w.setCell ⟨g, i, none⟩ (.int .i64 y)).drewN kw).cell? ⟨g, j, none⟩ = some u := by
  by_cases e : i = j
  ·subst e
   exact ⟨_, World.cell?_setCell_same' w ⟨g, i, none⟩ (.int .i64 y) (by simp [h1])⟩
  exact ⟨_, (World.cell?_setCell_other w _ _ _ (by simp only [ne_eq, Addr.mk.injEq, true_and, and_true]; omega)).trans h2⟩
 obtain ⟨u, c2⟩ := c2
 have cf : ((w.setCell ⟨g, i, none⟩ (.int .i64 y)).drewN kw).frozen? ⟨g, j, none⟩ = false := (World.frozen?_setCell _ _ _ _).trans (hf j)
 clear hG hall hR
 unfold wpOp
 simp only [acts, dstAt, List.range, List.range.loop, List.foldl_cons, List.foldl_nil, r11, r14]
 go_simp
 refine Or.inl ?_
 go_wp2_with fail
 go_end0
 exact ⟨rfl, kw, rfl⟩
end Go.Proofs.YtpkljcgihobaiaaGreatDoor
