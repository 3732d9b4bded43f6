/-
  Texts of the claim, joined: Chk, SVal, Facts, Prf.
-/
import Derived.Test.YtefjomofjejklaaGreatDoorDw02
namespace Go.Proofs.YtefjomofjejklaaGreatDoor
set_option maxRecDepth 100000
set_option maxHeartbeats 32000000
theorem firstI_none {f : Nat -> Int} : (n : Nat) -> (firstI f n).2 = 0 -> ∀ j, j < n -> f j = 0
 | 0, _, j, hj => by omega
 | n + 1, h, j, hj => by
  rw [firstI] at h
  by_cases h1 : (firstI f n).2 ≠ 0
  ·rw [if_pos h1] at h; exact absurd h h1
  rw [if_neg h1] at h
  have h1' : (firstI f n).2 = 0 := by simpa using h1
  by_cases h2 : f n ≠ 0
  ·rw [if_pos h2] at h; exact absurd h h2
  rcases Nat.lt_succ_iff_lt_or_eq.1 hj with h3 | h3
  ·exact firstI_none n h1' j h3
  subst h3; simpa using h2
structure Chk (s : List Attr) (l : List Cla) : Prop where
 sch : schemaErr s = 0
 len : l.length <= 100
 good : ∀ c ∈ l, okTree c.cond /\ nodesErr s l c.cond = 0 /\ refExprB c.cond = true /\ nameB c.name = true /\ attrAt s c.name = none
 uniq : ∀ i j, i < l.length -> j < i -> (l.getD j cla0).name ≠ (l.getD i cla0).name
 exp : ∀ c ∈ l, expanded l c.cond <= 2000
theorem getD_clK {l : List Cla} {i : Nat} (h : i < l.length) : l.getD i cla0 = l[i] := by simp [h]
theorem findAt_le {l : List Cla} {x : BA} {j : Nat} (hj : j < l.length) (h : (l.getD j cla0).name = x) : (findAt l x).getD 0 <= j := by
 unfold findAt
 cases hf : l.findIdx? (fun c => decide (c.name = x)) with
 | none =>
  rw [List.findIdx?_eq_none_iff] at hf
  have := hf _ (List.getElem_mem hj)
  rw [getD_clK hj] at h
  simp [h] at this
 | some k =>
  rw [List.findIdx?_eq_some_iff_getElem] at hf
  obtain ⟨hk, _, h2⟩ := hf
  simp only [Option.getD_some]
  rcases Nat.lt_or_ge j k with h3 | h3
  ·have := h2 j h3
   rw [getD_clK hj] at h
   simp [h] at this
  exact h3
theorem chk_of {s : List Attr} {l : List Cla} (h : (clausesErr s l).2 = 0) : Chk s l := by
 unfold clausesErr at h
 by_cases h1 : schemaErr s ≠ 0
 ·rw [if_pos h1] at h; exact absurd h h1
 rw [if_neg h1] at h
 by_cases h2 : 100 < l.length
 ·rw [if_pos h2] at h; simp at h
 rw [if_neg h2] at h
 by_cases h3 : (firstI (claErr s l) l.length).2 ≠ 0
 ·rw [if_pos h3] at h; exact absurd h h3
 rw [if_neg h3] at h
 by_cases h4 : ¬ Sorts (l.map Cla.dfn)
 ·rw [if_pos h4] at h; simp at h
 rw [if_neg h4] at h
 have hc := firstI_none l.length (by simpa using h3)
 have hg := firstI_none l.length h
 have hcl : ∀ i, i < l.length -> clauseB (l.getD i cla0) = true /\ i <= (findAt l (l.getD i cla0).name).getD 0 /\ attrAt s (l.getD i cla0).name = none /\ nodesErr s l (l.getD i cla0).cond = 0 := by
  intro i hi
  have := hc i hi
  unfold claErr at this
  by_cases g1 : clauseB (l.getD i cla0) = false
  ·rw [if_pos g1] at this; cases this
  rw [if_neg g1] at this
  by_cases g2 : (findAt l (l.getD i cla0).name).getD 0 < i
  ·rw [if_pos g2] at this; cases this
  rw [if_neg g2] at this
  by_cases g3 : (attrAt s (l.getD i cla0).name).isSome
  ·rw [if_pos g3] at this; cases this
  rw [if_neg g3] at this
  by_cases g4 : nodesErr s l (l.getD i cla0).cond ≠ 0
  ·rw [if_pos g4] at this; exact absurd this g4
  exact ⟨by simpa using g1, by omega, by simpa using g3, by simpa using g4⟩
 refine ⟨by simpa using h1, by omega, fun c hm => ?_, fun i j hi hj e => ?_, fun c hm => ?_⟩
 ·obtain ⟨i, hi, rfl⟩ := List.getElem_of_mem hm
  obtain ⟨q1, _, q3, q4⟩ := hcl i hi
  rw [getD_clK hi] at q1 q3 q4
  simp only [clauseB, Bool.and_eq_true] at q1
  obtain ⟨⟨⟨⟨_, q5⟩, q6⟩, _⟩, _⟩ := q1
  refine ⟨?_, q4, q6, q5, q3⟩
  rw [refExprB, Bool.and_eq_true, Bool.and_eq_true] at q6
  exact (nodes_ok _).1 q6.2
 ·obtain ⟨_, q2, _, _⟩ := hcl i hi
  have := findAt_le (l := l) (x := (l.getD i cla0).name) (j := j) (by omega) e
  omega
 obtain ⟨i, hi, rfl⟩ := List.getElem_of_mem hm
 have := hg i hi
 unfold claLarge at this
 rw [getD_clK hi] at this
 by_cases g : 2000 < expanded l l[i].cond \/ backsLarge l l[i].unl = true
 ·rw [if_pos g] at this; cases this
 simp only [not_or] at g; omega
theorem attrAt_at {s : List Attr} {x : BA} {i : Nat} (h : attrAt s x = some i) : i < s.length /\ (s.getD i attr0).name = x := by
 unfold attrAt at h
 rw [List.findIdx?_eq_some_iff_getElem] at h
 obtain ⟨hi, h1, _⟩ := h
 exact ⟨hi, by simpa [hi] using h1⟩
theorem defAt_atK {l : List Cla} {x : BA} {d : Nat} (h : defAt l x = some d) : d < l.length /\ (l.getD d cla0).kind = 1 /\ (l.getD d cla0).name = x := by
 unfold defAt at h
 rw [List.findIdx?_eq_some_iff_getElem] at h
 obtain ⟨hi, h1, _⟩ := h
 simp only [Bool.and_eq_true, beq_iff_eq, decide_eq_true_eq] at h1
 rw [getD_clK hi]
 exact ⟨hi, h1.1, h1.2⟩
theorem Chk.apart {s : List Attr} {l : List Cla} (h : Chk s l) {x : BA} {d : Nat} (hd : defAt l x = some d) : attrAt s x = none := by
 obtain ⟨h1, _, h3⟩ := defAt_atK hd
 rw [getD_clK h1] at h3
 rw [<- h3]
 exact (h.good _ (List.getElem_mem h1)).2.2.2.2
theorem Chk.cond {s : List Attr} {l : List Cla} (h : Chk s l) {d : Nat} (hd : d < l.length) : okTree (l.getD d cla0).cond /\ nodesErr s l (l.getD d cla0).cond = 0 /\ (l.getD d cla0).cond.size <= 300 := by
 rw [getD_clK hd]
 obtain ⟨q1, q2, q3, _, _⟩ := h.good _ (List.getElem_mem hd)
 refine ⟨q1, q2, ?_⟩
 rw [refExprB, Bool.and_eq_true, Bool.and_eq_true] at q3
 have := q3.1.2
 simp only [decide_eq_true_eq] at this
 unfold refSize at this
 omega
theorem schema_attrs {s : List Attr} (h : schemaErr s = 0) : 1 <= s.length /\ s.length <= 6 /\ ∀ i (hi : i < s.length), attrErr s[i] = 0 /\ nameB s[i].name = true := by
 unfold schemaErr at h
 by_cases h1 : s.length = 0
 ·rw [if_pos h1] at h; cases h
 rw [if_neg h1] at h
 by_cases h2 : 6 < s.length
 ·rw [if_pos h2] at h; cases h
 rw [if_neg h2] at h
 refine ⟨by omega, by omega, fun i hi => ?_⟩
 have := firstI_none s.length h i hi
 unfold attrIErr at this
 have e1 : s.getD i attr0 = s[i] := by simp [hi]
 rw [e1] at this
 by_cases g1 : nameB s[i].name = false
 ·rw [if_pos g1] at this; cases this
 rw [if_neg g1] at this
 by_cases g2 : (s.take i).any (fun b => decide (b.name = s[i].name)) = true
 ·rw [if_pos g2] at this; cases this
 rw [if_neg g2] at this
 exact ⟨this, by simpa using g1⟩
theorem attr_dom {a : Attr} (h : attrErr a = 0) : (domB a).1 <= (domB a).2 /\ -1000000000 <= (domB a).1 /\ (domB a).2 <= 1000000000 /\ (a.kind = 1 \/ a.kind = 2 \/ a.kind = 3) /\ (a.kind = 1 -> 1 <= a.words.length /\ a.words.length <= 12) := by
 unfold attrErr at h
 unfold domB
 by_cases h1 : a.kind = 1
 ·rw [if_pos h1] at h ⊢
  by_cases g1 : a.lo ≠ 0 \/ a.hi ≠ 0
  ·rw [if_pos g1] at h; cases h
  rw [if_neg g1] at h
  by_cases g2 : a.words.length = 0
  ·rw [if_pos g2] at h; cases h
  rw [if_neg g2] at h
  by_cases g3 : 12 < a.words.length
  ·rw [if_pos g3] at h; cases h
  exact ⟨by simp only; omega, by simp only; omega, by simp only; omega, Or.inl h1, fun _ => ⟨by omega, by omega⟩⟩
 rw [if_neg h1] at h ⊢
 by_cases h2 : a.kind = 2
 ·rw [if_pos h2] at h ⊢
  by_cases g1 : 0 < a.words.length
  ·rw [if_pos g1] at h; cases h
  rw [if_neg g1] at h
  by_cases g2 : a.hi < a.lo \/ farB a.lo = true \/ farB a.hi = true
  ·rw [if_pos g2] at h; cases h
  simp only [not_or, farB, numberB, Bool.not_eq_true', decide_eq_false_iff_not, Decidable.not_not] at g2
  exact ⟨by simp only; omega, by simp only; omega, by simp only; omega, Or.inr (Or.inl h2), fun e => absurd e h1⟩
 rw [if_neg h2] at h ⊢
 by_cases h3 : a.kind = 3
 ·exact ⟨by decide, by decide, by decide, Or.inr (Or.inr h3), fun e => absurd e h1⟩
 rw [if_neg h3] at h; cases h
theorem nameB_le {x : BA} (h : nameB x = true) : x.size <= 16 := by
 simp only [nameB, wordB, Bool.and_eq_true, decide_eq_true_eq] at h
 exact h.1.1.1.1.2
theorem expL_mem {D : BA -> Option Nat} : (l : List Ex) -> (k : Nat) -> (hk : k < l.length) -> expE D l[k] <= expL D l
 | [], k, hk => by simp at hk
 | e :: r, 0, _ => by simp [expL]
 | e :: r, k + 1, hk => by
  have := expL_mem (D := D) r k (by simpa using hk)
  simp only [expL, List.getElem_cons_succ]
  omega
theorem expE_arg {D : BA -> Option Nat} {e : Ex} (h : expE D e <= 2000) (k : Nat) (hk : k < e.args.length) : expE D e.args[k] <= 2000 := by
 rw [expE_eq] at h
 have := expL_mem (D := D) e.args k hk
 omega
theorem expE_hd {D : BA -> Option Nat} {e : Ex} (h : expE D e <= 2000) (h3 : e.op = 3) {n : Nat} (hn : D e.name = some n) : n <= 2000 := by
 rw [expE_eq, if_pos h3, hn] at h
 simp only [Option.getD_some] at h
 omega
theorem nodesL_at {s : List Attr} {l : List Cla} : (r : List Ex) -> nodesErrL s l r = 0 -> ∀ k (hk : k < r.length), nodesErr s l r[k] = 0
 | [], _, k, hk => by simp at hk
 | e :: r, h, k, hk => by
  rw [nodesErrL] at h
  by_cases h1 : nodesErr s l e ≠ 0
  ·rw [if_pos h1] at h; exact absurd h h1
  rw [if_neg h1] at h
  cases k with
  | zero => simpa using h1
  | succ k => simpa using nodesL_at r h k (by simpa using hk)
theorem nodes_parts {s : List Attr} {l : List Cla} {e : Ex} (h : nodesErr s l e = 0) : nodeErr s l e.op e.name e.words e.lo e.hi = 0 /\ ∀ k (hk : k < e.args.length), nodesErr s l e.args[k] = 0 := by
 rw [nodesErr_eq] at h
 by_cases h1 : nodeErr s l e.op e.name e.words e.lo e.hi ≠ 0
 ·rw [if_pos h1] at h; exact absurd h h1
 rw [if_neg h1] at h
 exact ⟨by simpa using h1, nodesL_at _ h⟩
theorem node_ways {s : List Attr} {l : List Cla} {e : Ex} (ht : okTree e) (h : nodesErr s l e = 0) : (e.op = 1) \/ (e.op = 2) \/
  (e.op = 3 /\ ∃ i, attrAt s e.name = some i /\ (s.getD i attr0).kind = 3) \/ (e.op = 3 /\ attrAt s e.name = none /\ ∃ d, defAt l e.name = some d) \/
  (e.op = 4 /\ ∃ i, attrAt s e.name = some i /\ (s.getD i attr0).kind = 1) \/ (e.op = 5 /\ ∃ i, attrAt s e.name = some i /\ (s.getD i attr0).kind = 2) \/
  (e.op = 6 /\ e.args.length = 1) \/ e.op = 7 \/ e.op = 8 := by
 have h0 := (nodes_parts h).1
 rcases (okTree_parts ht).1 with ⟨h1, -⟩ | ⟨h1, -⟩ | ⟨h1, -⟩ | ⟨h1, -⟩ | ⟨h1, -⟩ | ⟨h1, -, -, -, -, h2⟩ | ⟨h1 | h1, -⟩
 ·exact Or.inl h1
 ·exact Or.inr (Or.inl h1)
 ·unfold nodeErr at h0
  rw [if_pos h1] at h0
  cases ha : attrAt s e.name with
  | some i =>
   rw [ha] at h0
   simp only at h0
   by_cases hk : (s.getD i attr0).kind ≠ 3
   ·rw [if_pos hk] at h0; cases h0
   exact Or.inr (Or.inr (Or.inl ⟨h1, i, rfl, by simpa using hk⟩))
  | none =>
   rw [ha] at h0
   simp only at h0
   cases hd : defAt l e.name with
   | some d => exact Or.inr (Or.inr (Or.inr (Or.inl ⟨h1, rfl, d, rfl⟩)))
   | none => rw [hd] at h0; simp at h0
 ·unfold nodeErr at h0
  rw [if_neg (by omega), if_pos h1] at h0
  cases ha : attrAt s e.name with
  | some i =>
   rw [ha] at h0
   simp only at h0
   by_cases hk : (s.getD i attr0).kind ≠ 1
   ·rw [if_pos hk] at h0; cases h0
   exact Or.inr (Or.inr (Or.inr (Or.inr (Or.inl ⟨h1, i, rfl, by simpa using hk⟩))))
  | none => rw [ha] at h0; cases h0
 ·unfold nodeErr at h0
  rw [if_neg (by omega), if_neg (by omega), if_pos h1] at h0
  cases ha : attrAt s e.name with
  | some i =>
   rw [ha] at h0
   simp only at h0
   by_cases hk : (s.getD i attr0).kind ≠ 2
   ·rw [if_pos hk] at h0; cases h0
   exact Or.inr (Or.inr (Or.inr (Or.inr (Or.inr (Or.inl ⟨h1, i, rfl, by simpa using hk⟩)))))
  | none => rw [ha] at h0; cases h0
 ·exact Or.inr (Or.inr (Or.inr (Or.inr (Or.inr (Or.inr (Or.inl ⟨h1, h2⟩))))))
 ·exact Or.inr (Or.inr (Or.inr (Or.inr (Or.inr (Or.inr (Or.inr (Or.inl h1)))))))
 exact Or.inr (Or.inr (Or.inr (Or.inr (Or.inr (Or.inr (Or.inr (Or.inr h1)))))))
open Go.RowKit
def wordsErr (l : ZB) : Int := if l.length = 0 then 19 else if 12 < l.length then 4 else if l.all nameB = false then 6 else if decide l.Nodup = false then 8 else 0
theorem attrErr_word (a : Attr) (h : a.kind = 1) : attrErr a = if a.lo ≠ 0 \/ a.hi ≠ 0 then 20 else wordsErr a.words := by
 unfold attrErr wordsErr; rw [if_pos h]
theorem nodup_snoc {l : ZB} {k : Nat} (hk : k < l.length) (h : (l.take k).Nodup) (h2 : l[k] ∉ l.take k) : (l.take (k + 1)).Nodup := by
 rw [List.take_succ_eq_append_getElem hk, List.nodup_append]
 exact ⟨h, by simp, fun a ha b hb => by simp at hb; subst hb; intro e; subst e; exact h2 ha⟩
theorem not_nodup {l : ZB} {k : Nat} (hk : k < l.length) (h : l[k] ∈ l.take k) : ¬ l.Nodup := by
 intro h4
 have : (l.take (k + 1)).Nodup := h4.sublist (List.take_sublist _ _)
 rw [List.take_succ_eq_append_getElem hk, List.nodup_append] at this
 exact absurd rfl (this.2.2 _ h _ (by simp))
theorem swords_calls (l : ZB) (a : OA) (n c : Nat) (w : World) (hl : IsStrs w l a n c) (hn2 : n <= 1000000000000000) (hsz : ∀ x ∈ l, x.size <= 1000000000000000) :
  Calls Tryz.prog 135 #[.slice a n c] w (Gives (.int .i64 (wordsErr l)) w) := by
 have HL := hI hl
 have HZ := hI hsz
 have HN := hI hl.1
 have hnc := hl.2.1
 clear hl hsz
 by_cases h0 : n = 0
 ·have H := hI (show wordsErr l = 19 by unfold wordsErr; rw [if_pos (by have := HN.out; omega)])
  have hz : ((n : Int) == 0) = true := by simp [h0]
  clear h0
  go_enter Tryz.func135, Tryz.ntmps135
  go_wp2_with fail
  go_ret
  exact gives_int (by rw [H.out])
 have hz : ((n : Int) == 0) = false := by simp [h0]
 by_cases h12 : 12 < n
 ·have H := hI (show wordsErr l = 4 by unfold wordsErr; rw [if_neg (by have := HN.out; omega), if_pos (by have := HN.out; omega)])
  have t12 : decide ((12 : Int) < (n : Int)) = true := decide_eq_true (by omega)
  go_enter Tryz.func135, Tryz.ntmps135
  go_wp2_with fail
  go_ret
  exact gives_int (by rw [H.out])
 have t12 : decide ((12 : Int) < (n : Int)) = false := decide_eq_false (by omega)
 have HE := hI (show wordsErr l = if l.all nameB = false then 6 else if decide l.Nodup = false then 8 else 0 by unfold wordsErr; rw [if_neg (by have := HN.out; omega), if_neg (by have := HN.out; omega)])
 obtain ⟨E, hE⟩ : ∃ E, E = wordsErr l := ⟨_, rfl⟩
 rw [<- hE] at HE ⊢
 clear hE
 go_enter Tryz.func135, Tryz.ntmps135
 go_wp2_with fail
 go_loop [15] (fun t => ∃ k : Nat, t = .int .i64 k /\ k <= n /\ ∀ j (h : j < l.length), j < k -> nameB l[j] = true) (fun t => n - (intOf t).toNat)
 case atStart => exact ⟨0, rfl, by omega, fun j _ h => by omega⟩
 case round =>
  obtain ⟨k, rfl, hk, hall⟩ := hrel
  have HA := hI hall
  clear hall
  by_cases hlt : k < n
  ·have hlt' : k < l.length := by have := HN.out; omega
   have t1 : decide ((k : Int) < (n : Int)) = true := decide_eq_true (by omega)
   have hsk := HZ.out _ (List.getElem_mem hlt')
   obtain ⟨b, off, rfl, hcell⟩ := HL.out.2.2.2 k hlt'
   cases h3 : nameB l[k]
   ·have H := hI (show E = 6 by
     rw [HE.out, if_pos]
     rw [List.all_eq_false]
     exact ⟨l[k], List.getElem_mem hlt', by rw [h3]; simp⟩)
    have H3 := hI h3
    clear h3
    go_wp2_with fail
    refine (name_calls _ _ hsk).mono ?_
    rintro e w' ⟨rfl, rfl⟩
    rw [H3.out]
    go_wp2_with fail
    go_ret
    exact gives_int (by rw [H.out])
   have H3 := hI h3
   clear h3
   go_wp2_with fail
   refine (name_calls _ _ hsk).mono ?_
   rintro e w' ⟨rfl, rfl⟩
   rw [H3.out]
   go_wp2_with fail
   go_round
   case rel =>
    refine ⟨k + 1, by go_num, by omega, fun j hj hjk => ?_⟩
    by_cases e : j = k
    ·subst e; exact H3.out
    exact HA.out j hj (by omega)
   case measure => simp [intOf]; omega
  have t1 : decide ((k : Int) < (n : Int)) = false := decide_eq_false (by omega)
  have HE2 := hI (show E = if decide l.Nodup = false then 8 else 0 by
   rw [HE.out, if_neg]
   rw [Bool.not_eq_false, List.all_eq_true]
   intro x hx
   obtain ⟨j, hj, rfl⟩ := List.mem_iff_getElem.1 hx
   exact HA.out j hj (by have := HN.out; omega))
  clear HE HA
  go_wp2_with fail
  go_loop [25] (fun t => ∃ k : Nat, t = .int .i64 k /\ k <= n /\ (l.take k).Nodup) (fun t => n - (intOf t).toNat)
  case atStart => exact ⟨0, rfl, by omega, by simp⟩
  case round =>
   obtain ⟨m, rfl, hm, hno⟩ := hrel
   have HNO := hI hno
   clear hno
   by_cases hmt : m < n
   ·have hmt' : m < l.length := by have := HN.out; omega
    have t2 : decide ((m : Int) < (n : Int)) = true := decide_eq_true (by omega)
    have HT := hI (HL.out.take hm)
    obtain ⟨b, off, rfl, hcell⟩ := HL.out.2.2.2 m hmt'
    by_cases h4 : l[m] ∈ l.take m
    ·have H := hI (show E = 8 by rw [HE2.out, if_pos (by simpa using not_nodup hmt' h4)])
     have H4 := hI h4
     clear h4
     go_wp2_with fail
     refine (contains_calls _ _ _ _ _ _ (by omega) HT.out).mono ?_
     rintro e w' ⟨rfl, rfl⟩
     rw [decide_eq_true H4.out]
     go_wp2_with fail
     go_ret
     exact gives_int (by rw [H.out])
    have H4 := hI h4
    clear h4
    go_wp2_with fail
    refine (contains_calls _ _ _ _ _ _ (by omega) HT.out).mono ?_
    rintro e w' ⟨rfl, rfl⟩
    rw [decide_eq_false H4.out]
    go_wp2_with fail
    go_round
    case rel => exact ⟨m + 1, by go_num, by omega, nodup_snoc hmt' HNO.out H4.out⟩
    case measure => simp [intOf]; omega
   have t2 : decide ((m : Int) < (n : Int)) = false := decide_eq_false (by omega)
   have H := hI (show E = 0 by
    have h5 := HNO.out
    rw [List.take_of_length_le (by have := HN.out; omega)] at h5
    rw [HE2.out, if_neg (by simpa using h5)])
   go_wp2_with fail
   go_ret
   exact gives_int (by rw [H.out])
theorem numberB_iff (n : Int) : numberB n = false ↔ n < -1000000000 \/ 1000000000 < n := by simp [numberB]; omega
theorem sattr_calls (x : Attr) (aw : OA) (nw cw : Nat) (w : World) (hw : IsStrs w x.words aw nw cw) (hf : x.fits) :
  Calls Tryz.prog 105 #[.agg #[.string x.name, .int .i64 x.kind, .slice aw nw cw, .int .i64 x.lo, .int .i64 x.hi]] w (GivesE (.int .i64 (attrErr x)) w) := by
 have HW := hI hw
 have HF := hI hf
 have hnw := hw.1
 have hnl : nw <= 1000000000000000 := by rw [hnw]; exact hf.2.1
 have HNW := hI hnw
 clear hw hf hnw
 obtain ⟨name, kind, words, lo, hi⟩ := x
 simp only at *
 obtain ⟨E, hE⟩ : ∃ E, E = attrErr ⟨name, kind, words, lo, hi⟩ := ⟨_, rfl⟩
 rw [<- hE]
 by_cases h1 : kind = 1
 ·subst h1
  rw [attrErr_word _ rfl] at hE
  simp only at hE
  have HE := hI hE
  clear hE
  have HWC := hI (swords_calls words aw nw cw (w.alloc (.cells #[.string name, .int .i64 1, .slice aw nw cw, .int .i64 lo, .int .i64 hi] 101)) (HW.out.ext ((Ext.refl w).alloc _)) hnl HF.out.2.2)
  by_cases hlo : lo = 0
  ·have t1 : (lo != 0) = false := by simp [hlo]
   by_cases hhi : hi = 0
   ·have t2 : (hi != 0) = false := by simp [hhi]
    have HQ := hI (show E = wordsErr words by rw [HE.out, if_neg (by simp [hlo, hhi])])
    clear HE hlo hhi
    go_enter Tryz.func105, Tryz.ntmps105
    go_wp2_with fail
    refine HWC.out.mono ?_
    rintro e w' ⟨rfl, rfl⟩
    go_wp2_with fail
    go_ret
    exact givesE_of (by rw [HQ.out]) ((Ext.refl w).alloc _)
   have t2 : (hi != 0) = true := by simp [hhi]
   have HQ := hI (show E = 20 by rw [HE.out, if_pos (Or.inr hhi)])
   clear HE hlo hhi
   go_enter Tryz.func105, Tryz.ntmps105
   go_wp2_with fail
   go_ret
   exact givesE_of (by rw [HQ.out]) ((Ext.refl w).alloc _)
  have t1 : (lo != 0) = true := by simp [hlo]
  have HQ := hI (show E = 20 by rw [HE.out, if_pos (Or.inl hlo)])
  clear HE hlo
  go_enter Tryz.func105, Tryz.ntmps105
  go_wp2_with fail
  go_ret
  exact givesE_of (by rw [HQ.out]) ((Ext.refl w).alloc _)
 have e1 : (kind == 1) = false := by simp [h1]
 by_cases h2 : kind = 2
 ·subst h2
  have HE := hI (show E = if 0 < nw then 20 else if hi < lo \/ (lo < -1000000000 \/ 1000000000 < lo) \/ (hi < -1000000000 \/ 1000000000 < hi) then 1 else 0 by
   rw [hE]
   have k1 := numberB_iff lo
   have k2 := numberB_iff hi
   simp only [attrErr, farB, Bool.not_eq_true', k1, k2]
   rw [if_neg (by omega), if_pos trivial, <- HNW.out])
  clear hE
  go_enter Tryz.func105, Tryz.ntmps105
  go_wp2_with fail
  all_goals (go_ret; exact givesE_of (by rw [HE.out]; simp_all <;> omega) ((Ext.refl w).alloc _))
 have e2 : (kind == 2) = false := by simp [h2]
 by_cases h3 : kind = 3
 ·subst h3
  have HE := hI (show E = if 0 < nw \/ lo ≠ 0 \/ hi ≠ 0 then 20 else 0 by
   rw [hE]
   simp only [attrErr]
   rw [if_neg (by omega), if_neg (by omega), if_pos trivial, <- HNW.out])
  clear hE
  go_enter Tryz.func105, Tryz.ntmps105
  go_wp2_with fail
  all_goals (go_ret; exact givesE_of (by rw [HE.out]; simp_all <;> omega) ((Ext.refl w).alloc _))
 have e3 : (kind == 3) = false := by simp [h3]
 have HE := hI (show E = 11 by
  rw [hE]
  simp only [attrErr]
  rw [if_neg h1, if_neg h2, if_neg h3])
 clear hE
 go_enter Tryz.func105, Tryz.ntmps105
 go_wp2_with fail
 go_ret
 exact givesE_of (by rw [HE.out]) ((Ext.refl w).alloc _)
theorem attr_dup {s : List Attr} {k : Nat} (hk : k < s.length) : ∃ f, attrAt s s[k].name = some f /\ f <= k /\ ((s.take k).any (fun b => decide (b.name = s[k].name)) = decide (f < k)) := by
 cases h : attrAt s s[k].name with
 | none =>
  unfold attrAt at h
  rw [List.findIdx?_eq_none_iff] at h
  have := h s[k] (List.getElem_mem hk)
  simp at this
 | some f =>
  unfold attrAt at h
  rw [List.findIdx?_eq_some_iff_getElem] at h
  obtain ⟨hf, h1, h2⟩ := h
  have hfk : f <= k := by
   rcases Nat.lt_or_ge k f with h3 | h3
   ·have := h2 k h3
    simp at this
   exact h3
  refine ⟨f, rfl, hfk, ?_⟩
  by_cases h3 : f < k
  ·rw [decide_eq_true h3, List.any_eq_true]
   exact ⟨s[f], List.mem_iff_getElem.2 ⟨f, by simp; omega, by simp⟩, h1⟩
  rw [decide_eq_false h3, List.any_eq_false]
  intro y hy
  obtain ⟨j, hj, rfl⟩ := List.mem_iff_getElem.1 hy
  have hjk : j < k := by simp at hj; omega
  have := h2 j (by omega)
  simpa using this
theorem sValidate_calls (s : List Attr) (v : Value) (w : World) (hs : IsSchema w s v) (hf : ∀ x ∈ s, x.fits) (hl : s.length <= 1000000000000000) :
  Calls Tryz.prog 77 #[v] w (GivesE (.int .i64 (schemaErr s)) w) := by
 obtain ⟨a, n, c, rfl, hn, hnc, hoa, hat⟩ := hs.parts
 have HS := hI hs
 have HN := hI hn
 have HF := hI hf
 have hn2 : n <= 1000000000000000 := by omega
 clear hs hn hat hnc hoa hf
 by_cases h0 : n = 0
 ·have t0 : ((n : Int) == 0) = true := by simp [h0]
  have HE := hI (show schemaErr s = 19 by unfold schemaErr; rw [<- HN.out, if_pos h0])
  clear h0
  go_enter Tryz.func77, Tryz.ntmps77
  go_wp2_with fail
  go_ret
  exact givesE_of (by rw [HE.out]) ((Ext.refl w).alloc _)
 have t0 : ((n : Int) == 0) = false := by simp [h0]
 by_cases h6 : 6 < n
 ·have t6 : decide ((6 : Int) < (n : Int)) = true := decide_eq_true (by omega)
  have HE := hI (show schemaErr s = 4 by unfold schemaErr; rw [<- HN.out, if_neg h0, if_pos h6])
  go_enter Tryz.func77, Tryz.ntmps77
  go_wp2_with fail
  go_ret
  exact givesE_of (by rw [HE.out]) ((Ext.refl w).alloc _)
 have t6 : decide ((6 : Int) < (n : Int)) = false := decide_eq_false (by omega)
 have HE := hI (show schemaErr s = (firstI (attrIErr s) n).2 by unfold schemaErr; rw [<- HN.out, if_neg h0, if_neg h6])
 go_enter Tryz.func77, Tryz.ntmps77
 go_wp2_with fail
 go_loopw [19] (SchI s n a c w) (fun t _ => n - (intOf t).toNat)
 case atStart => exact ⟨0, rfl, by omega, fun j h => by omega, alloc_new w _, (Ext.refl w).alloc _⟩
 case round =>
  obtain ⟨k, rfl, hk, hno, hbx, hx⟩ := hrel
  obtain ⟨wo, rfl⟩ : ∃ wo : World, wo = wr := ⟨_, rfl⟩
  have HNO := hI hno
  have HBX := hI hbx
  have HX := hI hx
  obtain ⟨bb0, bbf⟩ := blk1 hbx
  have hlt0 := blk_lt hbx
  clear hno hbx hx
  by_cases hkn : k < n
  ·have hks : k < s.length := by have := HN.out; omega
   obtain ⟨a', n', c', e', hx1, hx2, hx3, hat⟩ := (HS.out.ext HX.out).parts
   simp only [Value.agg.injEq, Array.mk.injEq, List.cons.injEq, Value.slice.injEq, and_true] at e'
   obtain ⟨rfl, rfl, rfl⟩ := e'
   clear hx1 hx2 hx3
   obtain ⟨b, off, rfl, aw, nw, cw, h0, h1, h2, h3, h4, h5⟩ := hat k hks
   have H5 := hI h5
   have t1 : decide ((k : Int) < (n : Int)) = true := decide_eq_true (by omega)
   have hfk := HF.out _ (List.getElem_mem hks)
   have hfn := hfk.1
   have HFK := hI hfk
   obtain ⟨f, hfa, hfle, hfany⟩ := attr_dup hks
   have HAI := hI (show attrIErr s k = if nameB s[k].name = false then 6 else if decide (f < k) = true then 8 else attrErr s[k] by unfold attrIErr; rw [getD_attr hks, hfany])
   have HFA := hI hfa
   clear hat h5 hfk hfa hfany
   obtain ⟨wa, hwa⟩ : ∃ wa, wa = wo.alloc (.cells #[.string s[k].name, .int .i64 s[k].kind, .slice aw nw cw, .int .i64 s[k].lo, .int .i64 s[k].hi] 101) := ⟨_, rfl⟩
   have hxa : Ext wo wa := by rw [hwa]; exact (Ext.refl _).alloc _
   have hba : wa.heap[wo.heap.size]? = some (.cells #[.string s[k].name, .int .i64 s[k].kind, .slice aw nw cw, .int .i64 s[k].lo, .int .i64 s[k].hi] 101 (0, 0)) := by rw [hwa]; exact alloc_new wo _
   have HXA := hI hxa
   have HBA := hI hba
   have HB2 := hI (hxa.blk HBX.out)
   clear hxa hba
   cases hnb : nameB s[k].name
   ·have HNB := hI hnb
    have HR := hI (show schemaErr s = 6 by
     rw [HE.out, firstI_hit (k := k) (by rw [HAI.out, if_pos hnb]; omega) HNO.out n hkn]
     show attrIErr s k = 6
     rw [HAI.out, if_pos hnb])
    clear hnb HE
    go_wp2_with fail
    rw [<- hwa]
    clear hwa
    refine (name_calls _ _ hfn).mono ?_
    rintro e w' ⟨rfl, rfl⟩
    rw [HNB.out]
    go_wp2_with fail
    go_ret
    exact givesE_of (by rw [HR.out]) (HX.out.trans HXA.out)
   have HNB := hI hnb
   rw [hnb] at HAI
   simp only [Bool.true_eq_false, if_false] at HAI
   clear hnb
   go_wp2_with fail
   rw [<- hwa]
   clear hwa h0 h1 h2 h3 h4 bb0 bbf
   refine (name_calls _ _ hfn).mono ?_
   rintro e w' ⟨rfl, rfl⟩
   rw [HNB.out]
   obtain ⟨d0, df⟩ := blk1 HB2.out
   obtain ⟨a0, a1, a2, a3, a4, af⟩ := blk5b HBA.out
   have hlta := blk_lt HBA.out
   go_wp2_with fail
   refine (sIndex_calls s _ s[k].name _ (HS.out.ext (HX.out.trans HXA.out)) hl).mono ?_
   rintro e w5 ⟨rfl, hx5⟩
   rw [HFA.out, show optV (some f) = .tuple #[.int .i64 f, .bool true] from rfl]
   have HX5 := hI ((HX.out.trans HXA.out).trans hx5)
   have HB5 := hI (hx5.blk HB2.out)
   have HBA5 := hI (hx5.blk HBA.out)
   have H55 := hI (H5.out.ext (HXA.out.trans hx5))
   clear hx5 d0 df a0 a1 a2 a3 a4 af hlta
   obtain ⟨a0, a1, a2, a3, a4, af⟩ := blk5b HBA5.out
   have hlta := blk_lt HBA5.out
   by_cases hfk : f < k
   ·have t2 : decide ((f : Int) < (k : Int)) = true := decide_eq_true (by omega)
    have HR := hI (show schemaErr s = 8 by
     have h8 : attrIErr s k = 8 := by rw [HAI.out, if_pos (by simpa using hfk)]
     rw [HE.out, firstI_hit (k := k) (by rw [h8]; omega) HNO.out n hkn]
     exact h8)
    clear HE
    go_wp2_with fail
    go_ret
    exact givesE_of (by rw [HR.out]) HX5.out
   have t2 : decide ((f : Int) < (k : Int)) = false := decide_eq_false (by omega)
   have HAK := hI (show attrIErr s k = attrErr s[k] by rw [HAI.out, if_neg (by simpa using hfk)])
   go_wp2_with fail
   refine (sattr_calls s[k] aw nw cw _ H55.out HFK.out).mono ?_
   rintro e w' ⟨rfl, hx7⟩
   have HX7 := hI (HX5.out.trans hx7)
   have HB7 := hI (hx7.blk HB5.out)
   clear hx7 a0 a1 a2 a3 a4 af hlta
   by_cases hz : attrErr s[k] = 0
   ·have tz : (attrErr s[k] != 0) = false := by simp [hz]
    have HZ := hI hz
    clear hz
    go_wp2_with fail
    go_roundw
    case rel =>
     refine ⟨k + 1, by go_num, by omega, fun j hj => ?_, HB7.out, HX7.out⟩
     by_cases e : j = k
     ·subst e; rw [HAK.out]; exact HZ.out
     exact HNO.out j (by omega)
    case measure => simp [intOf]; omega
   have tz : (attrErr s[k] != 0) = true := by simp [hz]
   have HR := hI (show schemaErr s = attrErr s[k] by
    rw [HE.out, firstI_hit (k := k) (by rw [HAK.out]; exact hz) HNO.out n hkn]
    exact HAK.out)
   clear hz
   go_wp2_with fail
   go_ret
   exact givesE_of (by rw [HR.out]) HX7.out
  have t1 : decide ((k : Int) < (n : Int)) = false := decide_eq_false (by omega)
  have HR := hI (show schemaErr s = 0 by rw [HE.out, firstI_zero n fun j hj => HNO.out j (by omega)])
  go_wp2_with fail
  go_ret
  exact givesE_of (by rw [HR.out]) HX.out
def IsIntF (w : World) (f : ZI) (a : OA) (n : Nat) : Prop := n = f.length /\ ∀ i (h : i < f.length), ∃ b off, a = some ⟨b, off, none⟩ /\ w.cell? ⟨b, off + i, none⟩ = some (.int .i64 f[i])
theorem IsIntF.mono {w w' : World} {f : ZI} {a : OA} {n : Nat} (h : IsIntF w f a n) (hs : Sub w w') : IsIntF w' f a n := ⟨h.1, fun i hi => by obtain ⟨b, off, e, hc⟩ := h.2 i hi; exact ⟨b, off, e, hs _ _ hc⟩⟩
theorem IsIntF.ext {w w' : World} {f : ZI} {a : OA} {n : Nat} (h : IsIntF w f a n) (he : Ext w w') : IsIntF w' f a n := h.mono he.sub
def domV (a : Attr) : Value := .tuple #[.int .i64 (domB a).1, .int .i64 (domB a).2]
theorem factsAll_miss {s : List Attr} {f : ZI} {k : Nat} (hk : k < s.length) (hj : k < f.length) (h : f[k] < (domB s[k]).1 \/ (domB s[k]).2 < f[k]) : factsAll s f = false := by
 cases hf : factsAll s f
 ·rfl
 have := factsAll_at hf k hk hj
 omega
theorem factsAll_short {s : List Attr} {f : ZI} (h : f.length ≠ s.length) : factsAll s f = false := by
 cases hf : factsAll s f
 ·rfl
 exact absurd (factsAll_len hf) h
theorem fact_at {s : List Attr} {f : ZI} (h : factsAll s f = true) {i : Nat} (hi : i < s.length) : ∃ h2 : i < f.length, (domB s[i]).1 <= f[i] /\ f[i] <= (domB s[i]).2 := by
 have h2 : i < f.length := by rw [factsAll_len h]; exact hi
 exact ⟨h2, factsAll_at h i hi h2⟩
theorem AttrAt.five {w : World} {x : Attr} {b off : Nat} (h : AttrAt w x b off) : ∃ aw nw cw, IsStrs w x.words aw nw cw /\ ∀ W, Ext w W -> W.cell? ⟨b, off, none⟩ = some (.string x.name) /\ W.cell? ⟨b, off + 1, none⟩ = some (.int .i64 x.kind) /\ W.cell? ⟨b, off + 2, none⟩ = some (.slice aw nw cw) /\ W.cell? ⟨b, off + 3, none⟩ = some (.int .i64 x.lo) /\ W.cell? ⟨b, off + 4, none⟩ = some (.int .i64 x.hi) := by
 obtain ⟨aw, nw, cw, g0, g1, g2, g3, g4, g5⟩ := h
 exact ⟨aw, nw, cw, g5, fun W hW => ⟨hW.cell g0, hW.cell g1, hW.cell g2, hW.cell g3, hW.cell g4⟩⟩
theorem rDomain_calls (s : List Attr) (v : Value) (i : Nat) (w : World) (hs : IsSchema w s v) (hf : ∀ x ∈ s, x.fits) (hl : s.length <= 1000000000000000) (h0 : schemaErr s = 0) (hi : i < s.length) :
  Calls Tryz.prog 65 #[v, .int .i64 (i : Nat)] w (GivesE (domV s[i]) w) := by
 obtain ⟨q1, q2, q3⟩ := schema_attrs h0
 obtain ⟨-, -, -, hk, -⟩ := attr_dom (q3 i hi).1
 obtain ⟨a, n, c, rfl, hn, hnc, hoa, hat⟩ := hs.parts
 obtain ⟨b, off, rfl, hA⟩ := hat i hi
 obtain ⟨aw, nw, cw, hstr, hfive⟩ := hA.five
 have HG := hI hfive
 have HR := hI (fun W (hW : Ext w W) => rSchema_calls s _ W (hs.ext hW) hf hl)
 rw [h0] at HR
 have t0 : decide ((i : Int) < 0) = false := decide_eq_false (by omega)
 have t1 : decide ((n : Int) <= (i : Int)) = false := decide_eq_false (by omega)
 have hin : i < n := by omega
 have hn2 : n <= 1000000000000000 := by omega
 have hnw : nw <= 1000000000000000 := by rw [hstr.1]; exact (hf _ (List.getElem_mem hi)).2.1
 have HNW := hI hstr.1
 clear hs hn hnc hoa hf h0 q1 q2 q3 hat hA hstr hfive
 obtain ⟨x, hx⟩ : ∃ x, x = s[i] := ⟨_, rfl⟩
 rw [<- hx] at hk HG HNW ⊢
 clear hx
 obtain ⟨wa, hwa⟩ : ∃ wa, wa = w.alloc (.cells #[.slice (some ⟨b, off, none⟩) n c] 24) := ⟨_, rfl⟩
 have hxa : Ext w wa := by rw [hwa]; exact (Ext.refl _).alloc _
 have hb0 : wa.heap[w.heap.size]? = some (.cells #[.slice (some ⟨b, off, none⟩) n c] 24 (0, 0)) := by rw [hwa]; exact alloc_new w _
 have HXA := hI hxa
 have HB0 := hI hb0
 clear hxa hb0
 have hways : ((x.kind == 1) = true /\ domV x = .tuple #[.int .i64 0, .int .i64 ((nw : Int) - 1)]) \/ ((x.kind == 1) = false /\ (x.kind == 2) = true /\ domV x = .tuple #[.int .i64 x.lo, .int .i64 x.hi]) \/ ((x.kind == 1) = false /\ (x.kind == 2) = false /\ domV x = .tuple #[.int .i64 0, .int .i64 1]) := by
  unfold domV domB
  rcases hk with hk | hk | hk
  ·exact Or.inl ⟨by simp [hk], by rw [if_pos hk, HNW.out]⟩
  ·exact Or.inr (Or.inl ⟨by simp [hk], by simp [hk], by rw [if_neg (by omega), if_pos hk]⟩)
  exact Or.inr (Or.inr ⟨by simp [hk], by simp [hk], by rw [if_neg (by omega), if_neg (by omega)]⟩)
 clear hk
 rcases hways with ⟨e1, hv⟩ | ⟨e1, e2, hv⟩ | ⟨e1, e2, hv⟩
 all_goals
  have HV := hI hv
  clear hv
  obtain ⟨a0, af⟩ := blk1 HB0.out
  go_enter Tryz.func65, Tryz.ntmps65
  go_upto_region 1 with fail
  rw [<- hwa]
  clear hwa
  go_wp2_with fail
  refine (HR.out wa HXA.out).mono ?_
  rintro r w3 ⟨rfl, hx3⟩
  have HX3 := hI (HXA.out.trans hx3)
  obtain ⟨d0, df⟩ := blk1 (hx3.blk HB0.out)
  obtain ⟨g0, g1, g2, g3, g4⟩ := HG.out w3 HX3.out
  clear hx3 a0 af HB0
  go_wp2_with fail
  try go_quiet (fail)
  try go_wp2_with fail
  go_ret2
  exact ⟨by rw [HV.out]; rfl, by first | exact (HX3.out.alloc _).drewN _ | exact HX3.out.alloc _⟩
def FctI (s : List Attr) (f : ZI) (n : Nat) (bs : Nat) (o : Obj) (w : World) (t : Value) (wr : World) : Prop := ∃ k : Nat, t = .int .i64 k /\ k <= n /\ (∀ i (hi : i < s.length) (hj : i < f.length), i < k -> (domB s[i]).1 <= f[i] /\ f[i] <= (domB s[i]).2) /\ wr.heap[bs]? = some o /\ Ext w wr
theorem rFacts_calls (s : List Attr) (v : Value) (f : ZI) (fa : OA) (fn fc : Nat) (w : World) (hs : IsSchema w s v) (hf : ∀ x ∈ s, x.fits) (hl : s.length <= 1000000000000000) (hi : IsIntF w f fa fn) :
  Calls Tryz.prog 61 #[v, .slice fa fn fc] w (GivesE (.bool (factsB s f)) w) := by
 obtain ⟨a, n, c, rfl, hn, hnc, hoa, hat⟩ := hs.parts
 have HR := hI (fun W (hW : Ext w W) => rSchema_calls s _ W (hs.ext hW) hf hl)
 have HD := hI (fun (h0 : schemaErr s = 0) (i : Nat) (hi : i < s.length) W (hW : Ext w W) => rDomain_calls s _ i W (hs.ext hW) hf hl h0 hi)
 have HN := hI hn
 have HI := hI hi
 have HFN := hI hi.1
 obtain ⟨B, hB⟩ : ∃ B, B = factsB s f := ⟨_, rfl⟩
 rw [<- hB]
 have HB := hI (show B = (decide (schemaErr s = 0) && factsAll s f) from hB)
 clear hs hn hnc hoa hat hf hi hB
 obtain ⟨wa, hwa⟩ : ∃ wa, wa = w.alloc (.cells #[.slice a n c] 24) := ⟨_, rfl⟩
 have hxa : Ext w wa := by rw [hwa]; exact (Ext.refl _).alloc _
 have hb0 : wa.heap[w.heap.size]? = some (.cells #[.slice a n c] 24 (0, 0)) := by rw [hwa]; exact alloc_new w _
 have HXA := hI hxa
 have HB0 := hI hb0
 clear hxa hb0
 obtain ⟨E, hE⟩ : ∃ E, E = schemaErr s := ⟨_, rfl⟩
 rw [<- hE] at HR HB
 have HEE := hI hE
 clear hE
 obtain ⟨a0, af⟩ := blk1 HB0.out
 by_cases hz : E = 0
 case neg =>
  have tz : (E != 0) = true := by simp [hz]
  have HQ := hI (show B = false by rw [HB.out]; simp [hz])
  clear hz
  go_enter Tryz.func61, Tryz.ntmps61
  go_upto_region 1 with fail
  rw [<- hwa]
  clear hwa
  go_wp2_with fail
  refine (HR.out wa HXA.out).mono ?_
  rintro r w3 ⟨rfl, hx3⟩
  have HX3 := hI (HXA.out.trans hx3)
  clear hx3 a0 af HB0
  go_wp2_with fail
  go_ret
  exact givesE_bool (by rw [HQ.out]) HX3.out
 have tz : (E != 0) = false := by simp [hz]
 have HB2 := hI (show B = factsAll s f by rw [HB.out]; simp [hz])
 have HDD := hI (HD.out (by rw [<- HEE.out]; exact hz))
 have hs6 : n <= 6 := by have := (schema_attrs (s := s) (by rw [<- HEE.out]; exact hz)).2.1; rw [HN.out]; exact this
 clear hz HD HB HEE
 by_cases hlen : fn = n
 case neg =>
  have tl : ((fn : Int) != (n : Int)) = true := by simp; omega
  have HQ := hI (show B = false by rw [HB2.out]; exact factsAll_short (by rw [<- HN.out, <- HFN.out]; exact hlen))
  clear hlen
  go_enter Tryz.func61, Tryz.ntmps61
  go_upto_region 1 with fail
  rw [<- hwa]
  clear hwa
  go_wp2_with fail
  refine (HR.out wa HXA.out).mono ?_
  rintro r w3 ⟨rfl, hx3⟩
  have HX3 := hI (HXA.out.trans hx3)
  obtain ⟨d0, df⟩ := blk1 (hx3.blk HB0.out)
  clear hx3 a0 af HB0
  go_wp2_with fail
  go_ret
  exact givesE_bool (by rw [HQ.out]) HX3.out
 subst hlen
 have tl : ((fn : Int) != (fn : Int)) = false := by simp
 have HLN := hI (show f.length = s.length by rw [<- HN.out, <- HFN.out])
 go_enter Tryz.func61, Tryz.ntmps61
 go_upto_region 1 with fail
 rw [<- hwa]
 clear hwa
 go_wp2_with fail
 refine (HR.out wa HXA.out).mono ?_
 rintro r w3 ⟨rfl, hx3⟩
 have HX3 := hI (HXA.out.trans hx3)
 have HB3 := hI (hx3.blk HB0.out)
 obtain ⟨d0, df⟩ := blk1 (hx3.blk HB0.out)
 clear hx3 a0 af HB0
 go_wp2_with fail
 clear d0 df
 go_loopw [5] (FctI s f fn w.heap.size (.cells #[.slice a fn c] 24 (0, 0)) w) (fun t _ => fn - (intOf t).toNat)
 case atStart => exact ⟨0, rfl, by omega, fun i _ _ h => by omega, HB3.out, HX3.out⟩
 case round =>
  obtain ⟨k, rfl, hk, hno, hbx, hx⟩ := hrel
  have HNO := hI hno
  have HBX := hI hbx
  have HX := hI hx
  obtain ⟨d0, df⟩ := blk1 hbx
  clear hno hbx hx
  by_cases hkn : k < fn
  ·have t1 : decide ((k : Int) < (fn : Int)) = true := decide_eq_true (by omega)
   have hks : k < s.length := by rw [<- HN.out]; exact hkn
   have hkf : k < f.length := by rw [<- HFN.out]; exact hkn
   have HDK := hI (HDD.out k hks wr HX.out)
   unfold domV at HDK
   obtain ⟨fb, fo, rfl, hcell⟩ := HI.out.2 k hkf
   have HCF := hI hcell
   obtain ⟨z, hz⟩ : ∃ z, z = f[k] := ⟨_, rfl⟩
   obtain ⟨lo, hlo⟩ : ∃ lo, lo = (domB s[k]).1 := ⟨_, rfl⟩
   obtain ⟨hi, hhi⟩ : ∃ hi, hi = (domB s[k]).2 := ⟨_, rfl⟩
   rw [<- hz] at HCF
   rw [<- hlo, <- hhi] at HDK
   have HZ := hI hz
   have HLO := hI hlo
   have HHI := hI hhi
   clear hcell hz hlo hhi
   go_wp2_with fail
   refine HDK.out.mono ?_
   rintro r w5 ⟨rfl, hx5⟩
   have HX5 := hI (HX.out.trans hx5)
   have HB5 := hI (hx5.blk HBX.out)
   have g0 := HX5.out.cell HCF.out
   clear hx5 d0 df HDK
   by_cases h1 : z < lo \/ hi < z
   ·have HQ := hI (show B = false by rw [HB2.out]; exact factsAll_miss hks hkf (by rw [<- HZ.out, <- HLO.out, <- HHI.out]; exact h1))
    by_cases h2 : z < lo
    ·have t2 : decide (z < lo) = true := decide_eq_true h2
     clear h1 h2
     go_wp2_with fail
     go_ret
     exact givesE_bool (by rw [HQ.out]) HX5.out
    have t2 : decide (z < lo) = false := decide_eq_false h2
    have t3 : decide (hi < z) = true := decide_eq_true (by omega)
    clear h1 h2
    go_wp2_with fail
    go_ret
    exact givesE_bool (by rw [HQ.out]) HX5.out
   have t2 : decide (z < lo) = false := decide_eq_false (by omega)
   have t3 : decide (hi < z) = false := decide_eq_false (by omega)
   have HOK := hI (show (domB s[k]).1 <= f[k] /\ f[k] <= (domB s[k]).2 by rw [<- HZ.out, <- HLO.out, <- HHI.out]; omega)
   clear h1
   go_wp2_with fail
   go_roundw
   case rel =>
    refine ⟨k + 1, by go_num, by omega, fun i hi hj hik => ?_, HB5.out, HX5.out⟩
    by_cases e : i = k
    ·subst e; exact HOK.out
    exact HNO.out i hi hj (by omega)
   case measure => simp [intOf]; omega
  have t1 : decide ((k : Int) < (fn : Int)) = false := decide_eq_false (by omega)
  have HQ := hI (show B = true by rw [HB2.out]; exact factsAll_of HLN.out fun i hi hj => HNO.out i hi hj (by have := HFN.out; omega))
  go_wp2_with fail
  go_ret
  exact givesE_bool (by rw [HQ.out]) HX.out
theorem sdomain_calls (x : Attr) (aw : OA) (nw cw : Nat) (w : World) (hn : nw = x.words.length) (hnw : nw <= 1000000000000000) (hk : x.kind = 1 \/ x.kind = 2 \/ x.kind = 3) :
  Calls Tryz.prog 84 #[.agg #[.string x.name, .int .i64 x.kind, .slice aw nw cw, .int .i64 x.lo, .int .i64 x.hi]] w (GivesE (domV x) w) := by
 have hways : ((x.kind == 1) = true /\ domV x = .tuple #[.int .i64 0, .int .i64 ((nw : Int) - 1)]) \/ ((x.kind == 1) = false /\ (x.kind == 2) = true /\ domV x = .tuple #[.int .i64 x.lo, .int .i64 x.hi]) \/ ((x.kind == 1) = false /\ (x.kind == 2) = false /\ domV x = .tuple #[.int .i64 0, .int .i64 1]) := by
  unfold domV domB
  rcases hk with hk | hk | hk
  ·exact Or.inl ⟨by simp [hk], by rw [if_pos hk, hn]⟩
  ·exact Or.inr (Or.inl ⟨by simp [hk], by simp [hk], by rw [if_neg (by omega), if_pos hk]⟩)
  exact Or.inr (Or.inr ⟨by simp [hk], by simp [hk], by rw [if_neg (by omega), if_neg (by omega)]⟩)
 clear hk hn
 rcases hways with ⟨e1, hv⟩ | ⟨e1, e2, hv⟩ | ⟨e1, e2, hv⟩
 all_goals
  have HV := hI hv
  clear hv
  go_enter Tryz.func84, Tryz.ntmps84
  go_wp2_with fail
  try go_quiet (fail)
  try go_wp2_with fail
  go_ret2
  exact ⟨by rw [HV.out]; rfl, by first | exact ((Ext.refl w).alloc _).drewN _ | exact (Ext.refl w).alloc _⟩
theorem sValid_calls (s : List Attr) (v : Value) (f : ZI) (fa : OA) (fn fc : Nat) (w : World) (hs : IsSchema w s v) (hf : ∀ x ∈ s, x.fits) (hl : s.length <= 1000000000000000) (hi : IsIntF w f fa fn) (hfn : fn <= 1000000000000000) :
  Calls Tryz.prog 57 #[v, .slice fa fn fc] w (GivesE (.bool (factsB s f)) w) := by
 obtain ⟨a, n, c, rfl, hn, hnc, hoa, hat⟩ := hs.parts
 have HR := hI (fun W (hW : Ext w W) => sValidate_calls s _ W (hs.ext hW) hf hl)
 have HAT := hI hat
 have HN := hI hn
 have HF := hI hf
 have HI := hI hi
 have HFN := hI hi.1
 obtain ⟨B, hB⟩ : ∃ B, B = factsB s f := ⟨_, rfl⟩
 rw [<- hB]
 have HB := hI (show B = (decide (schemaErr s = 0) && factsAll s f) from hB)
 have hn2 : n <= 1000000000000000 := by omega
 clear hs hn hnc hoa hat hf hi hB
 obtain ⟨wa, hwa⟩ : ∃ wa, wa = w.alloc (.cells #[.slice a n c] 24) := ⟨_, rfl⟩
 have hxa : Ext w wa := by rw [hwa]; exact (Ext.refl _).alloc _
 have hb0 : wa.heap[w.heap.size]? = some (.cells #[.slice a n c] 24 (0, 0)) := by rw [hwa]; exact alloc_new w _
 have HXA := hI hxa
 have HB0 := hI hb0
 clear hxa hb0
 obtain ⟨E, hE⟩ : ∃ E, E = schemaErr s := ⟨_, rfl⟩
 rw [<- hE] at HR HB
 have HEE := hI hE
 clear hE
 obtain ⟨a0, af⟩ := blk1 HB0.out
 by_cases hz : E = 0
 case neg =>
  have tz : (E != 0) = true := by simp [hz]
  have HQ := hI (show B = false by rw [HB.out]; simp [hz])
  clear hz
  go_enter Tryz.func57, Tryz.ntmps57
  go_upto_region 1 with fail
  rw [<- hwa]
  clear hwa
  go_wp2_with fail
  refine (HR.out wa HXA.out).mono ?_
  rintro r w3 ⟨rfl, hx3⟩
  have HX3 := hI (HXA.out.trans hx3)
  clear hx3 a0 af HB0
  go_wp2_with fail
  go_ret
  exact givesE_bool (by rw [HQ.out]) HX3.out
 have tz : (E != 0) = false := by simp [hz]
 have HB2 := hI (show B = factsAll s f by rw [HB.out]; simp [hz])
 have HSA := hI (schema_attrs (s := s) (by rw [<- HEE.out]; exact hz))
 clear hz HB HEE
 by_cases hlen : fn = n
 case neg =>
  have tl : ((fn : Int) != (n : Int)) = true := by simp; omega
  have HQ := hI (show B = false by rw [HB2.out]; exact factsAll_short (by rw [<- HN.out, <- HFN.out]; exact hlen))
  clear hlen
  go_enter Tryz.func57, Tryz.ntmps57
  go_upto_region 1 with fail
  rw [<- hwa]
  clear hwa
  go_wp2_with fail
  refine (HR.out wa HXA.out).mono ?_
  rintro r w3 ⟨rfl, hx3⟩
  have HX3 := hI (HXA.out.trans hx3)
  obtain ⟨d0, df⟩ := blk1 (hx3.blk HB0.out)
  clear hx3 a0 af HB0
  go_wp2_with fail
  go_ret
  exact givesE_bool (by rw [HQ.out]) HX3.out
 subst hlen
 have tl : ((fn : Int) != (fn : Int)) = false := by simp
 have HLN := hI (show f.length = s.length by rw [<- HN.out, <- HFN.out])
 go_enter Tryz.func57, Tryz.ntmps57
 go_upto_region 1 with fail
 rw [<- hwa]
 clear hwa
 go_wp2_with fail
 refine (HR.out wa HXA.out).mono ?_
 rintro r w3 ⟨rfl, hx3⟩
 have HX3 := hI (HXA.out.trans hx3)
 have HB3 := hI (hx3.blk HB0.out)
 obtain ⟨d0, df⟩ := blk1 (hx3.blk HB0.out)
 clear hx3 a0 af HB0
 go_wp2_with fail
 clear d0 df
 go_loopw [22] (FctI s f fn w.heap.size (.cells #[.slice a fn c] 24 (0, 0)) w) (fun t _ => fn - (intOf t).toNat)
 case atStart => exact ⟨0, rfl, by omega, fun i _ _ h => by omega, HB3.out, HX3.out⟩
 case round =>
  obtain ⟨k, rfl, hk, hno, hbx, hx⟩ := hrel
  have HNO := hI hno
  have HBX := hI hbx
  have HX := hI hx
  obtain ⟨d0, df⟩ := blk1 hbx
  clear hno hbx hx
  by_cases hkn : k < fn
  ·have t1 : decide ((k : Int) < (fn : Int)) = true := decide_eq_true (by omega)
   have hks : k < s.length := by rw [<- HN.out]; exact hkn
   have hkf : k < f.length := by rw [<- HFN.out]; exact hkn
   obtain ⟨b, off, rfl, hA⟩ := HAT.out k hks
   obtain ⟨aw, nw, cw, hstr, hfive⟩ := hA.five
   obtain ⟨g0, g1, g2, g3, g4⟩ := hfive wr HX.out
   have HDK := hI (fun W => sdomain_calls s[k] aw nw cw W hstr.1 (by rw [hstr.1]; exact (HF.out _ (List.getElem_mem hks)).2.1) (attr_dom (HSA.out.2.2 k hks).1).2.2.2.1)
   unfold domV at HDK
   obtain ⟨fb, fo, rfl, hcell⟩ := HI.out.2 k hkf
   have hcf := HX.out.cell hcell
   obtain ⟨z, hz⟩ : ∃ z, z = f[k] := ⟨_, rfl⟩
   obtain ⟨lo, hlo⟩ : ∃ lo, lo = (domB s[k]).1 := ⟨_, rfl⟩
   obtain ⟨hi, hhi⟩ : ∃ hi, hi = (domB s[k]).2 := ⟨_, rfl⟩
   rw [<- hz] at hcf
   rw [<- hlo, <- hhi] at HDK
   have HZ := hI hz
   have HLO := hI hlo
   have HHI := hI hhi
   clear hcell hz hlo hhi hA hstr hfive
   go_wp2_with fail
   refine (HDK.out _).mono ?_
   rintro r w5 ⟨rfl, hx5⟩
   have HX5 := hI (HX.out.trans hx5)
   have HB5 := hI (hx5.blk HBX.out)
   clear hx5 d0 df HDK
   by_cases h1 : z < lo \/ hi < z
   ·have HQ := hI (show B = false by rw [HB2.out]; exact factsAll_miss hks hkf (by rw [<- HZ.out, <- HLO.out, <- HHI.out]; exact h1))
    by_cases h2 : z < lo
    ·have t2 : decide (z < lo) = true := decide_eq_true h2
     clear h1 h2
     go_wp2_with fail
     go_ret
     exact givesE_bool (by rw [HQ.out]) HX5.out
    have t2 : decide (z < lo) = false := decide_eq_false h2
    have t3 : decide (hi < z) = true := decide_eq_true (by omega)
    clear h1 h2
    go_wp2_with fail
    go_ret
    exact givesE_bool (by rw [HQ.out]) HX5.out
   have t2 : decide (z < lo) = false := decide_eq_false (by omega)
   have t3 : decide (hi < z) = false := decide_eq_false (by omega)
   have HOK := hI (show (domB s[k]).1 <= f[k] /\ f[k] <= (domB s[k]).2 by rw [<- HZ.out, <- HLO.out, <- HHI.out]; omega)
   clear h1
   go_wp2_with fail
   go_roundw
   case rel =>
    refine ⟨k + 1, by go_num, by omega, fun i hi hj hik => ?_, HB5.out, HX5.out⟩
    by_cases e : i = k
    ·subst e; exact HOK.out
    exact HNO.out i hi hj (by omega)
   case measure => simp [intOf]; omega
  have t1 : decide ((k : Int) < (fn : Int)) = false := decide_eq_false (by omega)
  have HQ := hI (show B = true by rw [HB2.out]; exact factsAll_of HLN.out fun i hi hj => HNO.out i hi hj (by have := HFN.out; omega))
  go_wp2_with fail
  go_ret
  exact givesE_bool (by rw [HQ.out]) HX.out
theorem valHd_at {s : List Attr} {f : ZI} {D : BA -> Option Bool} (l : List Ex) : valHd s f D l = (l[0]?.map (valE s f D)).getD false := by
 cases l <;> simp [valHd]
end Go.Proofs.YtefjomofjejklaaGreatDoor
