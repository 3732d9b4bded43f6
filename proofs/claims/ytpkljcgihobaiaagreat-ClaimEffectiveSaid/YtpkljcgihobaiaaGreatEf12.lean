/-
  Texts of the claim, joined: Chk, SIdx, SVal, Facts, Clm, Wrd.
-/
import Derived.Test.YtpkljcgihobaiaaGreatEf11
namespace Go.Proofs.YtpkljcgihobaiaaGreat
set_option maxRecDepth 100000
set_option maxHeartbeats 32000000
theorem firstI_none {f : Nat -> Int} : (n : Nat) -> (firstI f n).2 = 0 -> ∀ j, j < n -> f j = 0
 | 0, _, j, hj => by omega
 | n + 1, h, j, hj => by
  rw [firstI] at h
  by_cases h1 : (firstI f n).2 ≠ 0
  ·rw [if_pos h1] at h; exact absurd h h1
  rw [if_neg h1] at h
  have h1' : (firstI f n).2 = 0 := by simpa using h1
  by_cases h2 : f n ≠ 0
  ·rw [if_pos h2] at h; exact absurd h h2
  rcases Nat.lt_succ_iff_lt_or_eq.1 hj with h3 | h3
  ·exact firstI_none n h1' j h3
  subst h3; simpa using h2
structure Chk (s : List Attr) (l : List Cla) : Prop where
 sch : schemaErr s = 0
 len : l.length <= 100
 good : ∀ c ∈ l, okTree c.cond /\ nodesErr s l c.cond = 0 /\ refExprB c.cond = true /\ nameB c.name = true /\ attrAt s c.name = none
 uniq : ∀ i j, i < l.length -> j < i -> (l.getD j cla0).name ≠ (l.getD i cla0).name
 exp : ∀ c ∈ l, expanded l c.cond <= 2000
theorem getD_clK {l : List Cla} {i : Nat} (h : i < l.length) : l.getD i cla0 = l[i] := by simp [h]
theorem findAt_le {l : List Cla} {x : BA} {j : Nat} (hj : j < l.length) (h : (l.getD j cla0).name = x) : (findAt l x).getD 0 <= j := by
 unfold findAt
 cases hf : l.findIdx? (fun c => decide (c.name = x)) with
 | none =>
  rw [List.findIdx?_eq_none_iff] at hf
  have := hf _ (List.getElem_mem hj)
  rw [getD_clK hj] at h
  simp [h] at this
 | some k =>
  rw [List.findIdx?_eq_some_iff_getElem] at hf
  obtain ⟨hk, _, h2⟩ := hf
  simp only [Option.getD_some]
  rcases Nat.lt_or_ge j k with h3 | h3
  ·have := h2 j h3
   rw [getD_clK hj] at h
   simp [h] at this
  exact h3
theorem chk_of {s : List Attr} {l : List Cla} (h : (clausesErr s l).2 = 0) : Chk s l := by
 unfold clausesErr at h
 by_cases h1 : schemaErr s ≠ 0
 ·rw [if_pos h1] at h; exact absurd h h1
 rw [if_neg h1] at h
 by_cases h2 : 100 < l.length
 ·rw [if_pos h2] at h; simp at h
 rw [if_neg h2] at h
 by_cases h3 : (firstI (claErr s l) l.length).2 ≠ 0
 ·rw [if_pos h3] at h; exact absurd h h3
 rw [if_neg h3] at h
 by_cases h4 : ¬ Sorts (l.map Cla.dfn)
 ·rw [if_pos h4] at h; simp at h
 rw [if_neg h4] at h
 have hc := firstI_none l.length (by simpa using h3)
 have hg := firstI_none l.length h
 have hcl : ∀ i, i < l.length -> clauseB (l.getD i cla0) = true /\ i <= (findAt l (l.getD i cla0).name).getD 0 /\ attrAt s (l.getD i cla0).name = none /\ nodesErr s l (l.getD i cla0).cond = 0 := by
  intro i hi
  have := hc i hi
  unfold claErr at this
  by_cases g1 : clauseB (l.getD i cla0) = false
  ·rw [if_pos g1] at this; cases this
  rw [if_neg g1] at this
  by_cases g2 : (findAt l (l.getD i cla0).name).getD 0 < i
  ·rw [if_pos g2] at this; cases this
  rw [if_neg g2] at this
  by_cases g3 : (attrAt s (l.getD i cla0).name).isSome
  ·rw [if_pos g3] at this; cases this
  rw [if_neg g3] at this
  by_cases g4 : nodesErr s l (l.getD i cla0).cond ≠ 0
  ·rw [if_pos g4] at this; exact absurd this g4
  exact ⟨by simpa using g1, by omega, by simpa using g3, by simpa using g4⟩
 refine ⟨by simpa using h1, by omega, fun c hm => ?_, fun i j hi hj e => ?_, fun c hm => ?_⟩
 ·obtain ⟨i, hi, rfl⟩ := List.getElem_of_mem hm
  obtain ⟨q1, _, q3, q4⟩ := hcl i hi
  rw [getD_clK hi] at q1 q3 q4
  simp only [clauseB, Bool.and_eq_true] at q1
  obtain ⟨⟨⟨⟨_, q5⟩, q6⟩, _⟩, _⟩ := q1
  refine ⟨?_, q4, q6, q5, q3⟩
  rw [refExprB, Bool.and_eq_true, Bool.and_eq_true] at q6
  exact (nodes_ok _).1 q6.2
 ·obtain ⟨_, q2, _, _⟩ := hcl i hi
  have := findAt_le (l := l) (x := (l.getD i cla0).name) (j := j) (by omega) e
  omega
 obtain ⟨i, hi, rfl⟩ := List.getElem_of_mem hm
 have := hg i hi
 unfold claLarge at this
 rw [getD_clK hi] at this
 by_cases g : 2000 < expanded l l[i].cond \/ backsLarge l l[i].unl = true
 ·rw [if_pos g] at this; cases this
 simp only [not_or] at g; omega
theorem schema_attrs {s : List Attr} (h : schemaErr s = 0) : 1 <= s.length /\ s.length <= 6 /\ ∀ i (hi : i < s.length), attrErr s[i] = 0 /\ nameB s[i].name = true := by
 unfold schemaErr at h
 by_cases h1 : s.length = 0
 ·rw [if_pos h1] at h; cases h
 rw [if_neg h1] at h
 by_cases h2 : 6 < s.length
 ·rw [if_pos h2] at h; cases h
 rw [if_neg h2] at h
 refine ⟨by omega, by omega, fun i hi => ?_⟩
 have := firstI_none s.length h i hi
 unfold attrIErr at this
 have e1 : s.getD i attr0 = s[i] := by simp [hi]
 rw [e1] at this
 by_cases g1 : nameB s[i].name = false
 ·rw [if_pos g1] at this; cases this
 rw [if_neg g1] at this
 by_cases g2 : (s.take i).any (fun b => decide (b.name = s[i].name)) = true
 ·rw [if_pos g2] at this; cases this
 rw [if_neg g2] at this
 exact ⟨this, by simpa using g1⟩
theorem attr_dom {a : Attr} (h : attrErr a = 0) : (domB a).1 <= (domB a).2 /\ -1000000000 <= (domB a).1 /\ (domB a).2 <= 1000000000 /\ (a.kind = 1 \/ a.kind = 2 \/ a.kind = 3) /\ (a.kind = 1 -> 1 <= a.words.length /\ a.words.length <= 12) := by
 unfold attrErr at h
 unfold domB
 by_cases h1 : a.kind = 1
 ·rw [if_pos h1] at h ⊢
  by_cases g1 : a.lo ≠ 0 \/ a.hi ≠ 0
  ·rw [if_pos g1] at h; cases h
  rw [if_neg g1] at h
  by_cases g2 : a.words.length = 0
  ·rw [if_pos g2] at h; cases h
  rw [if_neg g2] at h
  by_cases g3 : 12 < a.words.length
  ·rw [if_pos g3] at h; cases h
  exact ⟨by simp only; omega, by simp only; omega, by simp only; omega, Or.inl h1, fun _ => ⟨by omega, by omega⟩⟩
 rw [if_neg h1] at h ⊢
 by_cases h2 : a.kind = 2
 ·rw [if_pos h2] at h ⊢
  by_cases g1 : 0 < a.words.length
  ·rw [if_pos g1] at h; cases h
  rw [if_neg g1] at h
  by_cases g2 : a.hi < a.lo \/ farB a.lo = true \/ farB a.hi = true
  ·rw [if_pos g2] at h; cases h
  simp only [not_or, farB, numberB, Bool.not_eq_true', decide_eq_false_iff_not, Decidable.not_not] at g2
  exact ⟨by simp only; omega, by simp only; omega, by simp only; omega, Or.inr (Or.inl h2), fun e => absurd e h1⟩
 rw [if_neg h2] at h ⊢
 by_cases h3 : a.kind = 3
 ·exact ⟨by decide, by decide, by decide, Or.inr (Or.inr h3), fun e => absurd e h1⟩
 rw [if_neg h3] at h; cases h
open Go.RowKit
theorem sIndex_calls (s : List Attr) (v : Value) (x : BA) (w : World) (hs : IsSchema w s v) (hl : s.length <= 1000000000000000) :
  Calls Tryz.prog 60 #[v, .string x] w (GivesE (optV (attrAt s x)) w) := by
 obtain ⟨a, n, c, rfl, hn, hnc, hoa, hat⟩ := hs.parts
 have HS := hI hs
 have HN := hI hn
 have hn2 : n <= 1000000000000000 := by omega
 clear hs hn hat hnc hoa
 go_enter Tryz.func60, Tryz.ntmps60
 go_wp2_with fail
 go_loopw [11] (fun t wr => ∃ k : Nat, t = .int .i64 k /\ k <= n /\ (∀ j (h : j < s.length), j < k -> decide (s[j].name = x) = false) /\ Ext w wr) (fun t _ => n - (intOf t).toNat)
 case atStart => exact ⟨0, rfl, by omega, fun j _ h => by omega, (Ext.refl w).alloc _⟩
 case round =>
  obtain ⟨k, rfl, hk, hno, hx⟩ := hrel
  have HNO := hI hno
  have HX := hI hx
  clear hno hx
  by_cases hkn : k < n
  ·have hks : k < s.length := by have := HN.out; omega
   obtain ⟨a', n', c', e', hx1, hx2, hx3, hat⟩ := (HS.out.ext HX.out).parts
   simp only [Value.agg.injEq, Array.mk.injEq, List.cons.injEq, Value.slice.injEq, and_true] at e'
   obtain ⟨rfl, rfl, rfl⟩ := e'
   clear hx1 hx2 hx3
   obtain ⟨b, off, rfl, aw, nw, cw, h0, h1, h2, h3, h4, h5⟩ := hat k hks
   have t1 : decide ((k : Int) < (n : Int)) = true := decide_eq_true (by omega)
   cases he : (s[k].name.toList == x.toList)
   ·have HE := hI (dec_of_beq he)
    clear hat h5
    go_wp2_with fail
    go_roundw
    case rel =>
     refine ⟨k + 1, by go_num, by omega, fun j hj hjk => ?_, HX.out.alloc _⟩
     by_cases e : j = k
     ·subst e; exact HE.out
     exact HNO.out j hj (by omega)
    case measure => simp [intOf]; omega
   have HF := hI (show attrAt s x = some k from find_hit hks (dec_of_beq he) HNO.out)
   clear hat h5
   go_wp2_with fail
   go_ret2
   exact ⟨by rw [optV, HF.out]; rfl, HX.out.alloc _⟩
  have t1 : decide ((k : Int) < (n : Int)) = false := decide_eq_false (by omega)
  have HF := hI (show attrAt s x = none from find_miss fun j hj => HNO.out j hj (by have := HN.out; omega))
  go_wp2_with fail
  go_ret2
  exact ⟨by rw [optV, HF.out]; rfl, HX.out⟩
def wordsErr (l : ZB) : Int := if l.length = 0 then 19 else if 12 < l.length then 4 else if l.all nameB = false then 6 else if decide l.Nodup = false then 8 else 0
theorem attrErr_word (a : Attr) (h : a.kind = 1) : attrErr a = if a.lo ≠ 0 \/ a.hi ≠ 0 then 20 else wordsErr a.words := by
 unfold attrErr wordsErr; rw [if_pos h]
theorem nodup_snoc {l : ZB} {k : Nat} (hk : k < l.length) (h : (l.take k).Nodup) (h2 : l[k] ∉ l.take k) : (l.take (k + 1)).Nodup := by
 rw [List.take_succ_eq_append_getElem hk, List.nodup_append]
 exact ⟨h, by simp, fun a ha b hb => by simp at hb; subst hb; intro e; subst e; exact h2 ha⟩
theorem not_nodup {l : ZB} {k : Nat} (hk : k < l.length) (h : l[k] ∈ l.take k) : ¬ l.Nodup := by
 intro h4
 have : (l.take (k + 1)).Nodup := h4.sublist (List.take_sublist _ _)
 rw [List.take_succ_eq_append_getElem hk, List.nodup_append] at this
 exact absurd rfl (this.2.2 _ h _ (by simp))
theorem swords_calls (l : ZB) (a : OA) (n c : Nat) (w : World) (hl : IsStrs w l a n c) (hn2 : n <= 1000000000000000) (hsz : ∀ x ∈ l, x.size <= 1000000000000000) :
  Calls Tryz.prog 103 #[.slice a n c] w (Gives (.int .i64 (wordsErr l)) w) := by
 have HL := hI hl
 have HZ := hI hsz
 have HN := hI hl.1
 have hnc := hl.2.1
 clear hl hsz
 by_cases h0 : n = 0
 ·have H := hI (show wordsErr l = 19 by unfold wordsErr; rw [if_pos (by have := HN.out; omega)])
  have hz : ((n : Int) == 0) = true := by simp [h0]
  clear h0
  go_enter Tryz.func103, Tryz.ntmps103
  go_wp2_with fail
  go_ret
  exact gives_int (by rw [H.out])
 have hz : ((n : Int) == 0) = false := by simp [h0]
 by_cases h12 : 12 < n
 ·have H := hI (show wordsErr l = 4 by unfold wordsErr; rw [if_neg (by have := HN.out; omega), if_pos (by have := HN.out; omega)])
  have t12 : decide ((12 : Int) < (n : Int)) = true := decide_eq_true (by omega)
  go_enter Tryz.func103, Tryz.ntmps103
  go_wp2_with fail
  go_ret
  exact gives_int (by rw [H.out])
 have t12 : decide ((12 : Int) < (n : Int)) = false := decide_eq_false (by omega)
 have HE := hI (show wordsErr l = if l.all nameB = false then 6 else if decide l.Nodup = false then 8 else 0 by unfold wordsErr; rw [if_neg (by have := HN.out; omega), if_neg (by have := HN.out; omega)])
 obtain ⟨E, hE⟩ : ∃ E, E = wordsErr l := ⟨_, rfl⟩
 rw [<- hE] at HE ⊢
 clear hE
 go_enter Tryz.func103, Tryz.ntmps103
 go_wp2_with fail
 go_loop [15] (fun t => ∃ k : Nat, t = .int .i64 k /\ k <= n /\ ∀ j (h : j < l.length), j < k -> nameB l[j] = true) (fun t => n - (intOf t).toNat)
 case atStart => exact ⟨0, rfl, by omega, fun j _ h => by omega⟩
 case round =>
  obtain ⟨k, rfl, hk, hall⟩ := hrel
  have HA := hI hall
  clear hall
  by_cases hlt : k < n
  ·have hlt' : k < l.length := by have := HN.out; omega
   have t1 : decide ((k : Int) < (n : Int)) = true := decide_eq_true (by omega)
   have hsk := HZ.out _ (List.getElem_mem hlt')
   obtain ⟨b, off, rfl, hcell⟩ := HL.out.2.2.2 k hlt'
   cases h3 : nameB l[k]
   ·have H := hI (show E = 6 by
     rw [HE.out, if_pos]
     rw [List.all_eq_false]
     exact ⟨l[k], List.getElem_mem hlt', by rw [h3]; simp⟩)
    have H3 := hI h3
    clear h3
    go_wp2_with fail
    refine (name_calls _ _ hsk).mono ?_
    rintro e w' ⟨rfl, rfl⟩
    rw [H3.out]
    go_wp2_with fail
    go_ret
    exact gives_int (by rw [H.out])
   have H3 := hI h3
   clear h3
   go_wp2_with fail
   refine (name_calls _ _ hsk).mono ?_
   rintro e w' ⟨rfl, rfl⟩
   rw [H3.out]
   go_wp2_with fail
   go_round
   case rel =>
    refine ⟨k + 1, by go_num, by omega, fun j hj hjk => ?_⟩
    by_cases e : j = k
    ·subst e; exact H3.out
    exact HA.out j hj (by omega)
   case measure => simp [intOf]; omega
  have t1 : decide ((k : Int) < (n : Int)) = false := decide_eq_false (by omega)
  have HE2 := hI (show E = if decide l.Nodup = false then 8 else 0 by
   rw [HE.out, if_neg]
   rw [Bool.not_eq_false, List.all_eq_true]
   intro x hx
   obtain ⟨j, hj, rfl⟩ := List.mem_iff_getElem.1 hx
   exact HA.out j hj (by have := HN.out; omega))
  clear HE HA
  go_wp2_with fail
  go_loop [25] (fun t => ∃ k : Nat, t = .int .i64 k /\ k <= n /\ (l.take k).Nodup) (fun t => n - (intOf t).toNat)
  case atStart => exact ⟨0, rfl, by omega, by simp⟩
  case round =>
   obtain ⟨m, rfl, hm, hno⟩ := hrel
   have HNO := hI hno
   clear hno
   by_cases hmt : m < n
   ·have hmt' : m < l.length := by have := HN.out; omega
    have t2 : decide ((m : Int) < (n : Int)) = true := decide_eq_true (by omega)
    have HT := hI (HL.out.take hm)
    obtain ⟨b, off, rfl, hcell⟩ := HL.out.2.2.2 m hmt'
    by_cases h4 : l[m] ∈ l.take m
    ·have H := hI (show E = 8 by rw [HE2.out, if_pos (by simpa using not_nodup hmt' h4)])
     have H4 := hI h4
     clear h4
     go_wp2_with fail
     refine (contains_calls _ _ _ _ _ _ (by omega) HT.out).mono ?_
     rintro e w' ⟨rfl, rfl⟩
     rw [decide_eq_true H4.out]
     go_wp2_with fail
     go_ret
     exact gives_int (by rw [H.out])
    have H4 := hI h4
    clear h4
    go_wp2_with fail
    refine (contains_calls _ _ _ _ _ _ (by omega) HT.out).mono ?_
    rintro e w' ⟨rfl, rfl⟩
    rw [decide_eq_false H4.out]
    go_wp2_with fail
    go_round
    case rel => exact ⟨m + 1, by go_num, by omega, nodup_snoc hmt' HNO.out H4.out⟩
    case measure => simp [intOf]; omega
   have t2 : decide ((m : Int) < (n : Int)) = false := decide_eq_false (by omega)
   have H := hI (show E = 0 by
    have h5 := HNO.out
    rw [List.take_of_length_le (by have := HN.out; omega)] at h5
    rw [HE2.out, if_neg (by simpa using h5)])
   go_wp2_with fail
   go_ret
   exact gives_int (by rw [H.out])
theorem numberB_iff (n : Int) : numberB n = false ↔ n < -1000000000 \/ 1000000000 < n := by simp [numberB]; omega
theorem sattr_calls (x : Attr) (aw : OA) (nw cw : Nat) (w : World) (hw : IsStrs w x.words aw nw cw) (hf : x.fits) :
  Calls Tryz.prog 61 #[.agg #[.string x.name, .int .i64 x.kind, .slice aw nw cw, .int .i64 x.lo, .int .i64 x.hi]] w (GivesE (.int .i64 (attrErr x)) w) := by
 have HW := hI hw
 have HF := hI hf
 have hnw := hw.1
 have hnl : nw <= 1000000000000000 := by rw [hnw]; exact hf.2.1
 have HNW := hI hnw
 clear hw hf hnw
 obtain ⟨name, kind, words, lo, hi⟩ := x
 simp only at *
 obtain ⟨E, hE⟩ : ∃ E, E = attrErr ⟨name, kind, words, lo, hi⟩ := ⟨_, rfl⟩
 rw [<- hE]
 by_cases h1 : kind = 1
 ·subst h1
  rw [attrErr_word _ rfl] at hE
  simp only at hE
  have HE := hI hE
  clear hE
  have HWC := hI (swords_calls words aw nw cw (w.alloc (.cells #[.string name, .int .i64 1, .slice aw nw cw, .int .i64 lo, .int .i64 hi] 106)) (HW.out.ext ((Ext.refl w).alloc _)) hnl HF.out.2.2)
  by_cases hlo : lo = 0
  ·have t1 : (lo != 0) = false := by simp [hlo]
   by_cases hhi : hi = 0
   ·have t2 : (hi != 0) = false := by simp [hhi]
    have HQ := hI (show E = wordsErr words by rw [HE.out, if_neg (by simp [hlo, hhi])])
    clear HE hlo hhi
    go_enter Tryz.func61, Tryz.ntmps61
    go_wp2_with fail
    refine HWC.out.mono ?_
    rintro e w' ⟨rfl, rfl⟩
    go_wp2_with fail
    go_ret
    exact givesE_of (by rw [HQ.out]) ((Ext.refl w).alloc _)
   have t2 : (hi != 0) = true := by simp [hhi]
   have HQ := hI (show E = 20 by rw [HE.out, if_pos (Or.inr hhi)])
   clear HE hlo hhi
   go_enter Tryz.func61, Tryz.ntmps61
   go_wp2_with fail
   go_ret
   exact givesE_of (by rw [HQ.out]) ((Ext.refl w).alloc _)
  have t1 : (lo != 0) = true := by simp [hlo]
  have HQ := hI (show E = 20 by rw [HE.out, if_pos (Or.inl hlo)])
  clear HE hlo
  go_enter Tryz.func61, Tryz.ntmps61
  go_wp2_with fail
  go_ret
  exact givesE_of (by rw [HQ.out]) ((Ext.refl w).alloc _)
 have e1 : (kind == 1) = false := by simp [h1]
 by_cases h2 : kind = 2
 ·subst h2
  have HE := hI (show E = if 0 < nw then 20 else if hi < lo \/ (lo < -1000000000 \/ 1000000000 < lo) \/ (hi < -1000000000 \/ 1000000000 < hi) then 1 else 0 by
   rw [hE]
   have k1 := numberB_iff lo
   have k2 := numberB_iff hi
   simp only [attrErr, farB, Bool.not_eq_true', k1, k2]
   rw [if_neg (by omega), if_pos trivial, <- HNW.out])
  clear hE
  go_enter Tryz.func61, Tryz.ntmps61
  go_wp2_with fail
  all_goals (go_ret; exact givesE_of (by rw [HE.out]; simp_all <;> omega) ((Ext.refl w).alloc _))
 have e2 : (kind == 2) = false := by simp [h2]
 by_cases h3 : kind = 3
 ·subst h3
  have HE := hI (show E = if 0 < nw \/ lo ≠ 0 \/ hi ≠ 0 then 20 else 0 by
   rw [hE]
   simp only [attrErr]
   rw [if_neg (by omega), if_neg (by omega), if_pos trivial, <- HNW.out])
  clear hE
  go_enter Tryz.func61, Tryz.ntmps61
  go_wp2_with fail
  all_goals (go_ret; exact givesE_of (by rw [HE.out]; simp_all <;> omega) ((Ext.refl w).alloc _))
 have e3 : (kind == 3) = false := by simp [h3]
 have HE := hI (show E = 11 by
  rw [hE]
  simp only [attrErr]
  rw [if_neg h1, if_neg h2, if_neg h3])
 clear hE
 go_enter Tryz.func61, Tryz.ntmps61
 go_wp2_with fail
 go_ret
 exact givesE_of (by rw [HE.out]) ((Ext.refl w).alloc _)
theorem attr_dup {s : List Attr} {k : Nat} (hk : k < s.length) : ∃ f, attrAt s s[k].name = some f /\ f <= k /\ ((s.take k).any (fun b => decide (b.name = s[k].name)) = decide (f < k)) := by
 cases h : attrAt s s[k].name with
 | none =>
  unfold attrAt at h
  rw [List.findIdx?_eq_none_iff] at h
  have := h s[k] (List.getElem_mem hk)
  simp at this
 | some f =>
  unfold attrAt at h
  rw [List.findIdx?_eq_some_iff_getElem] at h
  obtain ⟨hf, h1, h2⟩ := h
  have hfk : f <= k := by
   rcases Nat.lt_or_ge k f with h3 | h3
   ·have := h2 k h3
    simp at this
   exact h3
  refine ⟨f, rfl, hfk, ?_⟩
  by_cases h3 : f < k
  ·rw [decide_eq_true h3, List.any_eq_true]
   exact ⟨s[f], List.mem_iff_getElem.2 ⟨f, by simp; omega, by simp⟩, h1⟩
  rw [decide_eq_false h3, List.any_eq_false]
  intro y hy
  obtain ⟨j, hj, rfl⟩ := List.mem_iff_getElem.1 hy
  have hjk : j < k := by simp at hj; omega
  have := h2 j (by omega)
  simpa using this
theorem sValidate_calls (s : List Attr) (v : Value) (w : World) (hs : IsSchema w s v) (hf : ∀ x ∈ s, x.fits) (hl : s.length <= 1000000000000000) :
  Calls Tryz.prog 30 #[v] w (GivesE (.int .i64 (schemaErr s)) w) := by
 obtain ⟨a, n, c, rfl, hn, hnc, hoa, hat⟩ := hs.parts
 have HS := hI hs
 have HN := hI hn
 have HF := hI hf
 have hn2 : n <= 1000000000000000 := by omega
 clear hs hn hat hnc hoa hf
 by_cases h0 : n = 0
 ·have t0 : ((n : Int) == 0) = true := by simp [h0]
  have HE := hI (show schemaErr s = 19 by unfold schemaErr; rw [<- HN.out, if_pos h0])
  clear h0
  go_enter Tryz.func30, Tryz.ntmps30
  go_wp2_with fail
  go_ret
  exact givesE_of (by rw [HE.out]) ((Ext.refl w).alloc _)
 have t0 : ((n : Int) == 0) = false := by simp [h0]
 by_cases h6 : 6 < n
 ·have t6 : decide ((6 : Int) < (n : Int)) = true := decide_eq_true (by omega)
  have HE := hI (show schemaErr s = 4 by unfold schemaErr; rw [<- HN.out, if_neg h0, if_pos h6])
  go_enter Tryz.func30, Tryz.ntmps30
  go_wp2_with fail
  go_ret
  exact givesE_of (by rw [HE.out]) ((Ext.refl w).alloc _)
 have t6 : decide ((6 : Int) < (n : Int)) = false := decide_eq_false (by omega)
 have HE := hI (show schemaErr s = (firstI (attrIErr s) n).2 by unfold schemaErr; rw [<- HN.out, if_neg h0, if_neg h6])
 go_enter Tryz.func30, Tryz.ntmps30
 go_wp2_with fail
 go_loopw [19] (SchI s n a c w) (fun t _ => n - (intOf t).toNat)
 case atStart => exact ⟨0, rfl, by omega, fun j h => by omega, alloc_new w _, (Ext.refl w).alloc _⟩
 case round =>
  obtain ⟨k, rfl, hk, hno, hbx, hx⟩ := hrel
  obtain ⟨wo, rfl⟩ : ∃ wo : World, wo = wr := ⟨_, rfl⟩
  have HNO := hI hno
  have HBX := hI hbx
  have HX := hI hx
  obtain ⟨bb0, bbf⟩ := blk1 hbx
  have hlt0 := blk_lt hbx
  clear hno hbx hx
  by_cases hkn : k < n
  ·have hks : k < s.length := by have := HN.out; omega
   obtain ⟨a', n', c', e', hx1, hx2, hx3, hat⟩ := (HS.out.ext HX.out).parts
   simp only [Value.agg.injEq, Array.mk.injEq, List.cons.injEq, Value.slice.injEq, and_true] at e'
   obtain ⟨rfl, rfl, rfl⟩ := e'
   clear hx1 hx2 hx3
   obtain ⟨b, off, rfl, aw, nw, cw, h0, h1, h2, h3, h4, h5⟩ := hat k hks
   have H5 := hI h5
   have t1 : decide ((k : Int) < (n : Int)) = true := decide_eq_true (by omega)
   have hfk := HF.out _ (List.getElem_mem hks)
   have hfn := hfk.1
   have HFK := hI hfk
   obtain ⟨f, hfa, hfle, hfany⟩ := attr_dup hks
   have HAI := hI (show attrIErr s k = if nameB s[k].name = false then 6 else if decide (f < k) = true then 8 else attrErr s[k] by unfold attrIErr; rw [getD_attr hks, hfany])
   have HFA := hI hfa
   clear hat h5 hfk hfa hfany
   obtain ⟨wa, hwa⟩ : ∃ wa, wa = wo.alloc (.cells #[.string s[k].name, .int .i64 s[k].kind, .slice aw nw cw, .int .i64 s[k].lo, .int .i64 s[k].hi] 106) := ⟨_, rfl⟩
   have hxa : Ext wo wa := by rw [hwa]; exact (Ext.refl _).alloc _
   have hba : wa.heap[wo.heap.size]? = some (.cells #[.string s[k].name, .int .i64 s[k].kind, .slice aw nw cw, .int .i64 s[k].lo, .int .i64 s[k].hi] 106 (0, 0)) := by rw [hwa]; exact alloc_new wo _
   have HXA := hI hxa
   have HBA := hI hba
   have HB2 := hI (hxa.blk HBX.out)
   clear hxa hba
   cases hnb : nameB s[k].name
   ·have HNB := hI hnb
    have HR := hI (show schemaErr s = 6 by
     rw [HE.out, firstI_hit (k := k) (by rw [HAI.out, if_pos hnb]; omega) HNO.out n hkn]
     show attrIErr s k = 6
     rw [HAI.out, if_pos hnb])
    clear hnb HE
    go_wp2_with fail
    rw [<- hwa]
    clear hwa
    refine (name_calls _ _ hfn).mono ?_
    rintro e w' ⟨rfl, rfl⟩
    rw [HNB.out]
    go_wp2_with fail
    go_ret
    exact givesE_of (by rw [HR.out]) (HX.out.trans HXA.out)
   have HNB := hI hnb
   rw [hnb] at HAI
   simp only [Bool.true_eq_false, if_false] at HAI
   clear hnb
   go_wp2_with fail
   rw [<- hwa]
   clear hwa h0 h1 h2 h3 h4 bb0 bbf
   refine (name_calls _ _ hfn).mono ?_
   rintro e w' ⟨rfl, rfl⟩
   rw [HNB.out]
   obtain ⟨d0, df⟩ := blk1 HB2.out
   obtain ⟨a0, a1, a2, a3, a4, af⟩ := blk5b HBA.out
   have hlta := blk_lt HBA.out
   go_wp2_with fail
   refine (sIndex_calls s _ s[k].name _ (HS.out.ext (HX.out.trans HXA.out)) hl).mono ?_
   rintro e w5 ⟨rfl, hx5⟩
   rw [HFA.out, show optV (some f) = .tuple #[.int .i64 f, .bool true] from rfl]
   have HX5 := hI ((HX.out.trans HXA.out).trans hx5)
   have HB5 := hI (hx5.blk HB2.out)
   have HBA5 := hI (hx5.blk HBA.out)
   have H55 := hI (H5.out.ext (HXA.out.trans hx5))
   clear hx5 d0 df a0 a1 a2 a3 a4 af hlta
   obtain ⟨a0, a1, a2, a3, a4, af⟩ := blk5b HBA5.out
   have hlta := blk_lt HBA5.out
   by_cases hfk : f < k
   ·have t2 : decide ((f : Int) < (k : Int)) = true := decide_eq_true (by omega)
    have HR := hI (show schemaErr s = 8 by
     have h8 : attrIErr s k = 8 := by rw [HAI.out, if_pos (by simpa using hfk)]
     rw [HE.out, firstI_hit (k := k) (by rw [h8]; omega) HNO.out n hkn]
     exact h8)
    clear HE
    go_wp2_with fail
    go_ret
    exact givesE_of (by rw [HR.out]) HX5.out
   have t2 : decide ((f : Int) < (k : Int)) = false := decide_eq_false (by omega)
   have HAK := hI (show attrIErr s k = attrErr s[k] by rw [HAI.out, if_neg (by simpa using hfk)])
   go_wp2_with fail
   refine (sattr_calls s[k] aw nw cw _ H55.out HFK.out).mono ?_
   rintro e w' ⟨rfl, hx7⟩
   have HX7 := hI (HX5.out.trans hx7)
   have HB7 := hI (hx7.blk HB5.out)
   clear hx7 a0 a1 a2 a3 a4 af hlta
   by_cases hz : attrErr s[k] = 0
   ·have tz : (attrErr s[k] != 0) = false := by simp [hz]
    have HZ := hI hz
    clear hz
    go_wp2_with fail
    go_roundw
    case rel =>
     refine ⟨k + 1, by go_num, by omega, fun j hj => ?_, HB7.out, HX7.out⟩
     by_cases e : j = k
     ·subst e; rw [HAK.out]; exact HZ.out
     exact HNO.out j (by omega)
    case measure => simp [intOf]; omega
   have tz : (attrErr s[k] != 0) = true := by simp [hz]
   have HR := hI (show schemaErr s = attrErr s[k] by
    rw [HE.out, firstI_hit (k := k) (by rw [HAK.out]; exact hz) HNO.out n hkn]
    exact HAK.out)
   clear hz
   go_wp2_with fail
   go_ret
   exact givesE_of (by rw [HR.out]) HX7.out
  have t1 : decide ((k : Int) < (n : Int)) = false := decide_eq_false (by omega)
  have HR := hI (show schemaErr s = 0 by rw [HE.out, firstI_zero n fun j hj => HNO.out j (by omega)])
  go_wp2_with fail
  go_ret
  exact givesE_of (by rw [HR.out]) HX.out
def IsIntF (w : World) (f : ZI) (a : OA) (n : Nat) : Prop := n = f.length /\ ∀ i (h : i < f.length), ∃ b off, a = some ⟨b, off, none⟩ /\ w.cell? ⟨b, off + i, none⟩ = some (.int .i64 f[i])
theorem IsIntF.mono {w w' : World} {f : ZI} {a : OA} {n : Nat} (h : IsIntF w f a n) (hs : Sub w w') : IsIntF w' f a n := ⟨h.1, fun i hi => by obtain ⟨b, off, e, hc⟩ := h.2 i hi; exact ⟨b, off, e, hs _ _ hc⟩⟩
theorem IsIntF.ext {w w' : World} {f : ZI} {a : OA} {n : Nat} (h : IsIntF w f a n) (he : Ext w w') : IsIntF w' f a n := h.mono he.sub
def domV (a : Attr) : Value := .tuple #[.int .i64 (domB a).1, .int .i64 (domB a).2]
theorem factsAll_miss {s : List Attr} {f : ZI} {k : Nat} (hk : k < s.length) (hj : k < f.length) (h : f[k] < (domB s[k]).1 \/ (domB s[k]).2 < f[k]) : factsAll s f = false := by
 cases hf : factsAll s f
 ·rfl
 have := factsAll_at hf k hk hj
 omega
theorem factsAll_short {s : List Attr} {f : ZI} (h : f.length ≠ s.length) : factsAll s f = false := by
 cases hf : factsAll s f
 ·rfl
 exact absurd (factsAll_len hf) h
theorem AttrAt.five {w : World} {x : Attr} {b off : Nat} (h : AttrAt w x b off) : ∃ aw nw cw, IsStrs w x.words aw nw cw /\ ∀ W, Ext w W -> W.cell? ⟨b, off, none⟩ = some (.string x.name) /\ W.cell? ⟨b, off + 1, none⟩ = some (.int .i64 x.kind) /\ W.cell? ⟨b, off + 2, none⟩ = some (.slice aw nw cw) /\ W.cell? ⟨b, off + 3, none⟩ = some (.int .i64 x.lo) /\ W.cell? ⟨b, off + 4, none⟩ = some (.int .i64 x.hi) := by
 obtain ⟨aw, nw, cw, g0, g1, g2, g3, g4, g5⟩ := h
 exact ⟨aw, nw, cw, g5, fun W hW => ⟨hW.cell g0, hW.cell g1, hW.cell g2, hW.cell g3, hW.cell g4⟩⟩
theorem rDomain_calls (s : List Attr) (v : Value) (i : Nat) (w : World) (hs : IsSchema w s v) (hf : ∀ x ∈ s, x.fits) (hl : s.length <= 1000000000000000) (h0 : schemaErr s = 0) (hi : i < s.length) :
  Calls Tryz.prog 111 #[v, .int .i64 (i : Nat)] w (GivesE (domV s[i]) w) := by
 obtain ⟨q1, q2, q3⟩ := schema_attrs h0
 obtain ⟨-, -, -, hk, -⟩ := attr_dom (q3 i hi).1
 obtain ⟨a, n, c, rfl, hn, hnc, hoa, hat⟩ := hs.parts
 obtain ⟨b, off, rfl, hA⟩ := hat i hi
 obtain ⟨aw, nw, cw, hstr, hfive⟩ := hA.five
 have HG := hI hfive
 have HR := hI (fun W (hW : Ext w W) => rSchema_calls s _ W (hs.ext hW) hf hl)
 rw [h0] at HR
 have t0 : decide ((i : Int) < 0) = false := decide_eq_false (by omega)
 have t1 : decide ((n : Int) <= (i : Int)) = false := decide_eq_false (by omega)
 have hin : i < n := by omega
 have hn2 : n <= 1000000000000000 := by omega
 have hnw : nw <= 1000000000000000 := by rw [hstr.1]; exact (hf _ (List.getElem_mem hi)).2.1
 have HNW := hI hstr.1
 clear hs hn hnc hoa hf h0 q1 q2 q3 hat hA hstr hfive
 obtain ⟨x, hx⟩ : ∃ x, x = s[i] := ⟨_, rfl⟩
 rw [<- hx] at hk HG HNW ⊢
 clear hx
 obtain ⟨wa, hwa⟩ : ∃ wa, wa = w.alloc (.cells #[.slice (some ⟨b, off, none⟩) n c] 24) := ⟨_, rfl⟩
 have hxa : Ext w wa := by rw [hwa]; exact (Ext.refl _).alloc _
 have hb0 : wa.heap[w.heap.size]? = some (.cells #[.slice (some ⟨b, off, none⟩) n c] 24 (0, 0)) := by rw [hwa]; exact alloc_new w _
 have HXA := hI hxa
 have HB0 := hI hb0
 clear hxa hb0
 have hways : ((x.kind == 1) = true /\ domV x = .tuple #[.int .i64 0, .int .i64 ((nw : Int) - 1)]) \/ ((x.kind == 1) = false /\ (x.kind == 2) = true /\ domV x = .tuple #[.int .i64 x.lo, .int .i64 x.hi]) \/ ((x.kind == 1) = false /\ (x.kind == 2) = false /\ domV x = .tuple #[.int .i64 0, .int .i64 1]) := by
  unfold domV domB
  rcases hk with hk | hk | hk
  ·exact Or.inl ⟨by simp [hk], by rw [if_pos hk, HNW.out]⟩
  ·exact Or.inr (Or.inl ⟨by simp [hk], by simp [hk], by rw [if_neg (by omega), if_pos hk]⟩)
  exact Or.inr (Or.inr ⟨by simp [hk], by simp [hk], by rw [if_neg (by omega), if_neg (by omega)]⟩)
 clear hk
 rcases hways with ⟨e1, hv⟩ | ⟨e1, e2, hv⟩ | ⟨e1, e2, hv⟩
 all_goals
  have HV := hI hv
  clear hv
  obtain ⟨a0, af⟩ := blk1 HB0.out
  go_enter Tryz.func111, Tryz.ntmps111
  go_upto_region 1 with fail
  rw [<- hwa]
  clear hwa
  go_wp2_with fail
  refine (HR.out wa HXA.out).mono ?_
  rintro r w3 ⟨rfl, hx3⟩
  have HX3 := hI (HXA.out.trans hx3)
  obtain ⟨d0, df⟩ := blk1 (hx3.blk HB0.out)
  obtain ⟨g0, g1, g2, g3, g4⟩ := HG.out w3 HX3.out
  clear hx3 a0 af HB0
  go_wp2_with fail
  try go_quiet (fail)
  try go_wp2_with fail
  go_ret2
  exact ⟨by rw [HV.out]; rfl, by first | exact (HX3.out.alloc _).drewN _ | exact HX3.out.alloc _⟩
def FctI (s : List Attr) (f : ZI) (n : Nat) (bs : Nat) (o : Obj) (w : World) (t : Value) (wr : World) : Prop := ∃ k : Nat, t = .int .i64 k /\ k <= n /\ (∀ i (hi : i < s.length) (hj : i < f.length), i < k -> (domB s[i]).1 <= f[i] /\ f[i] <= (domB s[i]).2) /\ wr.heap[bs]? = some o /\ Ext w wr
theorem rFacts_calls (s : List Attr) (v : Value) (f : ZI) (fa : OA) (fn fc : Nat) (w : World) (hs : IsSchema w s v) (hf : ∀ x ∈ s, x.fits) (hl : s.length <= 1000000000000000) (hi : IsIntF w f fa fn) :
  Calls Tryz.prog 68 #[v, .slice fa fn fc] w (GivesE (.bool (factsB s f)) w) := by
 obtain ⟨a, n, c, rfl, hn, hnc, hoa, hat⟩ := hs.parts
 have HR := hI (fun W (hW : Ext w W) => rSchema_calls s _ W (hs.ext hW) hf hl)
 have HD := hI (fun (h0 : schemaErr s = 0) (i : Nat) (hi : i < s.length) W (hW : Ext w W) => rDomain_calls s _ i W (hs.ext hW) hf hl h0 hi)
 have HN := hI hn
 have HI := hI hi
 have HFN := hI hi.1
 obtain ⟨B, hB⟩ : ∃ B, B = factsB s f := ⟨_, rfl⟩
 rw [<- hB]
 have HB := hI (show B = (decide (schemaErr s = 0) && factsAll s f) from hB)
 clear hs hn hnc hoa hat hf hi hB
 obtain ⟨wa, hwa⟩ : ∃ wa, wa = w.alloc (.cells #[.slice a n c] 24) := ⟨_, rfl⟩
 have hxa : Ext w wa := by rw [hwa]; exact (Ext.refl _).alloc _
 have hb0 : wa.heap[w.heap.size]? = some (.cells #[.slice a n c] 24 (0, 0)) := by rw [hwa]; exact alloc_new w _
 have HXA := hI hxa
 have HB0 := hI hb0
 clear hxa hb0
 obtain ⟨E, hE⟩ : ∃ E, E = schemaErr s := ⟨_, rfl⟩
 rw [<- hE] at HR HB
 have HEE := hI hE
 clear hE
 obtain ⟨a0, af⟩ := blk1 HB0.out
 by_cases hz : E = 0
 case neg =>
  have tz : (E != 0) = true := by simp [hz]
  have HQ := hI (show B = false by rw [HB.out]; simp [hz])
  clear hz
  go_enter Tryz.func68, Tryz.ntmps68
  go_upto_region 1 with fail
  rw [<- hwa]
  clear hwa
  go_wp2_with fail
  refine (HR.out wa HXA.out).mono ?_
  rintro r w3 ⟨rfl, hx3⟩
  have HX3 := hI (HXA.out.trans hx3)
  clear hx3 a0 af HB0
  go_wp2_with fail
  go_ret
  exact givesE_bool (by rw [HQ.out]) HX3.out
 have tz : (E != 0) = false := by simp [hz]
 have HB2 := hI (show B = factsAll s f by rw [HB.out]; simp [hz])
 have HDD := hI (HD.out (by rw [<- HEE.out]; exact hz))
 have hs6 : n <= 6 := by have := (schema_attrs (s := s) (by rw [<- HEE.out]; exact hz)).2.1; rw [HN.out]; exact this
 clear hz HD HB HEE
 by_cases hlen : fn = n
 case neg =>
  have tl : ((fn : Int) != (n : Int)) = true := by simp; omega
  have HQ := hI (show B = false by rw [HB2.out]; exact factsAll_short (by rw [<- HN.out, <- HFN.out]; exact hlen))
  clear hlen
  go_enter Tryz.func68, Tryz.ntmps68
  go_upto_region 1 with fail
  rw [<- hwa]
  clear hwa
  go_wp2_with fail
  refine (HR.out wa HXA.out).mono ?_
  rintro r w3 ⟨rfl, hx3⟩
  have HX3 := hI (HXA.out.trans hx3)
  obtain ⟨d0, df⟩ := blk1 (hx3.blk HB0.out)
  clear hx3 a0 af HB0
  go_wp2_with fail
  go_ret
  exact givesE_bool (by rw [HQ.out]) HX3.out
 subst hlen
 have tl : ((fn : Int) != (fn : Int)) = false := by simp
 have HLN := hI (show f.length = s.length by rw [<- HN.out, <- HFN.out])
 go_enter Tryz.func68, Tryz.ntmps68
 go_upto_region 1 with fail
 rw [<- hwa]
 clear hwa
 go_wp2_with fail
 refine (HR.out wa HXA.out).mono ?_
 rintro r w3 ⟨rfl, hx3⟩
 have HX3 := hI (HXA.out.trans hx3)
 have HB3 := hI (hx3.blk HB0.out)
 obtain ⟨d0, df⟩ := blk1 (hx3.blk HB0.out)
 clear hx3 a0 af HB0
 go_wp2_with fail
 clear d0 df
 go_loopw [5] (FctI s f fn w.heap.size (.cells #[.slice a fn c] 24 (0, 0)) w) (fun t _ => fn - (intOf t).toNat)
 case atStart => exact ⟨0, rfl, by omega, fun i _ _ h => by omega, HB3.out, HX3.out⟩
 case round =>
  obtain ⟨k, rfl, hk, hno, hbx, hx⟩ := hrel
  have HNO := hI hno
  have HBX := hI hbx
  have HX := hI hx
  obtain ⟨d0, df⟩ := blk1 hbx
  clear hno hbx hx
  by_cases hkn : k < fn
  ·have t1 : decide ((k : Int) < (fn : Int)) = true := decide_eq_true (by omega)
   have hks : k < s.length := by rw [<- HN.out]; exact hkn
   have hkf : k < f.length := by rw [<- HFN.out]; exact hkn
   have HDK := hI (HDD.out k hks wr HX.out)
   unfold domV at HDK
   obtain ⟨fb, fo, rfl, hcell⟩ := HI.out.2 k hkf
   have HCF := hI hcell
   obtain ⟨z, hz⟩ : ∃ z, z = f[k] := ⟨_, rfl⟩
   obtain ⟨lo, hlo⟩ : ∃ lo, lo = (domB s[k]).1 := ⟨_, rfl⟩
   obtain ⟨hi, hhi⟩ : ∃ hi, hi = (domB s[k]).2 := ⟨_, rfl⟩
   rw [<- hz] at HCF
   rw [<- hlo, <- hhi] at HDK
   have HZ := hI hz
   have HLO := hI hlo
   have HHI := hI hhi
   clear hcell hz hlo hhi
   go_wp2_with fail
   refine HDK.out.mono ?_
   rintro r w5 ⟨rfl, hx5⟩
   have HX5 := hI (HX.out.trans hx5)
   have HB5 := hI (hx5.blk HBX.out)
   have g0 := HX5.out.cell HCF.out
   clear hx5 d0 df HDK
   by_cases h1 : z < lo \/ hi < z
   ·have HQ := hI (show B = false by rw [HB2.out]; exact factsAll_miss hks hkf (by rw [<- HZ.out, <- HLO.out, <- HHI.out]; exact h1))
    by_cases h2 : z < lo
    ·have t2 : decide (z < lo) = true := decide_eq_true h2
     clear h1 h2
     go_wp2_with fail
     go_ret
     exact givesE_bool (by rw [HQ.out]) HX5.out
    have t2 : decide (z < lo) = false := decide_eq_false h2
    have t3 : decide (hi < z) = true := decide_eq_true (by omega)
    clear h1 h2
    go_wp2_with fail
    go_ret
    exact givesE_bool (by rw [HQ.out]) HX5.out
   have t2 : decide (z < lo) = false := decide_eq_false (by omega)
   have t3 : decide (hi < z) = false := decide_eq_false (by omega)
   have HOK := hI (show (domB s[k]).1 <= f[k] /\ f[k] <= (domB s[k]).2 by rw [<- HZ.out, <- HLO.out, <- HHI.out]; omega)
   clear h1
   go_wp2_with fail
   go_roundw
   case rel =>
    refine ⟨k + 1, by go_num, by omega, fun i hi hj hik => ?_, HB5.out, HX5.out⟩
    by_cases e : i = k
    ·subst e; exact HOK.out
    exact HNO.out i hi hj (by omega)
   case measure => simp [intOf]; omega
  have t1 : decide ((k : Int) < (fn : Int)) = false := decide_eq_false (by omega)
  have HQ := hI (show B = true by rw [HB2.out]; exact factsAll_of HLN.out fun i hi hj => HNO.out i hi hj (by have := HFN.out; omega))
  go_wp2_with fail
  go_ret
  exact givesE_bool (by rw [HQ.out]) HX.out
theorem sdomain_calls (x : Attr) (aw : OA) (nw cw : Nat) (w : World) (hn : nw = x.words.length) (hnw : nw <= 1000000000000000) (hk : x.kind = 1 \/ x.kind = 2 \/ x.kind = 3) :
  Calls Tryz.prog 150 #[.agg #[.string x.name, .int .i64 x.kind, .slice aw nw cw, .int .i64 x.lo, .int .i64 x.hi]] w (GivesE (domV x) w) := by
 have hways : ((x.kind == 1) = true /\ domV x = .tuple #[.int .i64 0, .int .i64 ((nw : Int) - 1)]) \/ ((x.kind == 1) = false /\ (x.kind == 2) = true /\ domV x = .tuple #[.int .i64 x.lo, .int .i64 x.hi]) \/ ((x.kind == 1) = false /\ (x.kind == 2) = false /\ domV x = .tuple #[.int .i64 0, .int .i64 1]) := by
  unfold domV domB
  rcases hk with hk | hk | hk
  ·exact Or.inl ⟨by simp [hk], by rw [if_pos hk, hn]⟩
  ·exact Or.inr (Or.inl ⟨by simp [hk], by simp [hk], by rw [if_neg (by omega), if_pos hk]⟩)
  exact Or.inr (Or.inr ⟨by simp [hk], by simp [hk], by rw [if_neg (by omega), if_neg (by omega)]⟩)
 clear hk hn
 rcases hways with ⟨e1, hv⟩ | ⟨e1, e2, hv⟩ | ⟨e1, e2, hv⟩
 all_goals
  have HV := hI hv
  clear hv
  go_enter Tryz.func150, Tryz.ntmps150
  go_wp2_with fail
  try go_quiet (fail)
  try go_wp2_with fail
  go_ret2
  exact ⟨by rw [HV.out]; rfl, by first | exact ((Ext.refl w).alloc _).drewN _ | exact (Ext.refl w).alloc _⟩
theorem sValid_calls (s : List Attr) (v : Value) (f : ZI) (fa : OA) (fn fc : Nat) (w : World) (hs : IsSchema w s v) (hf : ∀ x ∈ s, x.fits) (hl : s.length <= 1000000000000000) (hi : IsIntF w f fa fn) (hfn : fn <= 1000000000000000) :
  Calls Tryz.prog 104 #[v, .slice fa fn fc] w (GivesE (.bool (factsB s f)) w) := by
 obtain ⟨a, n, c, rfl, hn, hnc, hoa, hat⟩ := hs.parts
 have HR := hI (fun W (hW : Ext w W) => sValidate_calls s _ W (hs.ext hW) hf hl)
 have HAT := hI hat
 have HN := hI hn
 have HF := hI hf
 have HI := hI hi
 have HFN := hI hi.1
 obtain ⟨B, hB⟩ : ∃ B, B = factsB s f := ⟨_, rfl⟩
 rw [<- hB]
 have HB := hI (show B = (decide (schemaErr s = 0) && factsAll s f) from hB)
 have hn2 : n <= 1000000000000000 := by omega
 clear hs hn hnc hoa hat hf hi hB
 obtain ⟨wa, hwa⟩ : ∃ wa, wa = w.alloc (.cells #[.slice a n c] 24) := ⟨_, rfl⟩
 have hxa : Ext w wa := by rw [hwa]; exact (Ext.refl _).alloc _
 have hb0 : wa.heap[w.heap.size]? = some (.cells #[.slice a n c] 24 (0, 0)) := by rw [hwa]; exact alloc_new w _
 have HXA := hI hxa
 have HB0 := hI hb0
 clear hxa hb0
 obtain ⟨E, hE⟩ : ∃ E, E = schemaErr s := ⟨_, rfl⟩
 rw [<- hE] at HR HB
 have HEE := hI hE
 clear hE
 obtain ⟨a0, af⟩ := blk1 HB0.out
 by_cases hz : E = 0
 case neg =>
  have tz : (E != 0) = true := by simp [hz]
  have HQ := hI (show B = false by rw [HB.out]; simp [hz])
  clear hz
  go_enter Tryz.func104, Tryz.ntmps104
  go_upto_region 1 with fail
  rw [<- hwa]
  clear hwa
  go_wp2_with fail
  refine (HR.out wa HXA.out).mono ?_
  rintro r w3 ⟨rfl, hx3⟩
  have HX3 := hI (HXA.out.trans hx3)
  clear hx3 a0 af HB0
  go_wp2_with fail
  go_ret
  exact givesE_bool (by rw [HQ.out]) HX3.out
 have tz : (E != 0) = false := by simp [hz]
 have HB2 := hI (show B = factsAll s f by rw [HB.out]; simp [hz])
 have HSA := hI (schema_attrs (s := s) (by rw [<- HEE.out]; exact hz))
 clear hz HB HEE
 by_cases hlen : fn = n
 case neg =>
  have tl : ((fn : Int) != (n : Int)) = true := by simp; omega
  have HQ := hI (show B = false by rw [HB2.out]; exact factsAll_short (by rw [<- HN.out, <- HFN.out]; exact hlen))
  clear hlen
  go_enter Tryz.func104, Tryz.ntmps104
  go_upto_region 1 with fail
  rw [<- hwa]
  clear hwa
  go_wp2_with fail
  refine (HR.out wa HXA.out).mono ?_
  rintro r w3 ⟨rfl, hx3⟩
  have HX3 := hI (HXA.out.trans hx3)
  obtain ⟨d0, df⟩ := blk1 (hx3.blk HB0.out)
  clear hx3 a0 af HB0
  go_wp2_with fail
  go_ret
  exact givesE_bool (by rw [HQ.out]) HX3.out
 subst hlen
 have tl : ((fn : Int) != (fn : Int)) = false := by simp
 have HLN := hI (show f.length = s.length by rw [<- HN.out, <- HFN.out])
 go_enter Tryz.func104, Tryz.ntmps104
 go_upto_region 1 with fail
 rw [<- hwa]
 clear hwa
 go_wp2_with fail
 refine (HR.out wa HXA.out).mono ?_
 rintro r w3 ⟨rfl, hx3⟩
 have HX3 := hI (HXA.out.trans hx3)
 have HB3 := hI (hx3.blk HB0.out)
 obtain ⟨d0, df⟩ := blk1 (hx3.blk HB0.out)
 clear hx3 a0 af HB0
 go_wp2_with fail
 clear d0 df
 go_loopw [22] (FctI s f fn w.heap.size (.cells #[.slice a fn c] 24 (0, 0)) w) (fun t _ => fn - (intOf t).toNat)
 case atStart => exact ⟨0, rfl, by omega, fun i _ _ h => by omega, HB3.out, HX3.out⟩
 case round =>
  obtain ⟨k, rfl, hk, hno, hbx, hx⟩ := hrel
  have HNO := hI hno
  have HBX := hI hbx
  have HX := hI hx
  obtain ⟨d0, df⟩ := blk1 hbx
  clear hno hbx hx
  by_cases hkn : k < fn
  ·have t1 : decide ((k : Int) < (fn : Int)) = true := decide_eq_true (by omega)
   have hks : k < s.length := by rw [<- HN.out]; exact hkn
   have hkf : k < f.length := by rw [<- HFN.out]; exact hkn
   obtain ⟨b, off, rfl, hA⟩ := HAT.out k hks
   obtain ⟨aw, nw, cw, hstr, hfive⟩ := hA.five
   obtain ⟨g0, g1, g2, g3, g4⟩ := hfive wr HX.out
   have HDK := hI (fun W => sdomain_calls s[k] aw nw cw W hstr.1 (by rw [hstr.1]; exact (HF.out _ (List.getElem_mem hks)).2.1) (attr_dom (HSA.out.2.2 k hks).1).2.2.2.1)
   unfold domV at HDK
   obtain ⟨fb, fo, rfl, hcell⟩ := HI.out.2 k hkf
   have hcf := HX.out.cell hcell
   obtain ⟨z, hz⟩ : ∃ z, z = f[k] := ⟨_, rfl⟩
   obtain ⟨lo, hlo⟩ : ∃ lo, lo = (domB s[k]).1 := ⟨_, rfl⟩
   obtain ⟨hi, hhi⟩ : ∃ hi, hi = (domB s[k]).2 := ⟨_, rfl⟩
   rw [<- hz] at hcf
   rw [<- hlo, <- hhi] at HDK
   have HZ := hI hz
   have HLO := hI hlo
   have HHI := hI hhi
   clear hcell hz hlo hhi hA hstr hfive
   go_wp2_with fail
   refine (HDK.out _).mono ?_
   rintro r w5 ⟨rfl, hx5⟩
   have HX5 := hI (HX.out.trans hx5)
   have HB5 := hI (hx5.blk HBX.out)
   clear hx5 d0 df HDK
   by_cases h1 : z < lo \/ hi < z
   ·have HQ := hI (show B = false by rw [HB2.out]; exact factsAll_miss hks hkf (by rw [<- HZ.out, <- HLO.out, <- HHI.out]; exact h1))
    by_cases h2 : z < lo
    ·have t2 : decide (z < lo) = true := decide_eq_true h2
     clear h1 h2
     go_wp2_with fail
     go_ret
     exact givesE_bool (by rw [HQ.out]) HX5.out
    have t2 : decide (z < lo) = false := decide_eq_false h2
    have t3 : decide (hi < z) = true := decide_eq_true (by omega)
    clear h1 h2
    go_wp2_with fail
    go_ret
    exact givesE_bool (by rw [HQ.out]) HX5.out
   have t2 : decide (z < lo) = false := decide_eq_false (by omega)
   have t3 : decide (hi < z) = false := decide_eq_false (by omega)
   have HOK := hI (show (domB s[k]).1 <= f[k] /\ f[k] <= (domB s[k]).2 by rw [<- HZ.out, <- HLO.out, <- HHI.out]; omega)
   clear h1
   go_wp2_with fail
   go_roundw
   case rel =>
    refine ⟨k + 1, by go_num, by omega, fun i hi hj hik => ?_, HB5.out, HX5.out⟩
    by_cases e : i = k
    ·subst e; exact HOK.out
    exact HNO.out i hi hj (by omega)
   case measure => simp [intOf]; omega
  have t1 : decide ((k : Int) < (fn : Int)) = false := decide_eq_false (by omega)
  have HQ := hI (show B = true by rw [HB2.out]; exact factsAll_of HLN.out fun i hi hj => HNO.out i hi hj (by have := HFN.out; omega))
  go_wp2_with fail
  go_ret
  exact givesE_bool (by rw [HQ.out]) HX.out
structure It where
 facts : ZI
 value : Int
 sum : Int
 gross : Int
structure Ev where
 number : Int
 known : Int
 kind : Int
 items : List It
 cur : Int
 amount : Int
 target : Int
structure Clm where
 id : Int
 policy : Int
 risk : Int
 hour : Int
 peril : Int
 area : Int
 events : List Ev
def ev0 : Ev := ⟨0, 0, 0, [], 0, 0, 0⟩
def inB (lo hi n : Int) : Bool := decide (lo <= n) && decide (n <= hi)
def moneyB (n : Int) : Bool := inB 0 1073741824 n
def itErr (s : List Attr) (x : It) : Int := if factsB s x.facts = false then 16 else if (moneyB x.value && moneyB x.sum && moneyB x.gross) = false then 1 else 0
def itsErr (s : List Attr) (l : List It) : Int := (firstI (fun i => itErr s (l.getD i ⟨[], 0, 0, 0⟩)) l.length).2
def cashErr (cur amount : Int) : Int := if inB 0 15 cur = false then 15 else if inB 1 1073741824 amount = false then 1 else 0
def orderB (l : List Ev) (x : Ev) : Bool := match l.getLast? with | none => false | some y => decide (x.number <= y.number) || decide (x.known < y.known)
def fieldB (x : Ev) : Bool :=
 (decide (0 < x.items.length) && !(x.kind == 1 || x.kind == 2)) || ((x.cur != 0 || x.amount != 0) && !(x.kind == 3 || x.kind == 4)) || (x.target != 0 && !(x.kind == 7))
def partErr (s : List Attr) (l : List Ev) (x : Ev) : Int :=
 if x.kind = 1 \/ x.kind = 2 then (if 64 < x.items.length then 4 else itsErr s x.items)
 else if x.kind = 3 \/ x.kind = 4 then cashErr x.cur x.amount
 else if x.kind = 7 then (if l.any (fun y => y.number == x.target) = true then 0 else 7)
 else 0
def evErr (s : List Attr) (l : List Ev) (x : Ev) : Int :=
 if inB 1 1048576 x.number = false \/ inB 0 876599 x.known = false then 1
 else if orderB l x = true then 13
 else if inB 1 7 x.kind = false then 11
 else if fieldB x = true then 20
 else partErr s l x
def evsErr (s : List Attr) (l : List Ev) : Int := (firstI (fun i => evErr s (l.take i) (l.getD i ev0)) l.length).2
def idsB (c : Clm) : Bool := inB 1 1048576 c.id && inB 1 1048576 c.policy && inB 1 1048576 c.risk && inB 0 876599 c.hour && inB 0 15 c.peril && inB 0 15 c.area
def clmErr (s : List Attr) (c : Clm) : Int :=
 if schemaErr s ≠ 0 then schemaErr s else if idsB c = false then 1 else if 64 < c.events.length then 4 else evsErr s c.events
def isVoid (x : Ev) : Bool := x.kind == 7
def soundEvs : ZI -> List Ev -> Bool
 | _, [] => true
 | b, x :: r => !((isVoid x && !(b.any (· == x.target))) || b.any (· == x.number)) && soundEvs (x.number :: b) r
def effGo (hour : Int) : ZI -> List Ev -> List Ev
 | _, [] => []
 | v, x :: r => if hour < x.known \/ v.any (· == x.number) = true then effGo hour v r else x :: effGo hour (if isVoid x then x.target :: v else v) r
def effL (l : List Ev) (hour : Int) : List Ev := if soundEvs [] l then (effGo hour [] l.reverse).reverse else []
theorem blk4c {w : World} {b : Nat} {v0 v1 v2 v3 : Value} {t : TypeId} (h : w.heap[b]? = some (.cells #[v0, v1, v2, v3] t (0, 0))) :
  w.cell? ⟨b, 0, none⟩ = some v0 /\ w.cell? ⟨b, 1, none⟩ = some v1 /\ w.cell? ⟨b, 2, none⟩ = some v2 /\ w.cell? ⟨b, 3, none⟩ = some v3 /\ (∀ o, w.frozen? ⟨b, o, none⟩ = false) :=
 ⟨blk_cell h 0, blk_cell h 1, blk_cell h 2, blk_cell h 3, fun o => blk_free h o⟩
theorem blk7 {w : World} {b : Nat} {v0 v1 v2 v3 v4 v5 v6 : Value} {t : TypeId} (h : w.heap[b]? = some (.cells #[v0, v1, v2, v3, v4, v5, v6] t (0, 0))) :
  w.cell? ⟨b, 0, none⟩ = some v0 /\ w.cell? ⟨b, 1, none⟩ = some v1 /\ w.cell? ⟨b, 2, none⟩ = some v2 /\ w.cell? ⟨b, 3, none⟩ = some v3 /\ w.cell? ⟨b, 4, none⟩ = some v4 /\ w.cell? ⟨b, 5, none⟩ = some v5 /\ w.cell? ⟨b, 6, none⟩ = some v6 /\ (∀ o, w.frozen? ⟨b, o, none⟩ = false) :=
 ⟨blk_cell h 0, blk_cell h 1, blk_cell h 2, blk_cell h 3, blk_cell h 4, blk_cell h 5, blk_cell h 6, fun o => blk_free h o⟩
structure ItV where
 x : It
 a : OA
 n : Nat
 c : Nat
def ItV.cells (v : ItV) : List Value := [.slice v.a v.n v.c, .int .i64 v.x.value, .int .i64 v.x.sum, .int .i64 v.x.gross]
theorem ItV.len (v : ItV) : v.cells.length = 4 := rfl
def IsIts (w : World) (l : List It) (a : OA) (n c : Nat) : Prop := ∃ vs : List ItV, IsRows w 4 ItV.cells vs a n c /\ l = vs.map (·.x) /\ ∀ v ∈ vs, IsIntF w v.x.facts v.a v.n
theorem IsIts.mono {w w' : World} {l : List It} {a : OA} {n c : Nat} (h : IsIts w l a n c) (hs : Sub w w') : IsIts w' l a n c := by
 obtain ⟨vs, h1, h2, h3⟩ := h
 exact ⟨vs, h1.mono hs, h2, fun v hv => (h3 v hv).mono hs⟩
theorem IsIts.ext {w w' : World} {l : List It} {a : OA} {n c : Nat} (h : IsIts w l a n c) (he : Ext w w') : IsIts w' l a n c := h.mono he.sub
theorem IsIts.len {w : World} {l : List It} {a : OA} {n c : Nat} (h : IsIts w l a n c) : n = l.length := by
 obtain ⟨vs, h1, h2, _⟩ := h
 rw [h2, h1.1, List.length_map]
theorem IsIts.nil (w : World) : IsIts w [] none 0 0 := ⟨[], ⟨rfl, Nat.le_refl _, Or.inl ⟨rfl, rfl⟩, fun i h => by simp at h⟩, rfl, fun v h => by simp at h⟩
theorem IsIts.at {w : World} {l : List It} {a : OA} {n c : Nat} (h : IsIts w l a n c) {k : Nat} (hk : k < l.length) : ∃ (b off : Nat) (v : ItV), a = some ⟨b, off, none⟩ /\ v.x = l[k] /\ IsIntF w l[k].facts v.a v.n /\
  w.cell? ⟨b, off + k * 4, none⟩ = some (.slice v.a v.n v.c) /\ w.cell? ⟨b, off + k * 4 + 1, none⟩ = some (.int .i64 l[k].value) /\ w.cell? ⟨b, off + k * 4 + 2, none⟩ = some (.int .i64 l[k].sum) /\ w.cell? ⟨b, off + k * 4 + 3, none⟩ = some (.int .i64 l[k].gross) := by
 obtain ⟨vs, h1, rfl, h3⟩ := h
 have hk' : k < vs.length := by simpa using hk
 obtain ⟨b, off, e, hc⟩ := h1.2.2.2 k hk'
 refine ⟨b, off, vs[k], e, by simp, by simpa using h3 _ (List.getElem_mem hk'), ?_, ?_, ?_, ?_⟩
 ·simpa [ItV.cells] using hc 0 (by simp [ItV.len])
 ·simpa [ItV.cells] using hc 1 (by simp [ItV.len])
 ·simpa [ItV.cells] using hc 2 (by simp [ItV.len])
 simpa [ItV.cells] using hc 3 (by simp [ItV.len])
structure EvV where
 x : Ev
 a : OA
 n : Nat
 c : Nat
def EvV.cells (v : EvV) : List Value := [.int .i64 v.x.number, .int .i64 v.x.known, .int .i64 v.x.kind, .slice v.a v.n v.c, .int .i64 v.x.cur, .int .i64 v.x.amount, .int .i64 v.x.target]
theorem EvV.len (v : EvV) : v.cells.length = 7 := rfl
def EvV.val (v : EvV) : Value := .agg #[.int .i64 v.x.number, .int .i64 v.x.known, .int .i64 v.x.kind, .slice v.a v.n v.c, .int .i64 v.x.cur, .int .i64 v.x.amount, .int .i64 v.x.target]
def IsEvs (w : World) (l : List Ev) (a : OA) (n c : Nat) : Prop := ∃ vs : List EvV, IsRows w 7 EvV.cells vs a n c /\ l = vs.map (·.x) /\ ∀ v ∈ vs, IsIts w v.x.items v.a v.n v.c
theorem IsEvs.mono {w w' : World} {l : List Ev} {a : OA} {n c : Nat} (h : IsEvs w l a n c) (hs : Sub w w') : IsEvs w' l a n c := by
 obtain ⟨vs, h1, h2, h3⟩ := h
 exact ⟨vs, h1.mono hs, h2, fun v hv => (h3 v hv).mono hs⟩
theorem IsEvs.ext {w w' : World} {l : List Ev} {a : OA} {n c : Nat} (h : IsEvs w l a n c) (he : Ext w w') : IsEvs w' l a n c := h.mono he.sub
theorem IsEvs.len {w : World} {l : List Ev} {a : OA} {n c : Nat} (h : IsEvs w l a n c) : n = l.length := by
 obtain ⟨vs, h1, h2, _⟩ := h
 rw [h2, h1.1, List.length_map]
theorem IsEvs.nil (w : World) : IsEvs w [] none 0 0 := ⟨[], ⟨rfl, Nat.le_refl _, Or.inl ⟨rfl, rfl⟩, fun i h => by simp at h⟩, rfl, fun v h => by simp at h⟩
theorem IsEvs.at {w : World} {l : List Ev} {a : OA} {n c : Nat} (h : IsEvs w l a n c) {k : Nat} (hk : k < l.length) : ∃ (b off : Nat) (v : EvV), a = some ⟨b, off, none⟩ /\ v.x = l[k] /\ IsIts w l[k].items v.a v.n v.c /\ RowAt w b (off + k * 7) v.cells := by
 obtain ⟨vs, h1, rfl, h3⟩ := h
 have hk' : k < vs.length := by simpa using hk
 obtain ⟨b, off, e, hc⟩ := h1.2.2.2 k hk'
 exact ⟨b, off, vs[k], e, by simp, by simpa using h3 _ (List.getElem_mem hk'), hc⟩
theorem RowAt.seven {w : World} {b off : Nat} {v : EvV} (h : RowAt w b off v.cells) : w.cell? ⟨b, off, none⟩ = some (.int .i64 v.x.number) /\ w.cell? ⟨b, off + 1, none⟩ = some (.int .i64 v.x.known) /\ w.cell? ⟨b, off + 2, none⟩ = some (.int .i64 v.x.kind) /\
  w.cell? ⟨b, off + 3, none⟩ = some (.slice v.a v.n v.c) /\ w.cell? ⟨b, off + 4, none⟩ = some (.int .i64 v.x.cur) /\ w.cell? ⟨b, off + 5, none⟩ = some (.int .i64 v.x.amount) /\ w.cell? ⟨b, off + 6, none⟩ = some (.int .i64 v.x.target) :=
 ⟨h 0 (by simp [EvV.len]), h 1 (by simp [EvV.len]), h 2 (by simp [EvV.len]), h 3 (by simp [EvV.len]), h 4 (by simp [EvV.len]), h 5 (by simp [EvV.len]), h 6 (by simp [EvV.len])⟩
theorem IsEvs.take {w : World} {l : List Ev} {a : OA} {n c : Nat} (h : IsEvs w l a n c) {k : Nat} (hk : k <= n) : IsEvs w (l.take k) a k c := by
 obtain ⟨vs, ⟨g1, g2, g3, g4⟩, rfl, h3⟩ := h
 refine ⟨vs.take k, ⟨by simp; omega, by omega, g3, fun i hi => ?_⟩, by simp, fun v hv => h3 v (List.mem_of_mem_take hv)⟩
 have hi' : i < vs.length := by simp at hi; omega
 obtain ⟨b, off, e, hc⟩ := g4 i hi'
 refine ⟨b, off, e, fun j hj => ?_⟩
 simp only [List.getElem_take] at hj ⊢
 exact hc j hj
structure Edm where
 frm : Int
 upto : Int
 remove : ZB
 clauses : List Cla
structure Wrd where
 clauses : List Cla
 ends : List Edm
def periodB (f t : Int) : Bool := decide (0 <= f) && decide (f < t) && decide (t <= 876600)
def containsB (f t h : Int) : Bool := periodB f t && decide (f <= h) && decide (h < t)
def hoursB (h : Int) : Bool := decide (0 <= h) && decide (h <= 876599)
def clsB (l : List Cla) : Bool := decide (l.length <= 40) && l.all clauseB
def edmB (x : Edm) : Bool := periodB x.frm x.upto && decide (x.upto <= 876599) && decide (x.remove.length <= 40) && x.remove.all nameB && decide x.remove.Nodup && clsB x.clauses
def wordingB (x : Wrd) : Bool := decide (x.ends.length <= 12) && clsB x.clauses && x.ends.all edmB
def hasName (l : List Cla) (s : BA) : Bool := (findAt l s).isSome
def addAll : List Cla -> List Cla -> Option (List Cla)
 | l, [] => some l
 | l, c :: r => if hasName l c.name = true then none else addAll (l ++ [c]) r
def keptOf (rm : ZB) (l : List Cla) : List Cla := l.filter fun c => !(rm.any fun y => decide (y = c.name))
def stepRes : Option (List Cla) -> List Cla × Int
 | none => ([], 8)
 | some m => if 100 < m.length then ([], 4) else (m, 0)
def edmStep (h : Int) (l : List Cla) (x : Edm) : List Cla × Int :=
 if containsB x.frm x.upto h = false then (l, 0)
 else if x.remove.all (hasName l) = false then ([], 7)
 else stepRes (addAll (keptOf x.remove l) x.clauses)
def forceGo (h : Int) : List Cla -> List Edm -> List Cla × Int
 | l, [] => (l, 0)
 | l, x :: r => if (edmStep h l x).2 ≠ 0 then ([], (edmStep h l x).2) else forceGo h (edmStep h l x).1 r
def startRes (h : Int) (r : List Edm) : Option (List Cla) -> List Cla × Int
 | none => ([], 8)
 | some l => forceGo h l r
def inForce (x : Wrd) (h : Int) : List Cla × Int :=
 if wordingB x = false then ([], 5) else if hoursB h = false then ([], 1) else startRes h x.ends (addAll [] x.clauses)
def addPt : ZI -> Int -> ZI
 | [], n => [n]
 | x :: r, n => if n < x then n :: x :: r else if n = x then x :: r else x :: addPt r n
def pointsGo : ZI -> List Edm -> ZI
 | l, [] => l
 | l, x :: r => pointsGo (addPt (addPt l x.frm) x.upto) r
def points (x : Wrd) : ZI := if wordingB x = false then [] else pointsGo [0] x.ends
structure EdmV where
 x : Edm
 ra : OA
 rn : Nat
 rc : Nat
 ca : OA
 cn : Nat
 cc : Nat
def EdmV.cells (v : EdmV) : List Value := [.int .i64 v.x.frm, .int .i64 v.x.upto, .slice v.ra v.rn v.rc, .slice v.ca v.cn v.cc]
theorem EdmV.len (v : EdmV) : v.cells.length = 4 := rfl
def IsEdm (w : World) (v : EdmV) : Prop := IsStrs w v.x.remove v.ra v.rn v.rc /\ IsClas w v.x.clauses v.ca v.cn v.cc
theorem IsEdm.mono {w w' : World} {v : EdmV} (h : IsEdm w v) (hs : Sub w w') : IsEdm w' v := ⟨h.1.mono hs, h.2.mono hs⟩
def IsEdms (w : World) (l : List Edm) (a : OA) (n c : Nat) : Prop := ∃ vs : List EdmV, IsRows w 4 EdmV.cells vs a n c /\ l = vs.map (·.x) /\ ∀ v ∈ vs, IsEdm w v
theorem IsEdms.mono {w w' : World} {l : List Edm} {a : OA} {n c : Nat} (h : IsEdms w l a n c) (hs : Sub w w') : IsEdms w' l a n c := by
 obtain ⟨vs, h1, h2, h3⟩ := h
 exact ⟨vs, h1.mono hs, h2, fun v hv => (h3 v hv).mono hs⟩
theorem IsEdms.ext {w w' : World} {l : List Edm} {a : OA} {n c : Nat} (h : IsEdms w l a n c) (he : Ext w w') : IsEdms w' l a n c := h.mono he.sub
theorem IsEdms.len {w : World} {l : List Edm} {a : OA} {n c : Nat} (h : IsEdms w l a n c) : n = l.length := by
 obtain ⟨vs, h1, h2, _⟩ := h
 rw [h2, h1.1, List.length_map]
theorem IsEdms.at {w : World} {l : List Edm} {a : OA} {n c : Nat} (h : IsEdms w l a n c) {k : Nat} (hk : k < l.length) : ∃ (b off : Nat) (v : EdmV), a = some ⟨b, off, none⟩ /\ v.x = l[k] /\ IsEdm w v /\
  w.cell? ⟨b, off + k * 4, none⟩ = some (.int .i64 v.x.frm) /\ w.cell? ⟨b, off + k * 4 + 1, none⟩ = some (.int .i64 v.x.upto) /\ w.cell? ⟨b, off + k * 4 + 2, none⟩ = some (.slice v.ra v.rn v.rc) /\ w.cell? ⟨b, off + k * 4 + 3, none⟩ = some (.slice v.ca v.cn v.cc) := by
 obtain ⟨vs, h1, rfl, h3⟩ := h
 have hk' : k < vs.length := by simpa using hk
 obtain ⟨b, off, e, hc⟩ := h1.2.2.2 k hk'
 refine ⟨b, off, vs[k], e, by simp, h3 _ (List.getElem_mem hk'), ?_, ?_, ?_, ?_⟩
 ·simpa [EdmV.cells] using hc 0 (by simp [EdmV.len])
 ·simpa [EdmV.cells] using hc 1 (by simp [EdmV.len])
 ·simpa [EdmV.cells] using hc 2 (by simp [EdmV.len])
 simpa [EdmV.cells] using hc 3 (by simp [EdmV.len])
def IsWrd (w : World) (x : Wrd) (v : Value) : Prop := ∃ ca cn cc ea en ec, v = .agg #[.slice ca cn cc, .slice ea en ec] /\ IsClas w x.clauses ca cn cc /\ IsEdms w x.ends ea en ec
theorem IsWrd.mono {w w' : World} {x : Wrd} {v : Value} (h : IsWrd w x v) (hs : Sub w w') : IsWrd w' x v := by
 obtain ⟨ca, cn, cc, ea, en, ec, rfl, h1, h2⟩ := h
 exact ⟨ca, cn, cc, ea, en, ec, rfl, h1.mono hs, h2.mono hs⟩
theorem IsWrd.ext {w w' : World} {x : Wrd} {v : Value} (h : IsWrd w x v) (he : Ext w w') : IsWrd w' x v := h.mono he.sub
def fitClas (l : List Cla) : Prop := l.length <= 1000000000000000 /\ ∀ c ∈ l, c.fit
def Edm.fit (x : Edm) : Prop := x.remove.length <= 1000000000000000 /\ (∀ y ∈ x.remove, y.size <= 1000000000000000) /\ fitClas x.clauses
def Wrd.fit (x : Wrd) : Prop := fitClas x.clauses /\ x.ends.length <= 1000000000000000 /\ ∀ y ∈ x.ends, y.fit
end Go.Proofs.YtpkljcgihobaiaaGreat
