/-
  Texts of the claim, joined: Slim, Ref2, Ref3, Ref4, Names1, Ord1, Spec10, RIdx.
-/
import Derived.Test.YtefjomofjejklaaGreatCc03
import Derived.Maps.OwnSet
import Derived.Sort.KeysCollected
namespace Go.Proofs.YtefjomofjejklaaGreat
set_option maxRecDepth 100000
set_option maxHeartbeats 32000000
mutual
def Ex.slim : Ex -> Prop
 | .mk _ _ _ _ _ args => args.length <= 1000000000000000 /\ slimAll args
def slimAll : List Ex -> Prop
 | [] => True
 | e :: r => e.slim /\ slimAll r
end
theorem slimAll_iff : (l : List Ex) -> (slimAll l ↔ ∀ x ∈ l, x.slim)
 | [] => by simp [slimAll]
 | e :: r => by rw [slimAll, slimAll_iff r]; simp
theorem slim_parts {e : Ex} (h : e.slim) : e.args.length <= 1000000000000000 /\ ∀ x ∈ e.args, x.slim := by
 cases e; unfold Ex.slim at h; exact ⟨h.1, (slimAll_iff _).1 h.2⟩
mutual
theorem slim_of_size : (e : Ex) -> e.size <= 1000000000000000 -> e.slim
 | .mk op name words lo hi args, h => by
  rw [Ex.size] at h
  have := length_le_sizes args
  unfold Ex.slim
  exact ⟨by omega, slimAll_of_size args (by omega)⟩
theorem slimAll_of_size : (l : List Ex) -> sizes l <= 1000000000000000 -> slimAll l
 | [], _ => by unfold slimAll; trivial
 | e :: r, h => by
  rw [sizes] at h
  unfold slimAll
  exact ⟨slim_of_size e (by omega), slimAll_of_size r (by omega)⟩
end
open Go.RowKit
theorem size_pos (e : Ex) : 1 <= e.size := by rw [e.size_eq]; omega
def refSize (e : Ex) : Nat := min e.size 301
def refSizes : List Ex -> Nat
 | [] => 0
 | e :: r => refSize e + refSizes r
theorem refSizes_le (l : List Ex) : refSizes l <= sizes l /\ l.length <= refSizes l /\ min (1 + refSizes l) 301 = min (1 + sizes l) 301 := by
 induction l with
 | nil => simp [refSizes, sizes]
 | cons e r ih => have := size_pos e; simp only [refSizes, sizes, refSize, List.length_cons]; omega
theorem refSizes_take_succ (l : List Ex) (k : Nat) (hk : k < l.length) : refSizes (l.take (k + 1)) = refSizes (l.take k) + refSize l[k] := by
 induction l generalizing k with
 | nil => simp at hk
 | cons e r ih =>
  cases k with
  | zero => simp [refSizes]
  | succ k => have := ih k (by simpa using hk); simp only [List.take_succ_cons, refSizes, this, List.getElem_cons_succ]; omega
theorem refSize_of {e : Ex} {k : Nat} (hs : k = e.args.length \/ 300 < 1 + refSizes (e.args.take k)) : min (1 + refSizes (e.args.take k)) 301 = refSize e := by
 have h1 := e.size_eq
 have h2 := refSizes_le (e.args.take k)
 have h3 := sizes_take_le e.args k
 have h4 := refSizes_le e.args
 unfold refSize
 rcases hs with hs | hs
 ·rw [hs, List.take_length]; omega
 omega
theorem rsize_calls (m : Nat) : ∀ (e : Ex) (v : Value) (w : World), e.size <= m -> IsEx w e v -> Calls Tryz.prog 115 #[v] w (GivesE (.int .i64 (refSize e)) w) := by
 induction m with
 | zero => intro e v w h; have := size_pos e; omega
 | succ m ih =>
  intro e v w hm he
  obtain ⟨aw, nw, cw, aa, na, ca, rfl, hw, hna, hca, ha, hx⟩ := he.parts
  have HX := hI hx
  have HN := hI hna
  have hS : e.size = 1 + sizes e.args := e.size_eq
  have hb2 : sizes e.args <= m := by omega
  have H : Hid (∀ (e : Ex) (v : Value) (w : World), e.size <= m -> IsEx w e v -> Calls Tryz.prog 115 #[v] w (GivesE (.int .i64 (refSize e)) w)) := ih
  clear ih hx hna hw hca ha he hS hm
  unfold exV
  go_enter Tryz.func115, Tryz.ntmps115
  go_wp2_with fail
  go_loopw [3, 4] (fun s i wr => ∃ k : Nat, k <= na /\ i = .int .i64 k /\ s = .int .i64 (1 + (refSizes (e.args.take k) : Int)) /\ refSizes (e.args.take k) <= 601 /\ wr.heap[w.heap.size]? = some (.cells #[.int .i64 e.op, .string e.name, .slice aw nw cw, .int .i64 e.lo, .int .i64 e.hi, .slice aa na ca] 96 (0, 0)) /\ Ext w wr) (fun _ i _ => na - (intOf i).toNat)
  case atStart => exact ⟨0, by omega, rfl, by simp [refSizes], by simp [refSizes], alloc_new w _, (Ext.refl w).alloc _⟩
  case round =>
   obtain ⟨k, hk, rfl, rfl, hb6, hbx, hb⟩ := hrel
   have HBX := hI hbx
   have HB := hI hb
   have hlt0 := blk_lt hbx
   obtain ⟨b0, b1, b2, b3, b4, b5, bf⟩ := blk6 hbx
   have hkl : k <= refSizes (e.args.take k) := by have := (refSizes_le (e.args.take k)).2.1; have hl := HN.out; rw [List.length_take] at this; omega
   clear hbx hb
   by_cases hlt : k < na
   ·have hlt' : k < e.args.length := by have := HN.out; omega
    by_cases hc : refSizes (e.args.take k) <= 299
    ·have t1 : decide ((k : Int) < (na : Int)) = true := by simp; omega
     have t2 : decide (1 + (refSizes (e.args.take k) : Int) <= 300) = true := by simp; omega
     obtain ⟨b, off, rfl, aw1, nw1, cw1, aa1, na1, ca1, h0, h1, h2, h3, h4, h5, h6⟩ := ExsD.at e.args _ (ExsD.ext HB.out e.args _ HX.out) k hlt'
     have H6 := hI h6
     have hs1 := hI (refSizes_take_succ e.args k hlt')
     have hsz := sizes_take_succ e.args k hlt'
     have hsl := sizes_take_le e.args (k + 1)
     have hk1 : e.args[k].size <= m := by omega
     have hr : refSize e.args[k] <= 301 := by unfold refSize; omega
     clear h6 hsz hsl
     go_wp2_with fail
     refine (H.out e.args[k] _ _ hk1 H6.out).mono ?_
     rintro r w1 ⟨rfl, hb1⟩
     have HE1 := hI hb1
     clear b0 b1 b2 b3 b4 b5 bf hb1
     go_wp2_with fail
     go_roundw
     case rel => exact ⟨k + 1, by omega, by go_num, by rw [hs1.out]; go_num, by rw [hs1.out]; omega, HE1.out.blk HBX.out, HB.out.trans HE1.out⟩
     case measure => simp [intOf]; omega
    have t1 : decide ((k : Int) < (na : Int)) = true := by simp; omega
    have t2 : decide (1 + (refSizes (e.args.take k) : Int) <= 300) = false := by simp; omega
    have H1 := hI (refSize_of (e := e) (k := k) (Or.inr (by omega)))
    go_wp2_with fail
    all_goals (go_ret; exact givesE_int (by rw [<- H1.out]; omega) HB.out)
   have t1 : decide ((k : Int) < (na : Int)) = false := by simp; omega
   have H1 := hI (refSize_of (e := e) (k := k) (Or.inl (by have := HN.out; omega)))
   go_wp2_with fail
   all_goals (go_ret; exact givesE_int (by rw [<- H1.out]; omega) HB.out)
theorem deeper_slim (m : Nat) : ∀ (e : Ex) (v : Value) (w : World) (n : Nat), e.size <= m -> e.slim -> n <= 1000 -> IsEx w e v -> Calls Tryz.prog 114 #[v, .int .i64 n] w (GivesE (.bool (decide (n < e.depth))) w) := by
 induction m with
 | zero => intro e v w n h; have := size_pos e; omega
 | succ m ih =>
  intro e v w n hm hsl hn he
  obtain ⟨hsl1, hsl2⟩ := slim_parts hsl
  obtain ⟨aw, nw, cw, aa, na, ca, rfl, hw, hna, hca, ha, hx⟩ := he.parts
  have HX := hI hx
  have HN := hI hna
  have HD := hI e.depth_eq
  have hS : e.size = 1 + sizes e.args := e.size_eq
  have hb2 : sizes e.args <= m := by omega
  have hna2 : na <= 1000000000000000 := by omega
  have HSL := hI hsl2
  have H : Hid (∀ (e : Ex) (v : Value) (w : World) (n : Nat), e.size <= m -> e.slim -> n <= 1000 -> IsEx w e v -> Calls Tryz.prog 114 #[v, .int .i64 n] w (GivesE (.bool (decide (n < e.depth))) w)) := fun e v w n h1 h0 h2 h3 => ih e v w n h1 h0 h2 h3
  clear hsl hsl1 hsl2 ih hx hna hw hca ha he hS hm
  unfold exV
  by_cases hn0 : n = 0
  ·have t1 : ((n : Int) == 0) = true := by simp [hn0]
   have H1 := hI (show decide (n < e.depth) = true by rw [decide_eq_true_eq, HD.out]; omega)
   generalize decide (n < e.depth) = B at *
   go_enter Tryz.func114, Tryz.ntmps114
   go_wp2_with fail
   go_ret
   exact givesE_bool (by rw [H1.out]) ((Ext.refl w).alloc _)
  have hn1 : 1 <= n := by omega
  have t1 : ((n : Int) == 0) = false := by simp; omega
  obtain ⟨B, hB⟩ : ∃ B, B = decide (n < e.depth) := ⟨_, rfl⟩
  rw [<- hB]
  have HBQ := hI hB
  clear hB
  go_enter Tryz.func114, Tryz.ntmps114
  go_wp2_with fail
  go_loopw [5] (fun i wr => ∃ k : Nat, k <= na /\ i = .int .i64 k /\ (∀ j (hj : j < e.args.length), j < k -> ¬ n - 1 < e.args[j].depth) /\ wr.heap[w.heap.size]? = some (.cells #[.int .i64 e.op, .string e.name, .slice aw nw cw, .int .i64 e.lo, .int .i64 e.hi, .slice aa na ca] 96 (0, 0)) /\ Ext w wr) (fun i _ => na - (intOf i).toNat)
  case atStart => exact ⟨0, by omega, rfl, fun j _ h => by omega, alloc_new w _, (Ext.refl w).alloc _⟩
  case round =>
   obtain ⟨k, hk, rfl, hall, hbx, hb⟩ := hrel
   have HA := hI hall
   have HBX := hI hbx
   have HB := hI hb
   have hlt0 := blk_lt hbx
   obtain ⟨b0, b1, b2, b3, b4, b5, bf⟩ := blk6 hbx
   clear hbx hb hall
   by_cases hlt : k < na
   ·have hlt' : k < e.args.length := by have := HN.out; omega
    obtain ⟨b, off, rfl, aw1, nw1, cw1, aa1, na1, ca1, h0, h1, h2, h3, h4, h5, h6⟩ := ExsD.at e.args _ (ExsD.ext HB.out e.args _ HX.out) k hlt'
    have H6 := hI h6
    have hsz := sizes_take_succ e.args k hlt'
    have hsl := sizes_take_le e.args (k + 1)
    have hk1 : e.args[k].size <= m := by omega
    have HM1 := hI (depths_mem (List.getElem_mem hlt'))
    clear h6 hsz hsl
    have HCA := hI (show (n : Int) - 1 = ((n - 1 : Nat) : Int) by omega)
    go_wp2_with fail
    rw [HCA.out]
    refine (H.out e.args[k] _ _ (n - 1) hk1 (HSL.out _ (List.getElem_mem hlt')) (by omega) H6.out).mono ?_
    rintro r w1 ⟨rfl, hb1⟩
    have HE1 := hI hb1
    clear b0 b1 b2 b3 b4 b5 bf hb1
    by_cases hdp : n - 1 < e.args[k].depth
    ·rw [decide_eq_true hdp]
     have H1 := hI (show B = true by rw [HBQ.out, decide_eq_true_eq, HD.out]; have := HM1.out; omega)
     clear hdp
     go_wp2_with fail
     go_ret
     exact givesE_bool (by rw [H1.out]) (HB.out.trans HE1.out)
    rw [decide_eq_false hdp]
    have HND := hI hdp
    clear hdp
    go_wp2_with fail
    go_roundw
    case rel =>
     refine ⟨k + 1, by omega, by go_num, fun j hj hjk => ?_, HE1.out.blk HBX.out, HB.out.trans HE1.out⟩
     by_cases ej : j = k
     ·subst ej; exact HND.out
     exact HA.out j hj (by omega)
    case measure => simp [intOf]; omega
   have H1 := hI (show B = false by
    rw [HBQ.out, decide_eq_false_iff_not, HD.out]
    have : ∀ l : List Ex, (∀ x ∈ l, ¬ n - 1 < x.depth) -> depths l <= n - 1 := by
     intro l
     induction l with
     | nil => intro _; simp [depths]
     | cons y r ih =>
      intro h
      have h1 := h y (by simp)
      have h2 := ih (fun x hx => h x (List.mem_cons_of_mem _ hx))
      simp only [depths]; omega
    have := this e.args (fun x hx => by
     obtain ⟨j, hj, rfl⟩ := List.getElem_of_mem hx
     exact HA.out j hj (by have := HN.out; omega))
    omega)
   go_wp2_with fail
   go_ret
   exact givesE_bool (by rw [H1.out]) HB.out
def refNode (op : Int) (name : BA) (words : ZB) (lo hi : Int) (na nw : Nat) : Bool :=
 decide (1 <= op /\ op <= 8) && (if op == 3 || op == 4 || op == 5 then nameB name else name.toList.isEmpty) && (if op == 4 then decide (1 <= nw) && decide (nw <= 12) && words.all nameB && decide words.Nodup else decide (nw = 0)) &&
 (if op == 5 then numberB lo && numberB hi && decide (lo <= hi) else (lo == 0) && (hi == 0)) && (if op == 6 then decide (na = 1) else if op == 7 || op == 8 then decide (2 <= na) else decide (na = 0))
def refNodeB (e : Ex) : Bool := refNode e.op e.name e.words e.lo e.hi e.args.length e.words.length
theorem int_beq0 (n : Nat) : ((n : Int) == 0) = decide (n = 0) := by rw [Bool.eq_iff_iff]; simp
theorem int_beq1 (n : Nat) : ((n : Int) == 1) = decide (n = 1) := by rw [Bool.eq_iff_iff]; simp; omega
theorem rnode_calls (e : Ex) (v : Value) (w : World) (he : IsEx w e v) (hs : e.name.size <= 1000000000000000) (hws : ∀ x ∈ e.words, x.size <= 1000000000000000) (hnw : e.words.length <= 1000000000000000) :
  Calls Tryz.prog 128 #[v] w (GivesE (.bool (refNodeB e)) w) := by
 obtain ⟨aw, nw, cw, aa, na, ca, rfl, hw, hna, hca, ha, hx⟩ := he.parts
 clear he hx ha hca
 have HW := hI hw
 have HS := hI hws
 have hnw' : nw <= 1000000000000000 := by have := hw.1; omega
 have HB := hI (show refNodeB e = refNode e.op e.name e.words e.lo e.hi na nw by unfold refNodeB; rw [hna, hw.1])
 generalize refNodeB e = B at *
 clear hw hws hna hnw
 obtain ⟨op, name, words, lo, hi, args⟩ := e
 simp only [Ex.op, Ex.name, Ex.words, Ex.lo, Ex.hi] at *
 unfold exV
 by_cases h1 : 1 <= op
 ·by_cases h8 : op <= 8
  ·have hk : op = 1 \/ op = 2 \/ op = 3 \/ op = 4 \/ op = 5 \/ op = 6 \/ op = 7 \/ op = 8 := by omega
   clear h1 h8
   rcases hk with rfl | rfl | rfl | rfl | rfl | rfl | rfl | rfl
   case inr.inr.inr.inl =>
    obtain ⟨P, hP⟩ : ∃ P, P = words.all nameB := ⟨_, rfl⟩
    obtain ⟨Q, hQ⟩ : ∃ Q, Q = decide words.Nodup := ⟨_, rfl⟩
    have HP := hI hP
    have HQ := hI hQ
    have HB2 := hI (show B = (nameB name && (decide (1 <= nw) && decide (nw <= 12) && P && Q) && ((lo == 0) && (hi == 0)) && decide (na = 0)) by rw [HB.out]; unfold refNode; rw [hP, hQ]; simp)
    clear hP hQ HB
    cases P
    all_goals cases Q
    all_goals
     by_cases hn1 : 1 <= nw
     ·by_cases hn2 : nw <= 12
      ·have t1 : decide ((nw : Int) < 1) = false := by simp; omega
       have t2 : decide ((12 : Int) < nw) = false := by simp; omega
       have HB3 := hI HB2.out
       simp only [hn1, hn2, decide_true, Bool.false_and, Bool.and_false, Bool.and_true] at HB3
       clear HB2
       go_enter Tryz.func128, Tryz.ntmps128
       go_wp2_with (first
        | (go_at_call 72; refine (rname_calls _ _ hs).mono ?_; rintro e w' ⟨rfl, rfl⟩)
        | (go_at_call 77; refine (names_calls words _ _ _ _ (HW.out.ext ((Ext.refl w).alloc _)) hnw' HS.out).mono ?_; rintro e w' ⟨rfl, rfl⟩; rw [<- HP.out])
        | (go_at_call 78; refine (distinct_calls words _ _ _ _ (HW.out.ext ((Ext.refl w).alloc _)) hnw').mono ?_; rintro e w' ⟨rfl, q, rfl⟩; rw [<- HQ.out]))
       all_goals (go_ret; exact givesE_bool (by first | (rw [HB3.out]; done) | (rw [HB3.out]; simp_all [int_beq0])) (by first | exact (Ext.refl w).alloc _ | exact ((Ext.refl w).alloc _).drewN _))
      have t1 : decide ((nw : Int) < 1) = false := by simp; omega
      have t2 : decide ((12 : Int) < nw) = true := by simp; omega
      have HF := hI (show B = false by rw [HB2.out]; simp [hn2])
      clear HB2
      go_enter Tryz.func128, Tryz.ntmps128
      go_wp2_with (go_at_call 72; refine (rname_calls _ _ hs).mono ?_; rintro e w' ⟨rfl, rfl⟩)
      all_goals (go_ret; exact givesE_bool (by rw [HF.out]) ((Ext.refl w).alloc _))
     have t1 : decide ((nw : Int) < 1) = true := by simp; omega
     have HF := hI (show B = false by rw [HB2.out]; simp [hn1])
     clear HB2
     go_enter Tryz.func128, Tryz.ntmps128
     go_wp2_with (go_at_call 72; refine (rname_calls _ _ hs).mono ?_; rintro e w' ⟨rfl, rfl⟩)
     all_goals (go_ret; exact givesE_bool (by rw [HF.out]) ((Ext.refl w).alloc _))
   all_goals
    go_enter Tryz.func128, Tryz.ntmps128
    go_wp2_with (first
     | (go_at_call 72; refine (rname_calls _ _ hs).mono ?_; rintro e w' ⟨rfl, rfl⟩)
     | (go_at_call 113; refine (far_calls _ _).mono ?_; rintro e w' ⟨rfl, rfl⟩))
    all_goals (go_ret; exact givesE_bool (by rw [HB.out]; simp_all [refNode, int_beq0, int_beq1]; try omega) ((Ext.refl w).alloc _))
  have H := hI (show B = false by rw [HB.out]; simp [refNode, h8])
  have t1 : decide (op < 1) = false := by simp; omega
  have t2 : decide (8 < op) = true := by simp; omega
  have e3 : (op == 3) = false := by simp; omega
  have e4 : (op == 4) = false := by simp; omega
  have e5 : (op == 5) = false := by simp; omega
  go_enter Tryz.func128, Tryz.ntmps128
  go_wp2_with fail
  go_ret
  exact givesE_bool (by rw [H.out]) ((Ext.refl w).alloc _)
 have H := hI (show B = false by rw [HB.out]; simp [refNode, h1])
 have t1 : decide (op < 1) = true := by simp; omega
 have e3 : (op == 3) = false := by simp; omega
 have e4 : (op == 4) = false := by simp; omega
 have e5 : (op == 5) = false := by simp; omega
 go_enter Tryz.func128, Tryz.ntmps128
 go_wp2_with fail
 go_ret
 exact givesE_bool (by rw [H.out]) ((Ext.refl w).alloc _)
mutual
def nodesB : Ex -> Bool
 | .mk op name words lo hi args => refNodeB (.mk op name words lo hi args) && nodesAll args
def nodesAll : List Ex -> Bool
 | [] => true
 | e :: r => nodesB e && nodesAll r
end
theorem nodesB_eq (e : Ex) : nodesB e = (refNodeB e && nodesAll e.args) := by cases e; rw [nodesB]; rfl
theorem nodesAll_iff (l : List Ex) : nodesAll l = true ↔ ∀ j (h : j < l.length), nodesB l[j] = true := by
 induction l with
 | nil => simp [nodesAll]
 | cons e r ih =>
  rw [nodesAll, Bool.and_eq_true, ih]
  constructor
  ·rintro ⟨h1, h2⟩ j hj
   cases j with
   | zero => exact h1
   | succ j => exact h2 j (by simpa using hj)
  intro h
  exact ⟨h 0 (by simp), fun j hj => h (j + 1) (by simpa using hj)⟩
mutual
def Ex.few : Ex -> Prop
 | .mk _ _ words _ _ args => words.length <= 1000000000000000 /\ fewAll args
def fewAll : List Ex -> Prop
 | [] => True
 | e :: r => e.few /\ fewAll r
end
theorem fewAll_at : (l : List Ex) -> fewAll l -> (k : Nat) -> (hk : k < l.length) -> l[k].few
 | [], _, k, hk => by simp at hk
 | e :: r, h, 0, _ => by unfold fewAll at h; exact h.1
 | e :: r, h, k + 1, hk => by unfold fewAll at h; simpa using fewAll_at r h.2 k (by simpa using hk)
theorem few_parts {e : Ex} (h : e.few) : e.words.length <= 1000000000000000 /\ fewAll e.args := by
 cases e; unfold Ex.few at h; exact h
theorem nodes_calls (m : Nat) : ∀ (e : Ex) (v : Value) (w : World), e.size <= m -> m <= 1000000000000000 -> e.fits -> e.few -> IsEx w e v -> Calls Tryz.prog 116 #[v] w (GivesE (.bool (nodesB e)) w) := by
 induction m with
 | zero => intro e v w h; have := size_pos e; omega
 | succ m ih =>
  intro e v w hm hMM hf hw2 he
  have HE := hI he
  obtain ⟨aw, nw, cw, aa, na, ca, rfl, hw, hna, hca, ha, hx⟩ := he.parts
  have HX := hI hx
  have HN := hI hna
  have HF := hI (fits_parts hf)
  have HW := hI (few_parts hw2)
  have hS : e.size = 1 + sizes e.args := e.size_eq
  have hb2 : sizes e.args <= m := by omega
  have hla := length_le_sizes e.args
  have H : Hid (∀ (e : Ex) (v : Value) (w : World), e.size <= m -> e.fits -> e.few -> IsEx w e v -> Calls Tryz.prog 116 #[v] w (GivesE (.bool (nodesB e)) w)) := fun e v w h1 h2 h3 h4 => ih e v w h1 (by omega) h2 h3 h4
  have HQ := hI (nodesB_eq e)
  generalize nodesB e = B at *
  clear ih hx hna hw hca ha he hS hm hf hw2
  have HNC := hI (rnode_calls e _ (w.alloc (.cells #[.int .i64 e.op, .string e.name, .slice aw nw cw, .int .i64 e.lo, .int .i64 e.hi, .slice aa na ca] 96)) (HE.out.ext ((Ext.refl w).alloc _)) HF.out.1 HF.out.2.1 HW.out.1)
  unfold exV at *
  cases hnode : refNodeB e
  ·have HND := hI hnode
   have H1 := hI (show B = false by rw [HQ.out, hnode]; rfl)
   clear hnode
   go_enter Tryz.func116, Tryz.ntmps116
   go_wp2_with fail
   refine HNC.out.mono ?_
   rintro r w1 ⟨rfl, hx1⟩
   rw [HND.out]
   have HX1 := hI (((Ext.refl w).alloc _).trans hx1)
   clear hx1
   go_wp2_with fail
   go_ret
   exact givesE_bool (by rw [H1.out]) HX1.out
  have HND := hI hnode
  have HQ2 := hI (show B = nodesAll e.args by rw [HQ.out, hnode]; rfl)
  clear hnode
  go_enter Tryz.func116, Tryz.ntmps116
  go_wp2_with fail
  refine HNC.out.mono ?_
  rintro r w1 ⟨rfl, hx1⟩
  rw [HND.out]
  have HBX1 := hI (hx1.blk (alloc_new w _))
  have HX1 := hI (((Ext.refl w).alloc _).trans hx1)
  clear hx1
  go_wp2_with fail
  go_loopw [3] (fun i wr => ∃ k : Nat, k <= na /\ i = .int .i64 k /\ (∀ j (hj : j < e.args.length), j < k -> nodesB e.args[j] = true) /\ wr.heap[w.heap.size]? = some (.cells #[.int .i64 e.op, .string e.name, .slice aw nw cw, .int .i64 e.lo, .int .i64 e.hi, .slice aa na ca] 96 (0, 0)) /\ Ext w wr) (fun i _ => na - (intOf i).toNat)
  case atStart => exact ⟨0, by omega, rfl, fun j _ h => by omega, HBX1.out, HX1.out⟩
  case round =>
   obtain ⟨k, hk, rfl, hall, hbx, hb⟩ := hrel
   have HA := hI hall
   have HBX := hI hbx
   have HB := hI hb
   have hlt0 := blk_lt hbx
   obtain ⟨b0, b1, b2, b3, b4, b5, bf⟩ := blk6 hbx
   clear hbx hb hall
   by_cases hlt : k < na
   ·have hlt' : k < e.args.length := by have := HN.out; omega
    obtain ⟨b, off, rfl, aw1, nw1, cw1, aa1, na1, ca1, h0, h1, h2, h3, h4, h5, h6⟩ := ExsD.at e.args _ (ExsD.ext HB.out e.args _ HX.out) k hlt'
    have H6 := hI h6
    have hsz := sizes_take_succ e.args k hlt'
    have hsl := sizes_take_le e.args (k + 1)
    have hk1 : e.args[k].size <= m := by omega
    clear h6 hsz hsl
    go_wp2_with fail
    refine (H.out e.args[k] _ _ hk1 (fitsAll_at _ HF.out.2.2 k hlt') (fewAll_at _ HW.out.2 k hlt') H6.out).mono ?_
    rintro r w2 ⟨rfl, hb1⟩
    have HE1 := hI hb1
    clear b0 b1 b2 b3 b4 b5 bf hb1
    cases hdp : nodesB e.args[k]
    ·have H1 := hI (show B = false by
      rw [HQ2.out]
      cases hz : nodesAll e.args
      ·rfl
      have := (nodesAll_iff _).1 hz k hlt'; rw [hdp] at this; cases this)
     clear hdp
     go_wp2_with fail
     go_ret
     exact givesE_bool (by rw [H1.out]) (HB.out.trans HE1.out)
    have HND2 := hI hdp
    clear hdp
    go_wp2_with fail
    go_roundw
    case rel =>
     refine ⟨k + 1, by omega, by go_num, fun j hj hjk => ?_, HE1.out.blk HBX.out, HB.out.trans HE1.out⟩
     by_cases ej : j = k
     ·subst ej; exact HND2.out
     exact HA.out j hj (by omega)
    case measure => simp [intOf]; omega
   have H1 := hI (show B = true by rw [HQ2.out]; exact (nodesAll_iff _).2 (fun j hj => HA.out j hj (by have := HN.out; omega)))
   go_wp2_with fail
   go_ret
   exact givesE_bool (by rw [H1.out]) HB.out
def refExprB (e : Ex) : Bool := !decide (16 < e.depth) && decide (refSize e <= 300) && nodesB e
theorem rexpr_slim (e : Ex) (v : Value) (w : World) (he : IsEx w e v) (hsz : e.slim) (hf : e.fits) (hw : e.few) : Calls Tryz.prog 79 #[v] w (GivesE (.bool (refExprB e)) w) := by
 have HE := hI he
 have HF := hI hf
 have HW := hI hw
 have HQ := hI (show refExprB e = (!decide (16 < e.depth) && decide (refSize e <= 300) && nodesB e) from rfl)
 generalize refExprB e = B at *
 obtain ⟨aw, nw, cw, aa, na, ca, rfl, -⟩ := he.parts
 have HSZ := hI hsz
 clear he hf hw hsz
 have HA := hI (fun W (h : Ext (w.alloc (.cells #[.int .i64 e.op, .string e.name, .slice aw nw cw, .int .i64 e.lo, .int .i64 e.hi, .slice aa na ca] 96)) W) => ((Ext.refl w).alloc _).trans h)
 have HNB := hI (alloc_new w (.cells #[.int .i64 e.op, .string e.name, .slice aw nw cw, .int .i64 e.lo, .int .i64 e.hi, .slice aa na ca] 96))
 unfold exV at *
 go_enter Tryz.func79, Tryz.ntmps79
 go_wp2_with fail
 refine (deeper_slim e.size e _ _ 16 (Nat.le_refl _) HSZ.out (by omega) (HE.out.ext ((Ext.refl w).alloc _))).mono ?_
 rintro r w1 ⟨rfl, hx1⟩
 have HX1 := hI (HA.out _ hx1)
 have hb1 := hx1.blk HNB.out
 have HB1 := hI hb1
 have hz1 := blk_lt hb1
 obtain ⟨b0, b1, b2, b3, b4, b5, bf⟩ := blk6 hb1
 clear hx1 hb1 HA
 by_cases hd : 16 < e.depth
 ·rw [decide_eq_true hd]
  have H1 := hI (show B = false by rw [HQ.out]; simp [hd])
  clear hd
  go_wp2_with fail
  go_ret
  exact givesE_bool (by rw [H1.out]) HX1.out
 rw [decide_eq_false hd]
 have HD := hI hd
 clear hd
 go_wp2_with fail
 refine (rsize_calls e.size e _ _ (Nat.le_refl _) (HE.out.ext HX1.out)).mono ?_
 rintro r w2 ⟨rfl, hx2⟩
 have HX2 := hI (HX1.out.trans hx2)
 have hb2 := hx2.blk HB1.out
 have hz2 := blk_lt hb2
 clear b0 b1 b2 b3 b4 b5 bf hx2
 obtain ⟨b0, b1, b2, b3, b4, b5, bf⟩ := blk6 hb2
 clear hb2
 by_cases hs : refSize e <= 300
 ·have t1 : decide ((refSize e : Int) <= 300) = true := by simp; omega
  have HS := hI hs
  have HZ := hI (show e.size <= 1000000000000000 by unfold refSize at hs; omega)
  clear hs
  go_wp2_with fail
  refine (nodes_calls e.size e _ _ (Nat.le_refl _) HZ.out HF.out HW.out (HE.out.ext HX2.out)).mono ?_
  rintro r w3 ⟨rfl, hx3⟩
  have HX3 := hI (HX2.out.trans hx3)
  clear b0 b1 b2 b3 b4 b5 bf hx3
  go_wp2_with fail
  go_ret
  exact givesE_bool (by rw [HQ.out]; simp [HD.out, HS.out]) HX3.out
 have t1 : decide ((refSize e : Int) <= 300) = false := by simp; omega
 have H1 := hI (show B = false by rw [HQ.out]; simp [hs])
 clear hs
 go_wp2_with fail
 go_ret
 exact givesE_bool (by rw [H1.out]) HX2.out
open Go.RowKit Go.Maps
mutual
def namesE : Ex -> ZB
 | .mk op name _ _ _ args => (if op = 3 then [name] else []) ++ namesL args
def namesL : List Ex -> ZB
 | [] => []
 | e :: r => namesE e ++ namesL r
end
theorem namesE_eq (e : Ex) : namesE e = (if e.op = 3 then [e.name] else []) ++ namesL e.args := by cases e; rw [namesE]; rfl
theorem namesL_snoc (l : List Ex) (e : Ex) : namesL (l ++ [e]) = namesL l ++ namesE e := by
 induction l with
 | nil => simp [namesL]
 | cons a r ih => simp [namesL, ih]
theorem namesL_take (l : List Ex) (k : Nat) (h : k < l.length) : namesL (l.take (k + 1)) = namesL (l.take k) ++ namesE l[k] := by
 rw [List.take_succ_eq_append_getElem h, namesL_snoc]
def putL (s : BA) : ZB -> ZB
 | [] => [s]
 | x :: r => if s.toList < x.toList then s :: x :: r else if s.toList = x.toList then x :: r else x :: putL s r
def refNames (l : ZB) : ZB := l.foldl (fun l s => putL s l) []
theorem putL_mem (s y : BA) : (l : ZB) -> (y ∈ putL s l ↔ y = s \/ y ∈ l)
 | [] => by simp [putL]
 | x :: r => by
  rw [putL]
  split
  ·simp
  split
  ·rename_i h1 h2
   have := toList_inj h2
   subst this
   simp
  simp only [List.mem_cons, putL_mem s y r]
  constructor
  ·rintro (h | h | h)
   ·exact Or.inr (Or.inl h)
   ·exact Or.inl h
   exact Or.inr (Or.inr h)
  rintro (h | h | h)
  ·exact Or.inr (Or.inl h)
  ·exact Or.inl h
  exact Or.inr (Or.inr h)
theorem putL_len (s : BA) : (l : ZB) -> (putL s l).length <= l.length + 1
 | [] => by simp [putL]
 | x :: r => by
  have := putL_len s r
  rw [putL]
  split
  ·simp
  split <;> simp <;> omega
theorem fold_len (m : ZB) : ∀ l : ZB, (m.foldl (fun l s => putL s l) l).length <= m.length + l.length := by
 induction m with
 | nil => intro l; simp
 | cons a r ih => intro l; have := ih (putL a l); have := putL_len a l; simp only [List.foldl_cons, List.length_cons]; omega
structure Dfn where
 is : Bool
 name : BA
 uses : ZB
def firstAt (l : List Dfn) (s : BA) : Option Nat := l.findIdx? fun d => d.is && decide (d.name = s)
def isDef (l : List Dfn) (i : Nat) : Bool := match l[i]? with | some d => d.is | none => false
def usesAt (l : List Dfn) (i : Nat) : ZB := match l[i]? with | some d => d.uses | none => []
def missL (l : List Dfn) (o : ZN) (i : Nat) : ZB := (usesAt l i).filter fun s => match firstAt l s with | some d => decide (d ∉ o) | none => false
def countOf (l : List Dfn) : Nat := ((List.range l.length).filter (isDef l)).length
def After (l : List Dfn) (o : ZN) : Prop := ∀ p i, o[p]? = some i -> ∀ s ∈ usesAt l i, ∀ d, firstAt l s = some d -> d ∈ o.take p
structure Topo (l : List Dfn) (o : ZN) : Prop where
 nodup : o.Nodup
 all : ∀ i, i ∈ o ↔ isDef l i = true
 after : After l o
structure OInv (l : List Dfn) (o R : ZN) : Prop where
 nodup : (o ++ R).Nodup
 ready : ∀ i, i ∈ o ++ R ↔ (isDef l i = true /\ missL l o i = [])
 after : After l o
theorem mem_miss {l : List Dfn} {o : ZN} {i : Nat} {s : BA} : s ∈ missL l o i ↔ s ∈ usesAt l i /\ ∃ d, firstAt l s = some d /\ d ∉ o := by
 unfold missL
 rw [List.mem_filter]
 refine and_congr_right fun _ => ?_
 cases h : firstAt l s <;> simp
theorem miss_nil {l : List Dfn} {o : ZN} {i : Nat} : missL l o i = [] ↔ ∀ s ∈ usesAt l i, ∀ d, firstAt l s = some d -> d ∈ o := by
 rw [List.eq_nil_iff_forall_not_mem]
 constructor
 ·intro h s hs d hd
  by_cases hm : d ∈ o
  ·exact hm
  exact absurd (mem_miss.2 ⟨hs, d, hd, hm⟩) (h s)
 intro h s hs
 obtain ⟨h1, d, h2, h3⟩ := mem_miss.1 hs
 exact h3 (h s h1 d h2)
theorem isDef_lt {l : List Dfn} {i : Nat} (h : isDef l i = true) : i < l.length := by
 unfold isDef at h
 rcases Nat.lt_or_ge i l.length with h' | h'
 ·exact h'
 rw [List.getElem?_eq_none h'] at h; cases h
theorem OInv.start (l : List Dfn) : OInv l [] ((List.range l.length).filter fun i => isDef l i && (missL l [] i).isEmpty) where
 nodup := List.nodup_range.filter _
 ready i := by
  simp only [List.nil_append, List.mem_filter, List.mem_range, Bool.and_eq_true, List.isEmpty_iff]
  exact ⟨fun h => h.2, fun h => ⟨isDef_lt h.1, h⟩⟩
 after p i h := by simp at h
theorem After.snoc {l : List Dfn} {o : ZN} {i : Nat} (h : After l o) (hm : missL l o i = []) : After l (o ++ [i]) := by
 intro p j hj s hs d hd
 rcases Nat.lt_trichotomy p o.length with hp | hp | hp
 ·rw [List.getElem?_append_left hp] at hj
  rw [List.take_append_of_le_length (by omega)]
  exact h p j hj s hs d hd
 ·subst hp
  simp at hj
  subst hj
  rw [List.take_left']
  ·exact miss_nil.1 hm s hs d hd
  rfl
 rw [List.getElem?_eq_none (by simp; omega)] at hj
 cases hj
theorem nodup_le : (a b : ZN) -> a.Nodup -> (∀ x ∈ a, x ∈ b) -> a.length <= b.length
 | [], b, _, _ => by simp
 | x :: a, b, h, hs => by
  rw [List.nodup_cons] at h
  have hx : x ∈ b := hs x (by simp)
  have h1 := nodup_le a (b.erase x) h.2 fun y hy => by
   have hne : y ≠ x := fun e => h.1 (e ▸ hy)
   exact (List.mem_erase_of_ne hne).2 (hs y (by simp [hy]))
  rw [List.length_erase_of_mem hx] at h1
  have := List.length_pos_of_mem hx
  simp only [List.length_cons]
  omega
theorem mem_defs {l : List Dfn} {i : Nat} : i ∈ (List.range l.length).filter (isDef l) ↔ isDef l i = true := by
 simp only [List.mem_filter, List.mem_range]
 exact ⟨fun h => h.2, fun h => ⟨isDef_lt h, h⟩⟩
def firstI (f : Nat -> Int) : Nat -> Nat × Int
 | 0 => (0, 0)
 | n + 1 => if (firstI f n).2 ≠ 0 then firstI f n else if f n ≠ 0 then (n, f n) else (0, 0)
theorem firstI_zero {f : Nat -> Int} : (n : Nat) -> (∀ j, j < n -> f j = 0) -> firstI f n = (0, 0)
 | 0, _ => rfl
 | n + 1, h => by rw [firstI, firstI_zero n fun j hj => h j (by omega), h n (by omega)]; simp
theorem firstI_hit {f : Nat -> Int} {k : Nat} (hk : f k ≠ 0) (h0 : ∀ j, j < k -> f j = 0) : (n : Nat) -> k < n -> firstI f n = (k, f k)
 | 0, h => by omega
 | n + 1, h => by
  by_cases e : k = n
  ·subst e
   rw [firstI, firstI_zero k h0]; simp [hk]
  rw [firstI, firstI_hit hk h0 n (by omega)]; simp [hk]
def attrAt (s : List Attr) (x : BA) : Option Nat := s.findIdx? fun a => decide (a.name = x)
def farB (n : Int) : Bool := !numberB n
def attrErr (a : Attr) : Int :=
 if a.kind = 1 then (if a.lo ≠ 0 \/ a.hi ≠ 0 then 20 else if a.words.length = 0 then 19 else if 12 < a.words.length then 4 else if a.words.all nameB = false then 6 else if decide a.words.Nodup = false then 8 else 0)
 else if a.kind = 2 then (if 0 < a.words.length then 20 else if a.hi < a.lo \/ farB a.lo = true \/ farB a.hi = true then 1 else 0)
 else if a.kind = 3 then (if 0 < a.words.length \/ a.lo ≠ 0 \/ a.hi ≠ 0 then 20 else 0) else 11
def attr0 : Attr := ⟨⟨#[]⟩, 0, [], 0, 0⟩
def attrIErr (s : List Attr) (i : Nat) : Int :=
 if nameB (s.getD i attr0).name = false then 6 else if (s.take i).any (fun b => decide (b.name = (s.getD i attr0).name)) = true then 8 else attrErr (s.getD i attr0)
def schemaErr (s : List Attr) : Int := if s.length = 0 then 19 else if 6 < s.length then 4 else (firstI (attrIErr s) s.length).2
def defAt (l : List Cla) (x : BA) : Option Nat := l.findIdx? fun c => (c.kind == 1) && decide (c.name = x)
def nodeErr (s : List Attr) (l : List Cla) (op : Int) (name : BA) (words : ZB) (lo hi : Int) : Int :=
 if op = 3 then (match attrAt s name with | none => if (defAt l name).isSome then 0 else 7 | some i => if (s.getD i attr0).kind ≠ 3 then 9 else 0)
 else if op = 4 then (match attrAt s name with | none => 7 | some i => if (s.getD i attr0).kind ≠ 1 then 9 else if words.all (fun x => (s.getD i attr0).words.any fun y => decide (y = x)) = false then 7 else 0)
 else if op = 5 then (match attrAt s name with | none => 7 | some i => if (s.getD i attr0).kind ≠ 2 then 9 else if lo < (s.getD i attr0).lo \/ (s.getD i attr0).hi < hi then 1 else 0)
 else 0
mutual
def nodesErr (s : List Attr) (l : List Cla) : Ex -> Int
 | .mk op name words lo hi args => if nodeErr s l op name words lo hi ≠ 0 then nodeErr s l op name words lo hi else nodesErrL s l args
def nodesErrL (s : List Attr) (l : List Cla) : List Ex -> Int
 | [] => 0
 | e :: r => if nodesErr s l e ≠ 0 then nodesErr s l e else nodesErrL s l r
end
theorem nodesErr_eq (s : List Attr) (l : List Cla) (e : Ex) : nodesErr s l e = if nodeErr s l e.op e.name e.words e.lo e.hi ≠ 0 then nodeErr s l e.op e.name e.words e.lo e.hi else nodesErrL s l e.args := by cases e; rw [nodesErr]; rfl
theorem nodesErrL_zero {s : List Attr} {l : List Cla} : (r : List Ex) -> (∀ j (h : j < r.length), nodesErr s l r[j] = 0) -> nodesErrL s l r = 0
 | [], _ => by rw [nodesErrL]
 | e :: r, h => by
  have h0 := h 0 (by simp)
  simp only [List.getElem_cons_zero] at h0
  rw [nodesErrL, h0]
  simp only [ne_eq, not_true_eq_false, if_false]
  exact nodesErrL_zero r fun j hj => by have := h (j + 1) (by simpa using hj); simpa using this
theorem nodesErrL_hit {s : List Attr} {l : List Cla} : (r : List Ex) -> (k : Nat) -> (hk : k < r.length) -> nodesErr s l r[k] ≠ 0 -> (∀ j (h : j < k), nodesErr s l (r[j]'(by omega)) = 0) -> nodesErrL s l r = nodesErr s l r[k]
 | [], k, hk, _, _ => by simp at hk
 | e :: r, 0, _, h, _ => by simp only [List.getElem_cons_zero] at h ⊢; rw [nodesErrL, if_pos h]
 | e :: r, k + 1, hk, h, h0 => by
  have h1 := h0 0 (by omega)
  simp only [List.getElem_cons_zero] at h1
  rw [nodesErrL, h1]
  simp only [ne_eq, not_true_eq_false, if_false, List.getElem_cons_succ] at h ⊢
  exact nodesErrL_hit r k (by simpa using hk) h fun j hj => by have := h0 (j + 1) (by omega); simpa using this
mutual
def expE (D : BA -> Option Nat) : Ex -> Nat
 | .mk op name _ _ _ args => min ((if op = 3 then (D name).getD 1 else 1) + expL D args) 2001
def expL (D : BA -> Option Nat) : List Ex -> Nat
 | [] => 0
 | e :: r => expE D e + expL D r
end
theorem expE_eq (D : BA -> Option Nat) (e : Ex) : expE D e = min ((if e.op = 3 then (D e.name).getD 1 else 1) + expL D e.args) 2001 := by cases e; rw [expE]; rfl
theorem expL_take_succ (D : BA -> Option Nat) : (l : List Ex) -> (k : Nat) -> (hk : k < l.length) -> expL D (l.take (k + 1)) = expL D (l.take k) + expE D l[k]
 | [], k, hk => by simp at hk
 | e :: r, 0, _ => by simp [expL]
 | e :: r, k + 1, hk => by
  have := expL_take_succ D r k (by simpa using hk)
  simp [expL] at this ⊢
  omega
theorem expL_take_le (D : BA -> Option Nat) : (l : List Ex) -> (k : Nat) -> expL D (l.take k) <= expL D l
 | [], k => by simp [expL]
 | e :: r, 0 => by simp [expL]
 | e :: r, k + 1 => by
  have := expL_take_le D r k
  simp [expL]; omega
theorem expE_le (D : BA -> Option Nat) (e : Ex) : expE D e <= 2001 := by rw [expE_eq]; omega
def cla0 : Cla := ⟨0, ⟨#[]⟩, .mk 0 ⟨#[]⟩ [] 0 0 [], [], 0⟩
def expF (l : List Cla) : Nat -> Ex -> Nat
 | 0, _ => 2001
 | f + 1, e => expE (fun s => (defAt l s).map fun d => expF l f (l.getD d cla0).cond) e
def expanded (l : List Cla) (e : Ex) : Nat := expF l (l.length + 1) e
theorem expF_le (l : List Cla) (f : Nat) (e : Ex) : expF l f e <= 2001 := by cases f with | zero => simp [expF] | succ f => rw [expF]; exact expE_le _ e
def cntBacks : List Wb -> Nat
 | [] => 0
 | .mk _ _ u :: r => 1 + min (cntBacks u) 41 + cntBacks r
def backsB : Nat -> List Wb -> Bool
 | _, [] => true
 | d, .mk n c u :: r => decide (d ≠ 0) && nameB n && refExprB c && backsB (d - 1) u && backsB d r
def mostOf (kind : Int) : Int := if kind = 5 \/ kind = 6 \/ kind = 7 \/ kind = 10 then 1073741824 else if kind = 8 then 1000000 else 0
def clauseB (c : Cla) : Bool := decide (1 <= c.kind) && decide (c.kind <= 10) && nameB c.name && refExprB c.cond && (decide (c.unl.length = 0) || ((c.kind == 3) && decide (cntBacks c.unl <= 40) && backsB 16 c.unl)) &&
 ((decide (mostOf c.kind = 0) && (c.amount == 0)) || (decide (0 < mostOf c.kind) && decide (1 <= c.amount) && decide (c.amount <= mostOf c.kind)))
def backsErr (s : List Attr) (l : List Cla) : List Wb -> Int
 | [] => 0
 | .mk _ c u :: r => if nodesErr s l c ≠ 0 then nodesErr s l c else if backsErr s l u ≠ 0 then backsErr s l u else backsErr s l r
def backsLarge (l : List Cla) : List Wb -> Bool
 | [] => false
 | .mk _ c u :: r => decide (2000 < expanded l c) || backsLarge l u || backsLarge l r
def findAt (l : List Cla) (x : BA) : Option Nat := l.findIdx? fun c => decide (c.name = x)
def claErr (s : List Attr) (l : List Cla) (i : Nat) : Int :=
 if clauseB (l.getD i cla0) = false then 5 else if (findAt l (l.getD i cla0).name).getD 0 < i then 8 else if (attrAt s (l.getD i cla0).name).isSome then 8 else
 if nodesErr s l (l.getD i cla0).cond ≠ 0 then nodesErr s l (l.getD i cla0).cond else backsErr s l (l.getD i cla0).unl
def claLarge (l : List Cla) (i : Nat) : Int := if 2000 < expanded l (l.getD i cla0).cond \/ backsLarge l (l.getD i cla0).unl = true then 4 else 0
def Cla.dfn (c : Cla) : Dfn := ⟨c.kind == 1, c.name, refNames (namesE c.cond)⟩
def Sorts (l : List Dfn) : Prop := ∃ o, Topo l o
open Classical in
noncomputable def clausesErr (s : List Attr) (l : List Cla) : Nat × Int :=
 if schemaErr s ≠ 0 then (0, schemaErr s) else if 100 < l.length then (0, 4) else if (firstI (claErr s l) l.length).2 ≠ 0 then firstI (claErr s l) l.length else
 if ¬ Sorts (l.map Cla.dfn) then (0, 10) else firstI (claLarge l) l.length
theorem IsSchema.parts {w : World} {l : List Attr} {v : Value} (h : IsSchema w l v) : ∃ a n c, v = .agg #[.slice a n c] /\ n = l.length /\ n <= c /\ OkAddr a c /\ ∀ i (h : i < l.length), ∃ b off, a = some ⟨b, off, none⟩ /\ AttrAt w l[i] b (off + i * 5) := h
theorem IsSchema.ext {w w' : World} {l : List Attr} {v : Value} (h : IsSchema w l v) (he : Ext w w') : IsSchema w' l v := h.mono he.sub
def optV (o : Option Nat) : Value := .tuple #[.int .i64 (o.getD 0 : Nat), .bool o.isSome]
theorem find_hit {α : Type} {p : α -> Bool} {l : List α} {k : Nat} (hk : k < l.length) (h1 : p l[k] = true) (h2 : ∀ j (h : j < l.length), j < k -> p l[j] = false) : l.findIdx? p = some k := by
 rw [List.findIdx?_eq_some_iff_getElem]
 exact ⟨hk, h1, fun j hj => by rw [h2 j (by omega) hj]; simp⟩
theorem find_miss {α : Type} {p : α -> Bool} {l : List α} (h : ∀ j (h : j < l.length), p l[j] = false) : l.findIdx? p = none := by
 rw [List.findIdx?_eq_none_iff]
 intro x hx
 obtain ⟨i, hi, rfl⟩ := List.mem_iff_getElem.1 hx
 simp [h i hi]
theorem blk1 {w : World} {b : Nat} {v0 : Value} {t : TypeId} (h : w.heap[b]? = some (.cells #[v0] t (0, 0))) : w.cell? ⟨b, 0, none⟩ = some v0 /\ (∀ j, w.frozen? ⟨b, j, none⟩ = false) := ⟨blk_cell h 0, fun j => blk_free h j⟩
theorem dec_of_beq {a b : BA} {u : Bool} (h : (a.toList == b.toList) = u) : decide (a = b) = u := by rw [<- toList_beq]; exact h
theorem rIndex_calls (s : List Attr) (v : Value) (x : BA) (w : World) (hs : IsSchema w s v) (hl : s.length <= 1000000000000000) :
  Calls Tryz.prog 46 #[v, .string x] w (GivesE (optV (attrAt s x)) w) := by
 obtain ⟨a, n, c, rfl, hn, hnc, hoa, hat⟩ := hs.parts
 have HS := hI hs
 have HN := hI hn
 have hn2 : n <= 1000000000000000 := by omega
 clear hs hn hat hnc hoa
 go_enter Tryz.func46, Tryz.ntmps46
 go_wp2_with fail
 go_loopw [6] (fun t wr => ∃ k : Nat, t = .int .i64 k /\ k <= n /\ (∀ j (h : j < s.length), j < k -> decide (s[j].name = x) = false) /\ wr.heap[w.heap.size]? = some (.cells #[.slice a n c] 25 (0, 0)) /\ Ext w wr) (fun t _ => n - (intOf t).toNat)
 case atStart => exact ⟨0, rfl, by omega, fun j _ h => by omega, alloc_new w _, (Ext.refl w).alloc _⟩
 case round =>
  obtain ⟨k, rfl, hk, hno, hbx, hx⟩ := hrel
  have HNO := hI hno
  have HBX := hI hbx
  have HX := hI hx
  obtain ⟨bb0, bbf⟩ := blk1 hbx
  have hlt0 := blk_lt hbx
  clear hno hbx hx
  by_cases hkn : k < n
  ·have hks : k < s.length := by have := HN.out; omega
   obtain ⟨a', n', c', e', hx1, hx2, hx3, hat⟩ := (HS.out.ext HX.out).parts
   simp only [Value.agg.injEq, Array.mk.injEq, List.cons.injEq, Value.slice.injEq, and_true] at e'
   obtain ⟨rfl, rfl, rfl⟩ := e'
   clear hx1 hx2 hx3
   obtain ⟨b, off, rfl, aw, nw, cw, h0, h1, h2, h3, h4, h5⟩ := hat k hks
   have t1 : decide ((k : Int) < (n : Int)) = true := decide_eq_true (by omega)
   cases he : (s[k].name.toList == x.toList)
   ·have HE := hI (dec_of_beq he)
    clear hat h5
    go_wp2_with fail
    go_roundw
    case rel =>
     refine ⟨k + 1, by go_num, by omega, fun j hj hjk => ?_, HBX.out, HX.out⟩
     by_cases e : j = k
     ·subst e; exact HE.out
     exact HNO.out j hj (by omega)
    case measure => simp [intOf]; omega
   have HF := hI (show attrAt s x = some k from find_hit hks (dec_of_beq he) HNO.out)
   clear hat h5
   go_wp2_with fail
   go_ret2
   exact ⟨by rw [optV, HF.out]; rfl, HX.out⟩
  have t1 : decide ((k : Int) < (n : Int)) = false := decide_eq_false (by omega)
  have HF := hI (show attrAt s x = none from find_miss fun j hj => HNO.out j hj (by have := HN.out; omega))
  go_wp2_with fail
  go_ret2
  exact ⟨by rw [optV, HF.out]; rfl, HX.out⟩
theorem rFind_calls (l : List Cla) (a : OA) (n c : Nat) (x : BA) (w : World) (hs : IsClas w l a n c) (hl : n <= 1000000000000000) :
  Calls Tryz.prog 42 #[.slice a n c, .string x] w (Gives (optV (findAt l x)) w) := by
 have HS := hI hs
 have HN := hI hs.len
 clear hs
 go_enter Tryz.func42, Tryz.ntmps42
 go_wp2_with fail
 go_loop [6] (fun t => ∃ k : Nat, t = .int .i64 k /\ k <= n /\ (∀ j (h : j < l.length), j < k -> decide (l[j].name = x) = false)) (fun t => n - (intOf t).toNat)
 case atStart => exact ⟨0, rfl, by omega, fun j _ h => by omega⟩
 case round =>
  obtain ⟨k, rfl, hk, hno⟩ := hrel
  have HNO := hI hno
  clear hno
  by_cases hkn : k < n
  ·have hks : k < l.length := by have := HN.out; omega
   obtain ⟨b, off, v, rfl, hcla, hrow⟩ := HS.out.at hks
   obtain ⟨c0, c1, -, -, -, -, -, -, -, -⟩ := hrow.ten
   have hq2 := hcla.2.1
   rw [hq2] at c1
   have t1 : decide ((k : Int) < (n : Int)) = true := decide_eq_true (by omega)
   cases he : (l[k].name.toList == x.toList)
   ·have HE := hI (dec_of_beq he)
    clear hcla hrow hq2 c0
    go_wp2_with fail
    go_round
    case rel =>
     refine ⟨k + 1, by go_num, by omega, fun j hj hjk => ?_⟩
     by_cases e : j = k
     ·subst e; exact HE.out
     exact HNO.out j hj (by omega)
    case measure => simp [intOf]; omega
   have HF := hI (show findAt l x = some k from find_hit hks (dec_of_beq he) HNO.out)
   clear hcla hrow hq2 c0
   go_wp2_with fail
   go_ret2
   exact ⟨by rw [optV, HF.out]; rfl, rfl⟩
  have t1 : decide ((k : Int) < (n : Int)) = false := decide_eq_false (by omega)
  have HF := hI (show findAt l x = none from find_miss fun j hj => HNO.out j hj (by have := HN.out; omega))
  go_wp2_with fail
  go_ret2
  exact ⟨by rw [optV, HF.out]; rfl, rfl⟩
theorem rDef_calls (l : List Cla) (a : OA) (n c : Nat) (x : BA) (w : World) (hs : IsClas w l a n c) (hl : n <= 1000000000000000) :
  Calls Tryz.prog 85 #[.slice a n c, .string x] w (Gives (optV (defAt l x)) w) := by
 have HS := hI hs
 have HN := hI hs.len
 clear hs
 go_enter Tryz.func85, Tryz.ntmps85
 go_wp2_with fail
 go_loop [6] (fun t => ∃ k : Nat, t = .int .i64 k /\ k <= n /\ (∀ j (h : j < l.length), j < k -> ((l[j].kind == 1) && decide (l[j].name = x)) = false)) (fun t => n - (intOf t).toNat)
 case atStart => exact ⟨0, rfl, by omega, fun j _ h => by omega⟩
 case round =>
  obtain ⟨k, rfl, hk, hno⟩ := hrel
  have HNO := hI hno
  clear hno
  by_cases hkn : k < n
  ·have hks : k < l.length := by have := HN.out; omega
   obtain ⟨b, off, v, rfl, hcla, hrow⟩ := HS.out.at hks
   obtain ⟨c0, c1, -, -, -, -, -, -, -, -⟩ := hrow.ten
   have hq1 := hcla.1
   have hq2 := hcla.2.1
   rw [hq2] at c1
   rw [hq1] at c0
   have t1 : decide ((k : Int) < (n : Int)) = true := decide_eq_true (by omega)
   cases hkd : (l[k].kind == 1)
   ·have HE := hI (show ((l[k].kind == 1) && decide (l[k].name = x)) = false by rw [hkd]; rfl)
    clear hcla hrow hq2 hq1
    go_wp2_with fail
    go_round
    case rel =>
     refine ⟨k + 1, by go_num, by omega, fun j hj hjk => ?_⟩
     by_cases e : j = k
     ·subst e; exact HE.out
     exact HNO.out j hj (by omega)
    case measure => simp [intOf]; omega
   cases he : (l[k].name.toList == x.toList)
   ·have HE := hI (show ((l[k].kind == 1) && decide (l[k].name = x)) = false by rw [hkd, dec_of_beq he]; rfl)
    clear hcla hrow hq2 hq1
    go_wp2_with fail
    go_round
    case rel =>
     refine ⟨k + 1, by go_num, by omega, fun j hj hjk => ?_⟩
     by_cases e : j = k
     ·subst e; exact HE.out
     exact HNO.out j hj (by omega)
    case measure => simp [intOf]; omega
   have HF := hI (show defAt l x = some k from find_hit hks (by rw [hkd, dec_of_beq he]; rfl) HNO.out)
   clear hcla hrow hq2 hq1
   go_wp2_with fail
   go_ret2
   exact ⟨by rw [optV, HF.out]; rfl, rfl⟩
  have t1 : decide ((k : Int) < (n : Int)) = false := decide_eq_false (by omega)
  have HF := hI (show defAt l x = none from find_miss fun j hj => HNO.out j hj (by have := HN.out; omega))
  go_wp2_with fail
  go_ret2
  exact ⟨by rw [optV, HF.out]; rfl, rfl⟩
theorem rWithin_calls (l : ZB) (a : OA) (n c : Nat) (x : BA) (w : World) (hs : IsStrs w l a n c) (hl : n <= 1000000000000000) :
  Calls Tryz.prog 44 #[.slice a n c, .string x] w (Gives (.bool (l.any fun y => decide (y = x))) w) := by
 have HS := hI hs
 have HN := hI hs.1
 clear hs
 go_enter Tryz.func44, Tryz.ntmps44
 go_wp2_with fail
 go_loop [5] (fun t => ∃ k : Nat, t = .int .i64 k /\ k <= n /\ (∀ j (h : j < l.length), j < k -> decide (l[j] = x) = false)) (fun t => n - (intOf t).toNat)
 case atStart => exact ⟨0, rfl, by omega, fun j _ h => by omega⟩
 case round =>
  obtain ⟨k, rfl, hk, hno⟩ := hrel
  have HNO := hI hno
  clear hno
  by_cases hkn : k < n
  ·have hks : k < l.length := by have := HN.out; omega
   obtain ⟨b, off, rfl, c1⟩ := HS.out.2.2.2 k hks
   have t1 : decide ((k : Int) < (n : Int)) = true := decide_eq_true (by omega)
   cases he : (l[k].toList == x.toList)
   ·have HE := hI (dec_of_beq he)
    go_wp2_with fail
    go_round
    case rel =>
     refine ⟨k + 1, by go_num, by omega, fun j hj hjk => ?_⟩
     by_cases e : j = k
     ·subst e; exact HE.out
     exact HNO.out j hj (by omega)
    case measure => simp [intOf]; omega
   have HF := hI (show (l.any fun y => decide (y = x)) = true from List.any_eq_true.2 ⟨l[k], List.getElem_mem hks, dec_of_beq he⟩)
   go_wp2_with fail
   go_ret
   exact gives_bool (by rw [HF.out])
  have t1 : decide ((k : Int) < (n : Int)) = false := decide_eq_false (by omega)
  have HF := hI (show (l.any fun y => decide (y = x)) = false by
   rw [List.any_eq_false]
   intro y hy
   obtain ⟨j, hj, rfl⟩ := List.mem_iff_getElem.1 hy
   have := HNO.out j hj (by have := HN.out; omega)
   simp [this])
  go_wp2_with fail
  go_ret
  exact gives_bool (by rw [HF.out])
theorem rMost_calls (k : Int) (w : World) : Calls Tryz.prog 82 #[.int .i64 k] w (Gives (.int .i64 (mostOf k)) w) := by
 by_cases h5 : k = 5
 ·subst h5
  go_enter Tryz.func82, Tryz.ntmps82
  go_wp2_with fail
  go_ret
  exact ⟨rfl, rfl⟩
 by_cases h6 : k = 6
 ·subst h6
  go_enter Tryz.func82, Tryz.ntmps82
  go_wp2_with fail
  go_ret
  exact ⟨rfl, rfl⟩
 by_cases h7 : k = 7
 ·subst h7
  go_enter Tryz.func82, Tryz.ntmps82
  go_wp2_with fail
  go_ret
  exact ⟨rfl, rfl⟩
 by_cases h10 : k = 10
 ·subst h10
  go_enter Tryz.func82, Tryz.ntmps82
  go_wp2_with fail
  go_ret
  exact ⟨rfl, rfl⟩
 by_cases h8 : k = 8
 ·subst h8
  go_enter Tryz.func82, Tryz.ntmps82
  go_wp2_with fail
  go_ret
  exact ⟨rfl, rfl⟩
 have e5 : (k == 5) = false := by simp [h5]
 have e6 : (k == 6) = false := by simp [h6]
 have e7 : (k == 7) = false := by simp [h7]
 have e10 : (k == 10) = false := by simp [h10]
 have e8 : (k == 8) = false := by simp [h8]
 have HM := hI (show mostOf k = 0 by unfold mostOf; rw [if_neg (by omega), if_neg (by omega)])
 go_enter Tryz.func82, Tryz.ntmps82
 go_wp2_with fail
 go_ret
 exact ⟨by rw [HM.out]; rfl, rfl⟩
end Go.Proofs.YtefjomofjejklaaGreat
