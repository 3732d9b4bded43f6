/-
  Texts of the claim, joined: Ref3, Ref4, Names1, Ord1, Spec10, Exp1, RIdx.
-/
import Derived.Test.YtefjomofjejklaaGreatDoorDv05
import Derived.Maps.OwnSet
import Derived.Sort.KeysCollected
namespace Go.Proofs.YtefjomofjejklaaGreatDoor
set_option maxRecDepth 100000
set_option maxHeartbeats 32000000
open Go.RowKit
def refNode (op : Int) (name : BA) (words : ZB) (lo hi : Int) (na nw : Nat) : Bool :=
 decide (1 <= op /\ op <= 8) && (if op == 3 || op == 4 || op == 5 then nameB name else name.toList.isEmpty) && (if op == 4 then decide (1 <= nw) && decide (nw <= 12) && words.all nameB && decide words.Nodup else decide (nw = 0)) &&
 (if op == 5 then numberB lo && numberB hi && decide (lo <= hi) else (lo == 0) && (hi == 0)) && (if op == 6 then decide (na = 1) else if op == 7 || op == 8 then decide (2 <= na) else decide (na = 0))
def refNodeB (e : Ex) : Bool := refNode e.op e.name e.words e.lo e.hi e.args.length e.words.length
theorem int_beq0 (n : Nat) : ((n : Int) == 0) = decide (n = 0) := by rw [Bool.eq_iff_iff]; simp
theorem int_beq1 (n : Nat) : ((n : Int) == 1) = decide (n = 1) := by rw [Bool.eq_iff_iff]; simp; omega
theorem rnode_calls (e : Ex) (v : Value) (w : World) (he : IsEx w e v) (hs : e.name.size <= 1000000000000000) (hws : ∀ x ∈ e.words, x.size <= 1000000000000000) (hnw : e.words.length <= 1000000000000000) :
  Calls Tryz.prog 177 #[v] w (GivesE (.bool (refNodeB e)) w) := by
 obtain ⟨aw, nw, cw, aa, na, ca, rfl, hw, hna, hca, ha, hx⟩ := he.parts
 clear he hx ha hca
 have HW := hI hw
 have HS := hI hws
 have hnw' : nw <= 1000000000000000 := by have := hw.1; omega
 have HB := hI (show refNodeB e = refNode e.op e.name e.words e.lo e.hi na nw by unfold refNodeB; rw [hna, hw.1])
 generalize refNodeB e = B at *
 clear hw hws hna hnw
 obtain ⟨op, name, words, lo, hi, args⟩ := e
 simp only [Ex.op, Ex.name, Ex.words, Ex.lo, Ex.hi] at *
 unfold exV
 by_cases h1 : 1 <= op
 ·by_cases h8 : op <= 8
  ·have hk : op = 1 \/ op = 2 \/ op = 3 \/ op = 4 \/ op = 5 \/ op = 6 \/ op = 7 \/ op = 8 := by omega
   clear h1 h8
   rcases hk with rfl | rfl | rfl | rfl | rfl | rfl | rfl | rfl
   case inr.inr.inr.inl =>
    obtain ⟨P, hP⟩ : ∃ P, P = words.all nameB := ⟨_, rfl⟩
    obtain ⟨Q, hQ⟩ : ∃ Q, Q = decide words.Nodup := ⟨_, rfl⟩
    have HP := hI hP
    have HQ := hI hQ
    have HB2 := hI (show B = (nameB name && (decide (1 <= nw) && decide (nw <= 12) && P && Q) && ((lo == 0) && (hi == 0)) && decide (na = 0)) by rw [HB.out]; unfold refNode; rw [hP, hQ]; simp)
    clear hP hQ HB
    cases P
    all_goals cases Q
    all_goals
     by_cases hn1 : 1 <= nw
     ·by_cases hn2 : nw <= 12
      ·have t1 : decide ((nw : Int) < 1) = false := by simp; omega
       have t2 : decide ((12 : Int) < nw) = false := by simp; omega
       have HB3 := hI HB2.out
       simp only [hn1, hn2, decide_true, Bool.false_and, Bool.and_false, Bool.and_true] at HB3
       clear HB2
       go_enter Tryz.func177, Tryz.ntmps177
       go_wp2_with (first
        | (go_at_call 118; refine (rname_calls _ _ hs).mono ?_; rintro e w' ⟨rfl, rfl⟩)
        | (go_at_call 152; refine (names_calls words _ _ _ _ (HW.out.ext ((Ext.refl w).alloc _)) hnw' HS.out).mono ?_; rintro e w' ⟨rfl, rfl⟩; rw [<- HP.out])
        | (go_at_call 153; refine (distinct_calls words _ _ _ _ (HW.out.ext ((Ext.refl w).alloc _)) hnw').mono ?_; rintro e w' ⟨rfl, q, rfl⟩; rw [<- HQ.out]))
       all_goals (go_ret; exact givesE_bool (by first | (rw [HB3.out]; done) | (rw [HB3.out]; simp_all [int_beq0])) (by first | exact (Ext.refl w).alloc _ | exact ((Ext.refl w).alloc _).drewN _))
      have t1 : decide ((nw : Int) < 1) = false := by simp; omega
      have t2 : decide ((12 : Int) < nw) = true := by simp; omega
      have HF := hI (show B = false by rw [HB2.out]; simp [hn2])
      clear HB2
      go_enter Tryz.func177, Tryz.ntmps177
      go_wp2_with (go_at_call 118; refine (rname_calls _ _ hs).mono ?_; rintro e w' ⟨rfl, rfl⟩)
      all_goals (go_ret; exact givesE_bool (by rw [HF.out]) ((Ext.refl w).alloc _))
     have t1 : decide ((nw : Int) < 1) = true := by simp; omega
     have HF := hI (show B = false by rw [HB2.out]; simp [hn1])
     clear HB2
     go_enter Tryz.func177, Tryz.ntmps177
     go_wp2_with (go_at_call 118; refine (rname_calls _ _ hs).mono ?_; rintro e w' ⟨rfl, rfl⟩)
     all_goals (go_ret; exact givesE_bool (by rw [HF.out]) ((Ext.refl w).alloc _))
   all_goals
    go_enter Tryz.func177, Tryz.ntmps177
    go_wp2_with (first
     | (go_at_call 118; refine (rname_calls _ _ hs).mono ?_; rintro e w' ⟨rfl, rfl⟩)
     | (go_at_call 154; refine (far_calls _ _).mono ?_; rintro e w' ⟨rfl, rfl⟩))
    all_goals (go_ret; exact givesE_bool (by rw [HB.out]; simp_all [refNode, int_beq0, int_beq1]; try omega) ((Ext.refl w).alloc _))
  have H := hI (show B = false by rw [HB.out]; simp [refNode, h8])
  have t1 : decide (op < 1) = false := by simp; omega
  have t2 : decide (8 < op) = true := by simp; omega
  have e3 : (op == 3) = false := by simp; omega
  have e4 : (op == 4) = false := by simp; omega
  have e5 : (op == 5) = false := by simp; omega
  go_enter Tryz.func177, Tryz.ntmps177
  go_wp2_with fail
  go_ret
  exact givesE_bool (by rw [H.out]) ((Ext.refl w).alloc _)
 have H := hI (show B = false by rw [HB.out]; simp [refNode, h1])
 have t1 : decide (op < 1) = true := by simp; omega
 have e3 : (op == 3) = false := by simp; omega
 have e4 : (op == 4) = false := by simp; omega
 have e5 : (op == 5) = false := by simp; omega
 go_enter Tryz.func177, Tryz.ntmps177
 go_wp2_with fail
 go_ret
 exact givesE_bool (by rw [H.out]) ((Ext.refl w).alloc _)
mutual
def nodesB : Ex -> Bool
 | .mk op name words lo hi args => refNodeB (.mk op name words lo hi args) && nodesAll args
def nodesAll : List Ex -> Bool
 | [] => true
 | e :: r => nodesB e && nodesAll r
end
theorem nodesB_eq (e : Ex) : nodesB e = (refNodeB e && nodesAll e.args) := by cases e; rw [nodesB]; rfl
theorem nodesAll_iff (l : List Ex) : nodesAll l = true ↔ ∀ j (h : j < l.length), nodesB l[j] = true := by
 induction l with
 | nil => simp [nodesAll]
 | cons e r ih =>
  rw [nodesAll, Bool.and_eq_true, ih]
  constructor
  ·rintro ⟨h1, h2⟩ j hj
   cases j with
   | zero => exact h1
   | succ j => exact h2 j (by simpa using hj)
  intro h
  exact ⟨h 0 (by simp), fun j hj => h (j + 1) (by simpa using hj)⟩
mutual
def Ex.few : Ex -> Prop
 | .mk _ _ words _ _ args => words.length <= 1000000000000000 /\ fewAll args
def fewAll : List Ex -> Prop
 | [] => True
 | e :: r => e.few /\ fewAll r
end
theorem fewAll_at : (l : List Ex) -> fewAll l -> (k : Nat) -> (hk : k < l.length) -> l[k].few
 | [], _, k, hk => by simp at hk
 | e :: r, h, 0, _ => by unfold fewAll at h; exact h.1
 | e :: r, h, k + 1, hk => by unfold fewAll at h; simpa using fewAll_at r h.2 k (by simpa using hk)
theorem few_parts {e : Ex} (h : e.few) : e.words.length <= 1000000000000000 /\ fewAll e.args := by
 cases e; unfold Ex.few at h; exact h
theorem nodes_calls (m : Nat) : ∀ (e : Ex) (v : Value) (w : World), e.size <= m -> m <= 1000000000000000 -> e.fits -> e.few -> IsEx w e v -> Calls Tryz.prog 157 #[v] w (GivesE (.bool (nodesB e)) w) := by
 induction m with
 | zero => intro e v w h; have := size_pos e; omega
 | succ m ih =>
  intro e v w hm hMM hf hw2 he
  have HE := hI he
  obtain ⟨aw, nw, cw, aa, na, ca, rfl, hw, hna, hca, ha, hx⟩ := he.parts
  have HX := hI hx
  have HN := hI hna
  have HF := hI (fits_parts hf)
  have HW := hI (few_parts hw2)
  have hS : e.size = 1 + sizes e.args := e.size_eq
  have hb2 : sizes e.args <= m := by omega
  have hla := length_le_sizes e.args
  have H : Hid (∀ (e : Ex) (v : Value) (w : World), e.size <= m -> e.fits -> e.few -> IsEx w e v -> Calls Tryz.prog 157 #[v] w (GivesE (.bool (nodesB e)) w)) := fun e v w h1 h2 h3 h4 => ih e v w h1 (by omega) h2 h3 h4
  have HQ := hI (nodesB_eq e)
  generalize nodesB e = B at *
  clear ih hx hna hw hca ha he hS hm hf hw2
  have HNC := hI (rnode_calls e _ (w.alloc (.cells #[.int .i64 e.op, .string e.name, .slice aw nw cw, .int .i64 e.lo, .int .i64 e.hi, .slice aa na ca] 45)) (HE.out.ext ((Ext.refl w).alloc _)) HF.out.1 HF.out.2.1 HW.out.1)
  unfold exV at *
  cases hnode : refNodeB e
  ·have HND := hI hnode
   have H1 := hI (show B = false by rw [HQ.out, hnode]; rfl)
   clear hnode
   go_enter Tryz.func157, Tryz.ntmps157
   go_wp2_with fail
   refine HNC.out.mono ?_
   rintro r w1 ⟨rfl, hx1⟩
   rw [HND.out]
   have HX1 := hI (((Ext.refl w).alloc _).trans hx1)
   clear hx1
   go_wp2_with fail
   go_ret
   exact givesE_bool (by rw [H1.out]) HX1.out
  have HND := hI hnode
  have HQ2 := hI (show B = nodesAll e.args by rw [HQ.out, hnode]; rfl)
  clear hnode
  go_enter Tryz.func157, Tryz.ntmps157
  go_wp2_with fail
  refine HNC.out.mono ?_
  rintro r w1 ⟨rfl, hx1⟩
  rw [HND.out]
  have HBX1 := hI (hx1.blk (alloc_new w _))
  have HX1 := hI (((Ext.refl w).alloc _).trans hx1)
  clear hx1
  go_wp2_with fail
  go_loopw [3] (fun i wr => ∃ k : Nat, k <= na /\ i = .int .i64 k /\ (∀ j (hj : j < e.args.length), j < k -> nodesB e.args[j] = true) /\ wr.heap[w.heap.size]? = some (.cells #[.int .i64 e.op, .string e.name, .slice aw nw cw, .int .i64 e.lo, .int .i64 e.hi, .slice aa na ca] 45 (0, 0)) /\ Ext w wr) (fun i _ => na - (intOf i).toNat)
  case atStart => exact ⟨0, by omega, rfl, fun j _ h => by omega, HBX1.out, HX1.out⟩
  case round =>
   obtain ⟨k, hk, rfl, hall, hbx, hb⟩ := hrel
   have HA := hI hall
   have HBX := hI hbx
   have HB := hI hb
   have hlt0 := blk_lt hbx
   obtain ⟨b0, b1, b2, b3, b4, b5, bf⟩ := blk6 hbx
   clear hbx hb hall
   by_cases hlt : k < na
   ·have hlt' : k < e.args.length := by have := HN.out; omega
    obtain ⟨b, off, rfl, aw1, nw1, cw1, aa1, na1, ca1, h0, h1, h2, h3, h4, h5, h6⟩ := ExsD.at e.args _ (ExsD.ext HB.out e.args _ HX.out) k hlt'
    have H6 := hI h6
    have hsz := sizes_take_succ e.args k hlt'
    have hsl := sizes_take_le e.args (k + 1)
    have hk1 : e.args[k].size <= m := by omega
    clear h6 hsz hsl
    go_wp2_with fail
    refine (H.out e.args[k] _ _ hk1 (fitsAll_at _ HF.out.2.2 k hlt') (fewAll_at _ HW.out.2 k hlt') H6.out).mono ?_
    rintro r w2 ⟨rfl, hb1⟩
    have HE1 := hI hb1
    clear b0 b1 b2 b3 b4 b5 bf hb1
    cases hdp : nodesB e.args[k]
    ·have H1 := hI (show B = false by
      rw [HQ2.out]
      cases hz : nodesAll e.args
      ·rfl
      have := (nodesAll_iff _).1 hz k hlt'; rw [hdp] at this; cases this)
     clear hdp
     go_wp2_with fail
     go_ret
     exact givesE_bool (by rw [H1.out]) (HB.out.trans HE1.out)
    have HND2 := hI hdp
    clear hdp
    go_wp2_with fail
    go_roundw
    case rel =>
     refine ⟨k + 1, by omega, by go_num, fun j hj hjk => ?_, HE1.out.blk HBX.out, HB.out.trans HE1.out⟩
     by_cases ej : j = k
     ·subst ej; exact HND2.out
     exact HA.out j hj (by omega)
    case measure => simp [intOf]; omega
   have H1 := hI (show B = true by rw [HQ2.out]; exact (nodesAll_iff _).2 (fun j hj => HA.out j hj (by have := HN.out; omega)))
   go_wp2_with fail
   go_ret
   exact givesE_bool (by rw [H1.out]) HB.out
def refExprB (e : Ex) : Bool := !decide (16 < e.depth) && decide (refSize e <= 300) && nodesB e
theorem rexpr_slim (e : Ex) (v : Value) (w : World) (he : IsEx w e v) (hsz : e.slim) (hf : e.fits) (hw : e.few) : Calls Tryz.prog 120 #[v] w (GivesE (.bool (refExprB e)) w) := by
 have HE := hI he
 have HF := hI hf
 have HW := hI hw
 have HQ := hI (show refExprB e = (!decide (16 < e.depth) && decide (refSize e <= 300) && nodesB e) from rfl)
 generalize refExprB e = B at *
 obtain ⟨aw, nw, cw, aa, na, ca, rfl, -⟩ := he.parts
 have HSZ := hI hsz
 clear he hf hw hsz
 have HA := hI (fun W (h : Ext (w.alloc (.cells #[.int .i64 e.op, .string e.name, .slice aw nw cw, .int .i64 e.lo, .int .i64 e.hi, .slice aa na ca] 45)) W) => ((Ext.refl w).alloc _).trans h)
 have HNB := hI (alloc_new w (.cells #[.int .i64 e.op, .string e.name, .slice aw nw cw, .int .i64 e.lo, .int .i64 e.hi, .slice aa na ca] 45))
 unfold exV at *
 go_enter Tryz.func120, Tryz.ntmps120
 go_wp2_with fail
 refine (deeper_slim e.size e _ _ 16 (Nat.le_refl _) HSZ.out (by omega) (HE.out.ext ((Ext.refl w).alloc _))).mono ?_
 rintro r w1 ⟨rfl, hx1⟩
 have HX1 := hI (HA.out _ hx1)
 have hb1 := hx1.blk HNB.out
 have HB1 := hI hb1
 have hz1 := blk_lt hb1
 obtain ⟨b0, b1, b2, b3, b4, b5, bf⟩ := blk6 hb1
 clear hx1 hb1 HA
 by_cases hd : 16 < e.depth
 ·rw [decide_eq_true hd]
  have H1 := hI (show B = false by rw [HQ.out]; simp [hd])
  clear hd
  go_wp2_with fail
  go_ret
  exact givesE_bool (by rw [H1.out]) HX1.out
 rw [decide_eq_false hd]
 have HD := hI hd
 clear hd
 go_wp2_with fail
 refine (rsize_calls e.size e _ _ (Nat.le_refl _) (HE.out.ext HX1.out)).mono ?_
 rintro r w2 ⟨rfl, hx2⟩
 have HX2 := hI (HX1.out.trans hx2)
 have hb2 := hx2.blk HB1.out
 have hz2 := blk_lt hb2
 clear b0 b1 b2 b3 b4 b5 bf hx2
 obtain ⟨b0, b1, b2, b3, b4, b5, bf⟩ := blk6 hb2
 clear hb2
 by_cases hs : refSize e <= 300
 ·have t1 : decide ((refSize e : Int) <= 300) = true := by simp; omega
  have HS := hI hs
  have HZ := hI (show e.size <= 1000000000000000 by unfold refSize at hs; omega)
  clear hs
  go_wp2_with fail
  refine (nodes_calls e.size e _ _ (Nat.le_refl _) HZ.out HF.out HW.out (HE.out.ext HX2.out)).mono ?_
  rintro r w3 ⟨rfl, hx3⟩
  have HX3 := hI (HX2.out.trans hx3)
  clear b0 b1 b2 b3 b4 b5 bf hx3
  go_wp2_with fail
  go_ret
  exact givesE_bool (by rw [HQ.out]; simp [HD.out, HS.out]) HX3.out
 have t1 : decide ((refSize e : Int) <= 300) = false := by simp; omega
 have H1 := hI (show B = false by rw [HQ.out]; simp [hs])
 clear hs
 go_wp2_with fail
 go_ret
 exact givesE_bool (by rw [H1.out]) HX2.out
open Go.RowKit Go.Maps
mutual
def namesE : Ex -> ZB
 | .mk op name _ _ _ args => (if op = 3 then [name] else []) ++ namesL args
def namesL : List Ex -> ZB
 | [] => []
 | e :: r => namesE e ++ namesL r
end
theorem namesE_eq (e : Ex) : namesE e = (if e.op = 3 then [e.name] else []) ++ namesL e.args := by cases e; rw [namesE]; rfl
theorem namesL_snoc (l : List Ex) (e : Ex) : namesL (l ++ [e]) = namesL l ++ namesE e := by
 induction l with
 | nil => simp [namesL]
 | cons a r ih => simp [namesL, ih]
theorem namesL_take (l : List Ex) (k : Nat) (h : k < l.length) : namesL (l.take (k + 1)) = namesL (l.take k) ++ namesE l[k] := by
 rw [List.take_succ_eq_append_getElem h, namesL_snoc]
def SetIs (D : DataW Unit) (l : ZB) : Prop := ∃ es, D = .map es /\ (∀ p ∈ es, ∃ s, p.1 = .string s) /\ (strKeys D).Nodup /\ ∀ s, s ∈ strKeys D ↔ ∃ x ∈ l, x.data.toList = s
theorem setIs_nil : SetIs (.map []) [] := ⟨[], rfl, by simp, by simp [strKeys], by simp [strKeys]⟩
theorem insert_perm {H : Type} (x : Lit × DataW H) : (l : List (Lit × DataW H)) -> (DataW.insert x l).Perm (x :: l)
 | [] => List.Perm.refl _
 | y :: r => by
  rw [DataW.insert]
  split
  ·exact List.Perm.refl _
  exact ((insert_perm x r).cons y).trans (List.Perm.swap x y r)
theorem SetIs.put {D : DataW Unit} {l : ZB} (h : SetIs D l) (x : BA) (d : DataW Unit) : SetIs (D.put (.string x.data.toList) d) (l ++ [x]) := by
 obtain ⟨es, rfl, hs, hn, hm⟩ := h
 have hp := insert_perm ((.string x.data.toList, d) : Lit × DataW Unit) (es.filter fun p => !p.1.sameKey (.string x.data.toList))
 have hk : (strKeys (DataW.put (.map es) (.string x.data.toList) d)).Perm (x.data.toList :: strKeys (H := Unit) (.map (es.filter fun p => !p.1.sameKey (.string x.data.toList)))) := by
  simp only [DataW.put, strKeys]
  exact hp.map _
 have hf : ∀ s, s ∈ strKeys (H := Unit) (.map (es.filter fun p => !p.1.sameKey (.string x.data.toList))) ↔ s ∈ strKeys (H := Unit) (.map es) /\ s ≠ x.data.toList := by
  intro s
  simp only [strKeys, List.mem_map, List.mem_filter]
  constructor
  ·rintro ⟨p, ⟨h1, h2⟩, rfl⟩
   obtain ⟨t, ht⟩ := hs p h1
   refine ⟨⟨p, h1, rfl⟩, fun e => ?_⟩
   rw [ht] at h2 e
   simp only [strOf] at e
   subst e
   simp [Lit.sameKey] at h2
  rintro ⟨⟨p, h1, rfl⟩, h2⟩
  obtain ⟨t, ht⟩ := hs p h1
  refine ⟨p, ⟨h1, ?_⟩, rfl⟩
  rw [ht] at h2 ⊢
  simp only [strOf] at h2
  simpa [Lit.sameKey] using h2
 refine ⟨_, rfl, fun p hp' => ?_, ?_, fun s => ?_⟩
 ·have := hp.mem_iff.1 hp'
  rcases List.mem_cons.1 this with rfl | h1
  ·exact ⟨_, rfl⟩
  exact hs p (List.mem_filter.1 h1).1
 ·rw [hk.nodup_iff, List.nodup_cons]
  refine ⟨fun h => ((hf _).1 h).2 rfl, ?_⟩
  have : (strKeys (H := Unit) (.map (es.filter fun p => !p.1.sameKey (.string x.data.toList)))).Sublist (strKeys (H := Unit) (.map es)) := by
   simp only [strKeys]
   exact (List.filter_sublist).map _
  exact hn.sublist this
 rw [hk.mem_iff, List.mem_cons, hf, hm]
 constructor
 ·rintro (rfl | ⟨⟨y, h1, h2⟩, _⟩)
  ·exact ⟨x, by simp, rfl⟩
  exact ⟨y, by simp [h1], h2⟩
 rintro ⟨y, h1, rfl⟩
 rcases List.mem_append.1 h1 with h1 | h1
 ·by_cases e : y.data.toList = x.data.toList
  ·exact Or.inl e
  exact Or.inr ⟨⟨y, h1, rfl⟩, e⟩
 rw [List.mem_singleton.1 h1]; exact Or.inl rfl
def putL (s : BA) : ZB -> ZB
 | [] => [s]
 | x :: r => if s.toList < x.toList then s :: x :: r else if s.toList = x.toList then x :: r else x :: putL s r
def refNames (l : ZB) : ZB := l.foldl (fun l s => putL s l) []
def Up (l : ZB) : Prop := l.Pairwise (fun a b => a.toList < b.toList)
theorem lt_or {a b : List UInt8} (h1 : ¬ a < b) (h2 : a ≠ b) : b < a := by
 by_cases h : b < a
 ·exact h
 exact absurd (List.le_antisymm (List.not_lt.1 h) (List.not_lt.1 h1)) h2
theorem putL_mem (s y : BA) : (l : ZB) -> (y ∈ putL s l ↔ y = s \/ y ∈ l)
 | [] => by simp [putL]
 | x :: r => by
  rw [putL]
  split
  ·simp
  split
  ·rename_i h1 h2
   have := toList_inj h2
   subst this
   simp
  simp only [List.mem_cons, putL_mem s y r]
  constructor
  ·rintro (h | h | h)
   ·exact Or.inr (Or.inl h)
   ·exact Or.inl h
   exact Or.inr (Or.inr h)
  rintro (h | h | h)
  ·exact Or.inr (Or.inl h)
  ·exact Or.inl h
  exact Or.inr (Or.inr h)
theorem putL_up (s : BA) : (l : ZB) -> Up l -> Up (putL s l)
 | [], _ => by simp [putL, Up]
 | x :: r, h => by
  obtain ⟨h1, h2⟩ := List.pairwise_cons.1 h
  rw [putL]
  split
  ·rename_i hlt
   refine List.pairwise_cons.2 ⟨fun y hy => ?_, h⟩
   rcases List.mem_cons.1 hy with rfl | hy
   ·exact hlt
   exact List.lt_trans hlt (h1 y hy)
  split
  ·exact h
  rename_i n1 n2
  refine List.pairwise_cons.2 ⟨fun y hy => ?_, putL_up s r h2⟩
  rcases (putL_mem s y r).1 hy with rfl | hy
  ·exact lt_or n1 n2
  exact h1 y hy
theorem fold_up (m : ZB) : ∀ l, Up l -> Up (m.foldl (fun l s => putL s l) l) := by
 induction m with
 | nil => intro l h; exact h
 | cons a r ih => intro l h; exact ih _ (putL_up a l h)
theorem fold_mem (m : ZB) : ∀ l y, y ∈ m.foldl (fun l s => putL s l) l ↔ y ∈ m \/ y ∈ l := by
 induction m with
 | nil => intro l y; simp
 | cons a r ih =>
  intro l y
  rw [List.foldl_cons, ih, putL_mem, List.mem_cons]
  constructor
  ·rintro (h | h | h)
   ·exact Or.inl (Or.inr h)
   ·exact Or.inl (Or.inl h)
   exact Or.inr h
  rintro ((h | h) | h)
  ·exact Or.inr (Or.inl h)
  ·exact Or.inl h
  exact Or.inr (Or.inr h)
theorem refNames_up (l : ZB) : Up (refNames l) := fold_up l [] (by simp [Up])
theorem refNames_mem (l : ZB) (y : BA) : y ∈ refNames l ↔ y ∈ l := by rw [refNames, fold_mem]; simp
theorem putL_len (s : BA) : (l : ZB) -> (putL s l).length <= l.length + 1
 | [] => by simp [putL]
 | x :: r => by
  have := putL_len s r
  rw [putL]
  split
  ·simp
  split <;> simp <;> omega
theorem fold_len (m : ZB) : ∀ l : ZB, (m.foldl (fun l s => putL s l) l).length <= m.length + l.length := by
 induction m with
 | nil => intro l; simp
 | cons a r ih => intro l; have := ih (putL a l); have := putL_len a l; simp only [List.foldl_cons, List.length_cons]; omega
theorem names_same {D : DataW Unit} {l : ZB} {ss : List (List UInt8)} (h : SetIs D l) (hp : ss.Perm (strKeys D)) : (ss.mergeSort (fun x y => decide (x <= y))) = (refNames l).map (·.data.toList) := by
 obtain ⟨es, rfl, hs, hn, hm⟩ := h
 have tr : ∀ a b c : List UInt8, decide (a <= b) = true -> decide (b <= c) = true -> decide (a <= c) = true := fun a b c h1 h2 => by simp only [decide_eq_true_eq] at *; exact List.le_trans h1 h2
 have tto : ∀ a b : List UInt8, (decide (a <= b) || decide (b <= a)) = true := fun a b => by simp only [Bool.or_eq_true, decide_eq_true_eq]; exact List.le_total a b
 have hu := refNames_up l
 have eL : ∀ x : BA, x.toList = x.data.toList := fun x => ByteArray.toList_eq x
 have hup : ((refNames l).map (·.data.toList)).Pairwise (fun a b => a < b) := by
  refine List.pairwise_map.2 (hu.imp fun {a b} h => ?_)
  rwa [eL, eL] at h
 have hnd : ((refNames l).map (·.data.toList)).Nodup := hup.imp fun {a b} h e => by subst e; exact List.lt_irrefl _ h
 have hperm : ((refNames l).map (·.data.toList)).Perm (strKeys (H := Unit) (.map es)) := by
  refine (List.perm_ext_iff_of_nodup hnd hn).2 fun s => ?_
  rw [hm, List.mem_map]
  constructor
  ·rintro ⟨x, hx, rfl⟩; exact ⟨x, (refNames_mem l x).1 hx, rfl⟩
  rintro ⟨x, hx, rfl⟩; exact ⟨x, (refNames_mem l x).2 hx, rfl⟩
 refine List.Perm.eq_of_pairwise (le := fun a b => decide (a <= b) = true) (fun a b _ _ h1 h2 => ?_) (List.pairwise_mergeSort tr tto ss) (hup.imp fun {a b} h => ?_) (((List.mergeSort_perm ss _).trans hp).trans hperm.symm)
 ·simp only [decide_eq_true_eq] at h1 h2; exact List.le_antisymm h1 h2
 simp only [decide_eq_true_eq]; exact List.le_of_lt h
structure Dfn where
 is : Bool
 name : BA
 uses : ZB
def firstAt (l : List Dfn) (s : BA) : Option Nat := l.findIdx? fun d => d.is && decide (d.name = s)
def isDef (l : List Dfn) (i : Nat) : Bool := match l[i]? with | some d => d.is | none => false
def usesAt (l : List Dfn) (i : Nat) : ZB := match l[i]? with | some d => d.uses | none => []
def nameAt (l : List Dfn) (i : Nat) : BA := match l[i]? with | some d => d.name | none => ⟨#[]⟩
def missL (l : List Dfn) (o : ZN) (i : Nat) : ZB := (usesAt l i).filter fun s => match firstAt l s with | some d => decide (d ∉ o) | none => false
def usersOf (l : List Dfn) (s : BA) : ZN := (List.range l.length).filter fun i => isDef l i && (usesAt l i).any fun t => decide (t = s)
def countOf (l : List Dfn) : Nat := ((List.range l.length).filter (isDef l)).length
def After (l : List Dfn) (o : ZN) : Prop := ∀ p i, o[p]? = some i -> ∀ s ∈ usesAt l i, ∀ d, firstAt l s = some d -> d ∈ o.take p
structure Topo (l : List Dfn) (o : ZN) : Prop where
 nodup : o.Nodup
 all : ∀ i, i ∈ o ↔ isDef l i = true
 after : After l o
structure OInv (l : List Dfn) (o R : ZN) : Prop where
 nodup : (o ++ R).Nodup
 ready : ∀ i, i ∈ o ++ R ↔ (isDef l i = true /\ missL l o i = [])
 after : After l o
theorem mem_miss {l : List Dfn} {o : ZN} {i : Nat} {s : BA} : s ∈ missL l o i ↔ s ∈ usesAt l i /\ ∃ d, firstAt l s = some d /\ d ∉ o := by
 unfold missL
 rw [List.mem_filter]
 refine and_congr_right fun _ => ?_
 cases h : firstAt l s <;> simp
theorem miss_nil {l : List Dfn} {o : ZN} {i : Nat} : missL l o i = [] ↔ ∀ s ∈ usesAt l i, ∀ d, firstAt l s = some d -> d ∈ o := by
 rw [List.eq_nil_iff_forall_not_mem]
 constructor
 ·intro h s hs d hd
  by_cases hm : d ∈ o
  ·exact hm
  exact absurd (mem_miss.2 ⟨hs, d, hd, hm⟩) (h s)
 intro h s hs
 obtain ⟨h1, d, h2, h3⟩ := mem_miss.1 hs
 exact h3 (h s h1 d h2)
theorem isDef_lt {l : List Dfn} {i : Nat} (h : isDef l i = true) : i < l.length := by
 unfold isDef at h
 rcases Nat.lt_or_ge i l.length with h' | h'
 ·exact h'
 rw [List.getElem?_eq_none h'] at h; cases h
theorem first_def {l : List Dfn} {s : BA} {d : Nat} (h : firstAt l s = some d) : isDef l d = true /\ nameAt l d = s := by
 unfold firstAt at h
 rw [List.findIdx?_eq_some_iff_getElem] at h
 obtain ⟨hd, h1, _⟩ := h
 simp only [Bool.and_eq_true, decide_eq_true_eq] at h1
 unfold isDef nameAt
 rw [List.getElem?_eq_getElem hd]
 exact h1
theorem OInv.start (l : List Dfn) : OInv l [] ((List.range l.length).filter fun i => isDef l i && (missL l [] i).isEmpty) where
 nodup := List.nodup_range.filter _
 ready i := by
  simp only [List.nil_append, List.mem_filter, List.mem_range, Bool.and_eq_true, List.isEmpty_iff]
  exact ⟨fun h => h.2, fun h => ⟨isDef_lt h.1, h⟩⟩
 after p i h := by simp at h
theorem After.snoc {l : List Dfn} {o : ZN} {i : Nat} (h : After l o) (hm : missL l o i = []) : After l (o ++ [i]) := by
 intro p j hj s hs d hd
 rcases Nat.lt_trichotomy p o.length with hp | hp | hp
 ·rw [List.getElem?_append_left hp] at hj
  rw [List.take_append_of_le_length (by omega)]
  exact h p j hj s hs d hd
 ·subst hp
  simp at hj
  subst hj
  rw [List.take_left']
  ·exact miss_nil.1 hm s hs d hd
  rfl
 rw [List.getElem?_eq_none (by simp; omega)] at hj
 cases hj
theorem OInv.other {l : List Dfn} {o R R' : ZN} {i : Nat} (h : OInv l o R) (hR : R.Perm (i :: R')) (hn : ∀ s, firstAt l s ≠ some i) : OInv l (o ++ [i]) R' where
 nodup := by
  have h1 := (List.Perm.append_left o hR).nodup_iff.1 h.nodup
  simpa using h1
 ready j := by
  have hm : missL l (o ++ [i]) j = [] ↔ missL l o j = [] := by
   rw [miss_nil, miss_nil]
   constructor
   ·intro h1 s hs d hd
    have := h1 s hs d hd
    simp only [List.mem_append, List.mem_singleton] at this
    rcases this with h2 | rfl
    ·exact h2
    exact absurd hd (hn s)
   intro h1 s hs d hd
   simp [h1 s hs d hd]
  rw [hm, <- h.ready j]
  have := (List.Perm.append_left o hR).mem_iff (a := j)
  rw [this]
  simp
 after := by
  have hi : i ∈ o ++ R := by
   rw [(List.Perm.append_left o hR).mem_iff]; simp
  exact h.after.snoc ((h.ready i).1 hi).2
def freed (l : List Dfn) (o : ZN) (i : Nat) : ZN := (usersOf l (nameAt l i)).filter fun u => (missL l (o ++ [i]) u).isEmpty
theorem OInv.first {l : List Dfn} {o R R' : ZN} {i : Nat} (h : OInv l o R) (hR : R.Perm (i :: R')) (hf : firstAt l (nameAt l i) = some i) : OInv l (o ++ [i]) (R' ++ freed l o i) := by
 have hi : i ∈ o ++ R := by
  rw [(List.Perm.append_left o hR).mem_iff]; simp
 have hnd := (List.Perm.append_left o hR).nodup_iff.1 h.nodup
 have hio : i ∉ o := fun hio => by
  have := List.nodup_append.1 hnd
  exact this.2.2 i hio i (by simp) rfl
 have hfm : ∀ u, u ∈ freed l o i ↔ (isDef l u = true /\ nameAt l i ∈ usesAt l u /\ missL l (o ++ [i]) u = []) := by
  intro u
  unfold freed usersOf
  simp only [List.mem_filter, List.mem_range, Bool.and_eq_true, List.any_eq_true, decide_eq_true_eq, List.isEmpty_iff, exists_eq_right]
  exact ⟨fun ⟨⟨_, h1, h2⟩, h3⟩ => ⟨h1, h2, h3⟩, fun ⟨h1, h2, h3⟩ => ⟨⟨isDef_lt h1, h1, h2⟩, h3⟩⟩
 have hnot : ∀ u ∈ freed l o i, u ∉ o ++ R := by
  intro u hu hm
  have h1 := (hfm u).1 hu
  have h2 := miss_nil.1 ((h.ready u).1 hm).2 _ h1.2.1 _ hf
  exact hio h2
 refine ⟨?_, ?_, h.after.snoc ((h.ready i).1 hi).2⟩
 ·have h1 : (o ++ [i] ++ R').Nodup := by simpa using hnd
  rw [<- List.append_assoc]
  refine List.nodup_append.2 ⟨h1, ?_, ?_⟩
  ·unfold freed usersOf
   exact (List.nodup_range.filter _).filter _
  rintro a ha b hb rfl
  refine hnot a hb ?_
  rw [(List.Perm.append_left o hR).mem_iff]
  simpa using ha
 intro j
 have hmem : j ∈ o ++ R ↔ j ∈ o ++ [i] ++ R' := by
  rw [(List.Perm.append_left o hR).mem_iff]; simp
 rw [<- List.append_assoc, List.mem_append, <- hmem, hfm, h.ready j]
 constructor
 ·rintro (⟨h1, h2⟩ | ⟨h1, _, h3⟩)
  ·exact ⟨h1, miss_nil.2 fun s hs d hd => by simp [miss_nil.1 h2 s hs d hd]⟩
  exact ⟨h1, h3⟩
 rintro ⟨h1, h2⟩
 by_cases hu : nameAt l i ∈ usesAt l j
 ·exact Or.inr ⟨h1, hu, h2⟩
 refine Or.inl ⟨h1, miss_nil.2 fun s hs d hd => ?_⟩
 have h3 := miss_nil.1 h2 s hs d hd
 simp only [List.mem_append, List.mem_singleton] at h3
 rcases h3 with h3 | rfl
 ·exact h3
 exact absurd hs ((first_def hd).2 ▸ hu)
theorem nodup_le : (a b : ZN) -> a.Nodup -> (∀ x ∈ a, x ∈ b) -> a.length <= b.length
 | [], b, _, _ => by simp
 | x :: a, b, h, hs => by
  rw [List.nodup_cons] at h
  have hx : x ∈ b := hs x (by simp)
  have h1 := nodup_le a (b.erase x) h.2 fun y hy => by
   have hne : y ≠ x := fun e => h.1 (e ▸ hy)
   exact (List.mem_erase_of_ne hne).2 (hs y (by simp [hy]))
  rw [List.length_erase_of_mem hx] at h1
  have := List.length_pos_of_mem hx
  simp only [List.length_cons]
  omega
theorem nodup_full {a b : ZN} (h : a.Nodup) (hs : ∀ x ∈ a, x ∈ b) (hl : b.length <= a.length) : ∀ x ∈ b, x ∈ a := by
 intro x hx
 by_cases hm : x ∈ a
 ·exact hm
 have h1 := nodup_le (x :: a) b (List.nodup_cons.2 ⟨hm, h⟩) (by simpa using ⟨hx, hs⟩)
 simp only [List.length_cons] at h1
 omega
theorem mem_defs {l : List Dfn} {i : Nat} : i ∈ (List.range l.length).filter (isDef l) ↔ isDef l i = true := by
 simp only [List.mem_filter, List.mem_range]
 exact ⟨fun h => h.2, fun h => ⟨isDef_lt h, h⟩⟩
theorem OInv.le {l : List Dfn} {o R : ZN} (h : OInv l o R) : (o ++ R).length <= countOf l :=
 nodup_le _ _ h.nodup fun i hi => mem_defs.2 ((h.ready i).1 hi).1
theorem OInv.done {l : List Dfn} {o : ZN} (h : OInv l o []) (hc : countOf l <= o.length) : Topo l o where
 nodup := by simpa using h.nodup
 all i := by
  have h1 : o.Nodup := by simpa using h.nodup
  have h2 : ∀ x ∈ o, x ∈ (List.range l.length).filter (isDef l) := fun x hx => mem_defs.2 ((h.ready x).1 (by simpa using hx)).1
  have h3 := nodup_full h1 h2 hc
  exact ⟨fun hi => mem_defs.1 (h2 i hi), fun hi => h3 i (mem_defs.2 hi)⟩
 after := h.after
theorem OInv.none {l : List Dfn} {o : ZN} (h : OInv l o []) (hc : o.length < countOf l) : ¬ ∃ q, Topo l q := by
 rintro ⟨q, hq⟩
 have key : ∀ (p i : Nat), q[p]? = some i -> i ∈ o := by
  intro p
  induction p using Nat.strongRecOn with
  | ind p ih =>
   intro i hi
   have h1 : isDef l i = true := (hq.all i).1 (List.mem_of_getElem? hi)
   have h2 : missL l o i = [] := miss_nil.2 fun s hs d hd => by
    obtain ⟨k, hk⟩ := List.mem_iff_getElem?.1 (hq.after p i hi s hs d hd)
    have hkp : k < p := by
     rcases Nat.lt_or_ge k p with h' | h'
     ·exact h'
     rw [List.getElem?_eq_none (by simp; omega)] at hk; cases hk
    rw [List.getElem?_take, if_pos hkp] at hk
    exact ih k hkp d hk
   have := (h.ready i).2 ⟨h1, h2⟩
   simpa using this
 have h3 := nodup_le _ o (List.nodup_range.filter (isDef l)) fun i hi => by
  have := (hq.all i).2 (mem_defs.1 hi)
  obtain ⟨p, hp⟩ := List.mem_iff_getElem?.1 this
  exact key p i hp
 unfold countOf at hc
 exact absurd h3 (by omega)
def firstI (f : Nat -> Int) : Nat -> Nat × Int
 | 0 => (0, 0)
 | n + 1 => if (firstI f n).2 ≠ 0 then firstI f n else if f n ≠ 0 then (n, f n) else (0, 0)
theorem firstI_zero {f : Nat -> Int} : (n : Nat) -> (∀ j, j < n -> f j = 0) -> firstI f n = (0, 0)
 | 0, _ => rfl
 | n + 1, h => by rw [firstI, firstI_zero n fun j hj => h j (by omega), h n (by omega)]; simp
theorem firstI_hit {f : Nat -> Int} {k : Nat} (hk : f k ≠ 0) (h0 : ∀ j, j < k -> f j = 0) : (n : Nat) -> k < n -> firstI f n = (k, f k)
 | 0, h => by omega
 | n + 1, h => by
  by_cases e : k = n
  ·subst e
   rw [firstI, firstI_zero k h0]; simp [hk]
  rw [firstI, firstI_hit hk h0 n (by omega)]; simp [hk]
def attrAt (s : List Attr) (x : BA) : Option Nat := s.findIdx? fun a => decide (a.name = x)
def farB (n : Int) : Bool := !numberB n
def attrErr (a : Attr) : Int :=
 if a.kind = 1 then (if a.lo ≠ 0 \/ a.hi ≠ 0 then 20 else if a.words.length = 0 then 19 else if 12 < a.words.length then 4 else if a.words.all nameB = false then 6 else if decide a.words.Nodup = false then 8 else 0)
 else if a.kind = 2 then (if 0 < a.words.length then 20 else if a.hi < a.lo \/ farB a.lo = true \/ farB a.hi = true then 1 else 0)
 else if a.kind = 3 then (if 0 < a.words.length \/ a.lo ≠ 0 \/ a.hi ≠ 0 then 20 else 0) else 11
def attr0 : Attr := ⟨⟨#[]⟩, 0, [], 0, 0⟩
def attrIErr (s : List Attr) (i : Nat) : Int :=
 if nameB (s.getD i attr0).name = false then 6 else if (s.take i).any (fun b => decide (b.name = (s.getD i attr0).name)) = true then 8 else attrErr (s.getD i attr0)
def schemaErr (s : List Attr) : Int := if s.length = 0 then 19 else if 6 < s.length then 4 else (firstI (attrIErr s) s.length).2
def defAt (l : List Cla) (x : BA) : Option Nat := l.findIdx? fun c => (c.kind == 1) && decide (c.name = x)
def nodeErr (s : List Attr) (l : List Cla) (op : Int) (name : BA) (words : ZB) (lo hi : Int) : Int :=
 if op = 3 then (match attrAt s name with | none => if (defAt l name).isSome then 0 else 7 | some i => if (s.getD i attr0).kind ≠ 3 then 9 else 0)
 else if op = 4 then (match attrAt s name with | none => 7 | some i => if (s.getD i attr0).kind ≠ 1 then 9 else if words.all (fun x => (s.getD i attr0).words.any fun y => decide (y = x)) = false then 7 else 0)
 else if op = 5 then (match attrAt s name with | none => 7 | some i => if (s.getD i attr0).kind ≠ 2 then 9 else if lo < (s.getD i attr0).lo \/ (s.getD i attr0).hi < hi then 1 else 0)
 else 0
mutual
def nodesErr (s : List Attr) (l : List Cla) : Ex -> Int
 | .mk op name words lo hi args => if nodeErr s l op name words lo hi ≠ 0 then nodeErr s l op name words lo hi else nodesErrL s l args
def nodesErrL (s : List Attr) (l : List Cla) : List Ex -> Int
 | [] => 0
 | e :: r => if nodesErr s l e ≠ 0 then nodesErr s l e else nodesErrL s l r
end
theorem nodesErr_eq (s : List Attr) (l : List Cla) (e : Ex) : nodesErr s l e = if nodeErr s l e.op e.name e.words e.lo e.hi ≠ 0 then nodeErr s l e.op e.name e.words e.lo e.hi else nodesErrL s l e.args := by cases e; rw [nodesErr]; rfl
theorem nodesErrL_zero {s : List Attr} {l : List Cla} : (r : List Ex) -> (∀ j (h : j < r.length), nodesErr s l r[j] = 0) -> nodesErrL s l r = 0
 | [], _ => by rw [nodesErrL]
 | e :: r, h => by
  have h0 := h 0 (by simp)
  simp only [List.getElem_cons_zero] at h0
  rw [nodesErrL, h0]
  simp only [ne_eq, not_true_eq_false, if_false]
  exact nodesErrL_zero r fun j hj => by have := h (j + 1) (by simpa using hj); simpa using this
theorem nodesErrL_hit {s : List Attr} {l : List Cla} : (r : List Ex) -> (k : Nat) -> (hk : k < r.length) -> nodesErr s l r[k] ≠ 0 -> (∀ j (h : j < k), nodesErr s l (r[j]'(by omega)) = 0) -> nodesErrL s l r = nodesErr s l r[k]
 | [], k, hk, _, _ => by simp at hk
 | e :: r, 0, _, h, _ => by simp only [List.getElem_cons_zero] at h ⊢; rw [nodesErrL, if_pos h]
 | e :: r, k + 1, hk, h, h0 => by
  have h1 := h0 0 (by omega)
  simp only [List.getElem_cons_zero] at h1
  rw [nodesErrL, h1]
  simp only [ne_eq, not_true_eq_false, if_false, List.getElem_cons_succ] at h ⊢
  exact nodesErrL_hit r k (by simpa using hk) h fun j hj => by have := h0 (j + 1) (by omega); simpa using this
mutual
def expE (D : BA -> Option Nat) : Ex -> Nat
 | .mk op name _ _ _ args => min ((if op = 3 then (D name).getD 1 else 1) + expL D args) 2001
def expL (D : BA -> Option Nat) : List Ex -> Nat
 | [] => 0
 | e :: r => expE D e + expL D r
end
theorem expE_eq (D : BA -> Option Nat) (e : Ex) : expE D e = min ((if e.op = 3 then (D e.name).getD 1 else 1) + expL D e.args) 2001 := by cases e; rw [expE]; rfl
theorem expL_take_succ (D : BA -> Option Nat) : (l : List Ex) -> (k : Nat) -> (hk : k < l.length) -> expL D (l.take (k + 1)) = expL D (l.take k) + expE D l[k]
 | [], k, hk => by simp at hk
 | e :: r, 0, _ => by simp [expL]
 | e :: r, k + 1, hk => by
  have := expL_take_succ D r k (by simpa using hk)
  simp [expL] at this ⊢
  omega
theorem expL_take_le (D : BA -> Option Nat) : (l : List Ex) -> (k : Nat) -> expL D (l.take k) <= expL D l
 | [], k => by simp [expL]
 | e :: r, 0 => by simp [expL]
 | e :: r, k + 1 => by
  have := expL_take_le D r k
  simp [expL]; omega
theorem expE_le (D : BA -> Option Nat) (e : Ex) : expE D e <= 2001 := by rw [expE_eq]; omega
def cla0 : Cla := ⟨0, ⟨#[]⟩, .mk 0 ⟨#[]⟩ [] 0 0 [], [], 0⟩
def expF (l : List Cla) : Nat -> Ex -> Nat
 | 0, _ => 2001
 | f + 1, e => expE (fun s => (defAt l s).map fun d => expF l f (l.getD d cla0).cond) e
def expanded (l : List Cla) (e : Ex) : Nat := expF l (l.length + 1) e
theorem expF_le (l : List Cla) (f : Nat) (e : Ex) : expF l f e <= 2001 := by cases f with | zero => simp [expF] | succ f => rw [expF]; exact expE_le _ e
def cntBacks : List Wb -> Nat
 | [] => 0
 | .mk _ _ u :: r => 1 + min (cntBacks u) 41 + cntBacks r
def backsB : Nat -> List Wb -> Bool
 | _, [] => true
 | d, .mk n c u :: r => decide (d ≠ 0) && nameB n && refExprB c && backsB (d - 1) u && backsB d r
def mostOf (kind : Int) : Int := if kind = 5 \/ kind = 6 \/ kind = 7 \/ kind = 10 then 1073741824 else if kind = 8 then 1000000 else 0
def clauseB (c : Cla) : Bool := decide (1 <= c.kind) && decide (c.kind <= 10) && nameB c.name && refExprB c.cond && (decide (c.unl.length = 0) || ((c.kind == 3) && decide (cntBacks c.unl <= 40) && backsB 16 c.unl)) &&
 ((decide (mostOf c.kind = 0) && (c.amount == 0)) || (decide (0 < mostOf c.kind) && decide (1 <= c.amount) && decide (c.amount <= mostOf c.kind)))
def backsErr (s : List Attr) (l : List Cla) : List Wb -> Int
 | [] => 0
 | .mk _ c u :: r => if nodesErr s l c ≠ 0 then nodesErr s l c else if backsErr s l u ≠ 0 then backsErr s l u else backsErr s l r
def backsLarge (l : List Cla) : List Wb -> Bool
 | [] => false
 | .mk _ c u :: r => decide (2000 < expanded l c) || backsLarge l u || backsLarge l r
def findAt (l : List Cla) (x : BA) : Option Nat := l.findIdx? fun c => decide (c.name = x)
def claErr (s : List Attr) (l : List Cla) (i : Nat) : Int :=
 if clauseB (l.getD i cla0) = false then 5 else if (findAt l (l.getD i cla0).name).getD 0 < i then 8 else if (attrAt s (l.getD i cla0).name).isSome then 8 else
 if nodesErr s l (l.getD i cla0).cond ≠ 0 then nodesErr s l (l.getD i cla0).cond else backsErr s l (l.getD i cla0).unl
def claLarge (l : List Cla) (i : Nat) : Int := if 2000 < expanded l (l.getD i cla0).cond \/ backsLarge l (l.getD i cla0).unl = true then 4 else 0
def Cla.dfn (c : Cla) : Dfn := ⟨c.kind == 1, c.name, refNames (namesE c.cond)⟩
def Sorts (l : List Dfn) : Prop := ∃ o, Topo l o
open Classical in
noncomputable def clausesErr (s : List Attr) (l : List Cla) : Nat × Int :=
 if schemaErr s ≠ 0 then (0, schemaErr s) else if 100 < l.length then (0, 4) else if (firstI (claErr s l) l.length).2 ≠ 0 then firstI (claErr s l) l.length else
 if ¬ Sorts (l.map Cla.dfn) then (0, 10) else firstI (claLarge l) l.length
mutual
def bareE : Ex -> Bool
 | .mk op _ _ _ _ args => (op != 3 || args.isEmpty) && bareL args
def bareL : List Ex -> Bool
 | [] => true
 | e :: r => bareE e && bareL r
end
mutual
def szE (D : BA -> Option Nat) : Ex -> Nat
 | .mk op name _ _ _ args => match (if op = 3 then D name else none) with | some n => n | none => szL D 1 args
def szL (D : BA -> Option Nat) : Nat -> List Ex -> Nat
 | n, [] => n
 | n, e :: r => szL D (min (n + szE D e) 2001) r
end
theorem szE_eq' (D : BA -> Option Nat) (e : Ex) : szE D e = match (if e.op = 3 then D e.name else none) with | some n => n | none => szL D 1 e.args := by cases e; rw [szE]; rfl
theorem szL_snoc (D : BA -> Option Nat) : (l : List Ex) -> (n : Nat) -> (e : Ex) -> szL D n (l ++ [e]) = min (szL D n l + szE D e) 2001
 | [], n, e => by simp [szL]
 | x :: r, n, e => by simp [szL, szL_snoc D r]
theorem szL_take_succ (D : BA -> Option Nat) (l : List Ex) (n k : Nat) (h : k < l.length) : szL D n (l.take (k + 1)) = min (szL D n (l.take k) + szE D l[k]) 2001 := by
 rw [List.take_succ_eq_append_getElem h, szL_snoc]
mutual
theorem szE_exp {D : BA -> Option Nat} (hD : ∀ s n, D s = some n -> n <= 2001) : (e : Ex) -> bareE e = true -> szE D e = expE D e
 | .mk op name words lo hi args, h => by
  rw [bareE, Bool.and_eq_true] at h
  rw [szE, expE]
  have hl := szL_exp hD args h.2
  by_cases h3 : op = 3
  ·have ha : args = [] := by
    have := h.1
    rw [h3] at this
    simpa using this
   subst ha
   simp only [if_pos h3]
   cases hd : D name with
   | none => simp [szL, expL]
   | some n => have := hD name n hd; simp [expL]; omega
  simp only [if_neg h3]
  exact hl 1 (by omega)
theorem szL_exp {D : BA -> Option Nat} (hD : ∀ s n, D s = some n -> n <= 2001) : (l : List Ex) -> bareL l = true -> ∀ n, n <= 2001 -> szL D n l = min (n + expL D l) 2001
 | [], _, n, hn => by simp [szL, expL]; omega
 | e :: r, h, n, hn => by
  rw [bareL, Bool.and_eq_true] at h
  rw [szL, expL, szL_exp hD r h.2 _ (by omega), szE_exp hD e h.1]
  omega
end
mutual
theorem expE_congr {D D' : BA -> Option Nat} : (e : Ex) -> (∀ s ∈ namesE e, D s = D' s) -> expE D e = expE D' e
 | .mk op name words lo hi args, h => by
  rw [expE, expE]
  rw [namesE] at h
  rw [expL_congr args fun s hs => h s (List.mem_append_right _ hs)]
  by_cases h3 : op = 3
  ·rw [if_pos h3, if_pos h3, h name (List.mem_append_left _ (by simp [h3]))]
  rw [if_neg h3, if_neg h3]
theorem expL_congr {D D' : BA -> Option Nat} : (l : List Ex) -> (∀ s ∈ namesL l, D s = D' s) -> expL D l = expL D' l
 | [], _ => by rw [expL, expL]
 | e :: r, h => by
  rw [namesL] at h
  rw [expL, expL, expE_congr e fun s hs => h s (List.mem_append_left _ hs), expL_congr r fun s hs => h s (List.mem_append_right _ hs)]
end
theorem findIdx_map {α β : Type} (f : α -> β) (p : β -> Bool) (l : List α) : (l.map f).findIdx? p = l.findIdx? (fun x => p (f x)) := by
 rw [List.findIdx?_map]; rfl
theorem firstAt_dfn (l : List Cla) (s : BA) : firstAt (l.map Cla.dfn) s = defAt l s := by
 unfold firstAt defAt
 rw [findIdx_map]
 rfl
theorem getD_cla {l : List Cla} {i : Nat} (h : i < l.length) : l.getD i cla0 = l[i] := by simp [h]
theorem isDef_dfn {l : List Cla} {i : Nat} (h : i < l.length) : isDef (l.map Cla.dfn) i = (l[i].kind == 1) := by
 unfold isDef
 simp [h, Cla.dfn]
theorem usesAt_dfn {l : List Cla} {i : Nat} (h : i < l.length) : usesAt (l.map Cla.dfn) i = refNames (namesE l[i].cond) := by
 unfold usesAt
 simp [h, Cla.dfn]
theorem defAt_lt {l : List Cla} {s : BA} {d : Nat} (h : defAt l s = some d) : d < l.length := by
 unfold defAt at h
 rw [List.findIdx?_eq_some_iff_getElem] at h
 exact h.1
theorem defAt_name {l : List Cla} {s : BA} {d : Nat} (h : defAt l s = some d) : (l.getD d cla0).name = s /\ (l.getD d cla0).kind = 1 := by
 have hd := defAt_lt h
 unfold defAt at h
 rw [List.findIdx?_eq_some_iff_getElem] at h
 obtain ⟨_, h1, _⟩ := h
 simp only [Bool.and_eq_true, beq_iff_eq, decide_eq_true_eq] at h1
 rw [getD_cla hd]
 exact ⟨h1.2, h1.1⟩
theorem Topo.lt {l : List Dfn} {o : ZN} (h : Topo l o) {i : Nat} (hi : i ∈ o) : i < l.length := isDef_lt ((h.all i).1 hi)
theorem Topo.len {l : List Dfn} {o : ZN} (h : Topo l o) : o.length <= l.length := by
 have := nodup_le o (List.range l.length) h.nodup fun x hx => List.mem_range.2 (h.lt hx)
 simpa using this
theorem expF_stable {l : List Cla} {o : ZN} (h : Topo (l.map Cla.dfn) o) : ∀ (q d : Nat), o[q]? = some d -> ∀ f g, q < f -> q < g -> expF l f (l.getD d cla0).cond = expF l g (l.getD d cla0).cond := by
 intro q
 induction q using Nat.strongRecOn with
 | ind q ih =>
  intro d hd f g hf hg
  obtain ⟨f, rfl⟩ : ∃ k, f = k + 1 := ⟨f - 1, by omega⟩
  obtain ⟨g, rfl⟩ : ∃ k, g = k + 1 := ⟨g - 1, by omega⟩
  rw [expF, expF]
  refine expE_congr _ fun s hs => ?_
  have hdl : d < l.length := by simpa using h.lt (List.mem_of_getElem? hd)
  cases hda : defAt l s with
  | none => rfl
  | some d' =>
   have h1 := h.after q d hd s (by rw [usesAt_dfn hdl, refNames_mem]; rwa [getD_cla hdl] at hs) d' (by rw [firstAt_dfn]; exact hda)
   obtain ⟨q', hq'⟩ := List.mem_iff_getElem?.1 h1
   have hlt : q' < q := by
    rcases Nat.lt_or_ge q' q with h' | h'
    ·exact h'
    rw [List.getElem?_eq_none (by simp; omega)] at hq'; cases hq'
   rw [List.getElem?_take, if_pos hlt] at hq'
   simp only [Option.map_some, Option.some.injEq]
   exact ih q' hlt d' hq' f g (by omega) (by omega)
def sizesF (l : List Cla) (o : ZN) : BA -> Option Nat := o.foldl (fun D i s => if s = (l.getD i cla0).name then some (szE D (l.getD i cla0).cond) else D s) (fun _ => none)
theorem sizesF_snoc (l : List Cla) (o : ZN) (i : Nat) (s : BA) : sizesF l (o ++ [i]) s = if s = (l.getD i cla0).name then some (szE (sizesF l o) (l.getD i cla0).cond) else sizesF l o s := by simp [sizesF]
theorem sizesF_spec {l : List Cla} {o : ZN} (h : Topo (l.map Cla.dfn) o) (hu : ∀ i ∈ o, defAt l (l.getD i cla0).name = some i) (hb : ∀ i ∈ o, bareE (l.getD i cla0).cond = true) :
  ∀ p, p <= o.length -> ∀ s, sizesF l (o.take p) s = match defAt l s with | some d => if d ∈ o.take p then some (expF l l.length (l.getD d cla0).cond) else none | none => none := by
 have hol : o.length <= l.length := by simpa using h.len
 intro p
 induction p with
 | zero =>
  intro _ s
  simp only [List.take_zero, List.not_mem_nil, if_false]
  cases defAt l s <;> rfl
 | succ p ih =>
  intro hp s
  have hp' : p < o.length := by omega
  have IH := ih (by omega)
  have hD : ∀ s n, sizesF l (o.take p) s = some n -> n <= 2001 := by
   intro s n hn
   rw [IH s] at hn
   cases hd : defAt l s with
   | none => rw [hd] at hn; cases hn
   | some d =>
    rw [hd] at hn
    simp only at hn
    split at hn
    ·cases hn; exact expF_le _ _ _
    cases hn
  have him : o[p] ∈ o := List.getElem_mem hp'
  have hil : o[p] < l.length := by simpa using h.lt him
  rw [List.take_succ_eq_append_getElem hp', sizesF_snoc]
  have key : szE (sizesF l (o.take p)) (l.getD o[p] cla0).cond = expF l l.length (l.getD o[p] cla0).cond := by
   rw [szE_exp hD _ (hb _ him), expF_stable h p o[p] (List.getElem?_eq_getElem hp') l.length (l.length + 1) (by omega) (by omega), expF]
   refine expE_congr _ fun t ht => ?_
   rw [IH t]
   cases hda : defAt l t with
   | none => rfl
   | some d =>
    have h1 := h.after p o[p] (List.getElem?_eq_getElem hp') t (by rw [usesAt_dfn hil, refNames_mem]; rwa [getD_cla hil] at ht) d (by rw [firstAt_dfn]; exact hda)
    simp [h1]
  by_cases hs : s = (l.getD o[p] cla0).name
  ·rw [if_pos hs, key, hs, hu _ him]
   simp only [List.mem_append, List.mem_singleton, or_true, if_true]
  rw [if_neg hs, IH s]
  cases hd : defAt l s with
  | none => rfl
  | some d =>
   have hne : d ≠ o[p] := fun e => hs (by rw [<- e]; exact (defAt_name hd).1.symm)
   simp only [List.mem_append, List.mem_singleton, hne, or_false]
theorem sizes_exp {l : List Cla} {o : ZN} (h : Topo (l.map Cla.dfn) o) (hu : ∀ i ∈ o, defAt l (l.getD i cla0).name = some i) (hb : ∀ i ∈ o, bareE (l.getD i cla0).cond = true) (e : Ex) (he : bareE e = true) : szE (sizesF l o) e = expanded l e := by
 have hs := sizesF_spec h hu hb o.length (Nat.le_refl _)
 rw [List.take_length] at hs
 have hD : ∀ s n, sizesF l o s = some n -> n <= 2001 := by
  intro s n hn
  rw [hs s] at hn
  cases hd : defAt l s with
  | none => rw [hd] at hn; cases hn
  | some d =>
   rw [hd] at hn
   simp only at hn
   split at hn
   ·cases hn; exact expF_le _ _ _
   cases hn
 rw [szE_exp hD e he, expanded, expF]
 refine expE_congr _ fun t ht => ?_
 rw [hs t]
 cases hda : defAt l t with
 | none => rfl
 | some d =>
  have hdl := defAt_lt hda
  have : d ∈ o := (h.all d).2 (by rw [isDef_dfn hdl, <- getD_cla hdl, (defAt_name hda).2]; rfl)
  simp [this]
theorem IsSchema.parts {w : World} {l : List Attr} {v : Value} (h : IsSchema w l v) : ∃ a n c, v = .agg #[.slice a n c] /\ n = l.length /\ n <= c /\ OkAddr a c /\ ∀ i (h : i < l.length), ∃ b off, a = some ⟨b, off, none⟩ /\ AttrAt w l[i] b (off + i * 5) := h
theorem IsSchema.ext {w w' : World} {l : List Attr} {v : Value} (h : IsSchema w l v) (he : Ext w w') : IsSchema w' l v := h.mono he.sub
def optV (o : Option Nat) : Value := .tuple #[.int .i64 (o.getD 0 : Nat), .bool o.isSome]
theorem find_hit {α : Type} {p : α -> Bool} {l : List α} {k : Nat} (hk : k < l.length) (h1 : p l[k] = true) (h2 : ∀ j (h : j < l.length), j < k -> p l[j] = false) : l.findIdx? p = some k := by
 rw [List.findIdx?_eq_some_iff_getElem]
 exact ⟨hk, h1, fun j hj => by rw [h2 j (by omega) hj]; simp⟩
theorem find_miss {α : Type} {p : α -> Bool} {l : List α} (h : ∀ j (h : j < l.length), p l[j] = false) : l.findIdx? p = none := by
 rw [List.findIdx?_eq_none_iff]
 intro x hx
 obtain ⟨i, hi, rfl⟩ := List.mem_iff_getElem.1 hx
 simp [h i hi]
theorem blk1 {w : World} {b : Nat} {v0 : Value} {t : TypeId} (h : w.heap[b]? = some (.cells #[v0] t (0, 0))) : w.cell? ⟨b, 0, none⟩ = some v0 /\ (∀ j, w.frozen? ⟨b, j, none⟩ = false) := ⟨blk_cell h 0, fun j => blk_free h j⟩
theorem dec_of_beq {a b : BA} {u : Bool} (h : (a.toList == b.toList) = u) : decide (a = b) = u := by rw [<- toList_beq]; exact h
theorem rIndex_calls (s : List Attr) (v : Value) (x : BA) (w : World) (hs : IsSchema w s v) (hl : s.length <= 1000000000000000) :
  Calls Tryz.prog 91 #[v, .string x] w (GivesE (optV (attrAt s x)) w) := by
 obtain ⟨a, n, c, rfl, hn, hnc, hoa, hat⟩ := hs.parts
 have HS := hI hs
 have HN := hI hn
 have hn2 : n <= 1000000000000000 := by omega
 clear hs hn hat hnc hoa
 go_enter Tryz.func91, Tryz.ntmps91
 go_wp2_with fail
 go_loopw [6] (fun t wr => ∃ k : Nat, t = .int .i64 k /\ k <= n /\ (∀ j (h : j < s.length), j < k -> decide (s[j].name = x) = false) /\ wr.heap[w.heap.size]? = some (.cells #[.slice a n c] 24 (0, 0)) /\ Ext w wr) (fun t _ => n - (intOf t).toNat)
 case atStart => exact ⟨0, rfl, by omega, fun j _ h => by omega, alloc_new w _, (Ext.refl w).alloc _⟩
 case round =>
  obtain ⟨k, rfl, hk, hno, hbx, hx⟩ := hrel
  have HNO := hI hno
  have HBX := hI hbx
  have HX := hI hx
  obtain ⟨bb0, bbf⟩ := blk1 hbx
  have hlt0 := blk_lt hbx
  clear hno hbx hx
  by_cases hkn : k < n
  ·have hks : k < s.length := by have := HN.out; omega
   obtain ⟨a', n', c', e', hx1, hx2, hx3, hat⟩ := (HS.out.ext HX.out).parts
   simp only [Value.agg.injEq, Array.mk.injEq, List.cons.injEq, Value.slice.injEq, and_true] at e'
   obtain ⟨rfl, rfl, rfl⟩ := e'
   clear hx1 hx2 hx3
   obtain ⟨b, off, rfl, aw, nw, cw, h0, h1, h2, h3, h4, h5⟩ := hat k hks
   have t1 : decide ((k : Int) < (n : Int)) = true := decide_eq_true (by omega)
   cases he : (s[k].name.toList == x.toList)
   ·have HE := hI (dec_of_beq he)
    clear hat h5
    go_wp2_with fail
    go_roundw
    case rel =>
     refine ⟨k + 1, by go_num, by omega, fun j hj hjk => ?_, HBX.out, HX.out⟩
     by_cases e : j = k
     ·subst e; exact HE.out
     exact HNO.out j hj (by omega)
    case measure => simp [intOf]; omega
   have HF := hI (show attrAt s x = some k from find_hit hks (dec_of_beq he) HNO.out)
   clear hat h5
   go_wp2_with fail
   go_ret2
   exact ⟨by rw [optV, HF.out]; rfl, HX.out⟩
  have t1 : decide ((k : Int) < (n : Int)) = false := decide_eq_false (by omega)
  have HF := hI (show attrAt s x = none from find_miss fun j hj => HNO.out j hj (by have := HN.out; omega))
  go_wp2_with fail
  go_ret2
  exact ⟨by rw [optV, HF.out]; rfl, HX.out⟩
theorem rFind_calls (l : List Cla) (a : OA) (n c : Nat) (x : BA) (w : World) (hs : IsClas w l a n c) (hl : n <= 1000000000000000) :
  Calls Tryz.prog 90 #[.slice a n c, .string x] w (Gives (optV (findAt l x)) w) := by
 have HS := hI hs
 have HN := hI hs.len
 clear hs
 go_enter Tryz.func90, Tryz.ntmps90
 go_wp2_with fail
 go_loop [6] (fun t => ∃ k : Nat, t = .int .i64 k /\ k <= n /\ (∀ j (h : j < l.length), j < k -> decide (l[j].name = x) = false)) (fun t => n - (intOf t).toNat)
 case atStart => exact ⟨0, rfl, by omega, fun j _ h => by omega⟩
 case round =>
  obtain ⟨k, rfl, hk, hno⟩ := hrel
  have HNO := hI hno
  clear hno
  by_cases hkn : k < n
  ·have hks : k < l.length := by have := HN.out; omega
   obtain ⟨b, off, v, rfl, hcla, hrow⟩ := HS.out.at hks
   obtain ⟨c0, c1, -, -, -, -, -, -, -, -⟩ := hrow.ten
   have hq2 := hcla.2.1
   rw [hq2] at c1
   have t1 : decide ((k : Int) < (n : Int)) = true := decide_eq_true (by omega)
   cases he : (l[k].name.toList == x.toList)
   ·have HE := hI (dec_of_beq he)
    clear hcla hrow hq2 c0
    go_wp2_with fail
    go_round
    case rel =>
     refine ⟨k + 1, by go_num, by omega, fun j hj hjk => ?_⟩
     by_cases e : j = k
     ·subst e; exact HE.out
     exact HNO.out j hj (by omega)
    case measure => simp [intOf]; omega
   have HF := hI (show findAt l x = some k from find_hit hks (dec_of_beq he) HNO.out)
   clear hcla hrow hq2 c0
   go_wp2_with fail
   go_ret2
   exact ⟨by rw [optV, HF.out]; rfl, rfl⟩
  have t1 : decide ((k : Int) < (n : Int)) = false := decide_eq_false (by omega)
  have HF := hI (show findAt l x = none from find_miss fun j hj => HNO.out j hj (by have := HN.out; omega))
  go_wp2_with fail
  go_ret2
  exact ⟨by rw [optV, HF.out]; rfl, rfl⟩
theorem rDef_calls (l : List Cla) (a : OA) (n c : Nat) (x : BA) (w : World) (hs : IsClas w l a n c) (hl : n <= 1000000000000000) :
  Calls Tryz.prog 125 #[.slice a n c, .string x] w (Gives (optV (defAt l x)) w) := by
 have HS := hI hs
 have HN := hI hs.len
 clear hs
 go_enter Tryz.func125, Tryz.ntmps125
 go_wp2_with fail
 go_loop [6] (fun t => ∃ k : Nat, t = .int .i64 k /\ k <= n /\ (∀ j (h : j < l.length), j < k -> ((l[j].kind == 1) && decide (l[j].name = x)) = false)) (fun t => n - (intOf t).toNat)
 case atStart => exact ⟨0, rfl, by omega, fun j _ h => by omega⟩
 case round =>
  obtain ⟨k, rfl, hk, hno⟩ := hrel
  have HNO := hI hno
  clear hno
  by_cases hkn : k < n
  ·have hks : k < l.length := by have := HN.out; omega
   obtain ⟨b, off, v, rfl, hcla, hrow⟩ := HS.out.at hks
   obtain ⟨c0, c1, -, -, -, -, -, -, -, -⟩ := hrow.ten
   have hq1 := hcla.1
   have hq2 := hcla.2.1
   rw [hq2] at c1
   rw [hq1] at c0
   have t1 : decide ((k : Int) < (n : Int)) = true := decide_eq_true (by omega)
   cases hkd : (l[k].kind == 1)
   ·have HE := hI (show ((l[k].kind == 1) && decide (l[k].name = x)) = false by rw [hkd]; rfl)
    clear hcla hrow hq2 hq1
    go_wp2_with fail
    go_round
    case rel =>
     refine ⟨k + 1, by go_num, by omega, fun j hj hjk => ?_⟩
     by_cases e : j = k
     ·subst e; exact HE.out
     exact HNO.out j hj (by omega)
    case measure => simp [intOf]; omega
   cases he : (l[k].name.toList == x.toList)
   ·have HE := hI (show ((l[k].kind == 1) && decide (l[k].name = x)) = false by rw [hkd, dec_of_beq he]; rfl)
    clear hcla hrow hq2 hq1
    go_wp2_with fail
    go_round
    case rel =>
     refine ⟨k + 1, by go_num, by omega, fun j hj hjk => ?_⟩
     by_cases e : j = k
     ·subst e; exact HE.out
     exact HNO.out j hj (by omega)
    case measure => simp [intOf]; omega
   have HF := hI (show defAt l x = some k from find_hit hks (by rw [hkd, dec_of_beq he]; rfl) HNO.out)
   clear hcla hrow hq2 hq1
   go_wp2_with fail
   go_ret2
   exact ⟨by rw [optV, HF.out]; rfl, rfl⟩
  have t1 : decide ((k : Int) < (n : Int)) = false := decide_eq_false (by omega)
  have HF := hI (show defAt l x = none from find_miss fun j hj => HNO.out j hj (by have := HN.out; omega))
  go_wp2_with fail
  go_ret2
  exact ⟨by rw [optV, HF.out]; rfl, rfl⟩
theorem rWithin_calls (l : ZB) (a : OA) (n c : Nat) (x : BA) (w : World) (hs : IsStrs w l a n c) (hl : n <= 1000000000000000) :
  Calls Tryz.prog 158 #[.slice a n c, .string x] w (Gives (.bool (l.any fun y => decide (y = x))) w) := by
 have HS := hI hs
 have HN := hI hs.1
 clear hs
 go_enter Tryz.func158, Tryz.ntmps158
 go_wp2_with fail
 go_loop [5] (fun t => ∃ k : Nat, t = .int .i64 k /\ k <= n /\ (∀ j (h : j < l.length), j < k -> decide (l[j] = x) = false)) (fun t => n - (intOf t).toNat)
 case atStart => exact ⟨0, rfl, by omega, fun j _ h => by omega⟩
 case round =>
  obtain ⟨k, rfl, hk, hno⟩ := hrel
  have HNO := hI hno
  clear hno
  by_cases hkn : k < n
  ·have hks : k < l.length := by have := HN.out; omega
   obtain ⟨b, off, rfl, c1⟩ := HS.out.2.2.2 k hks
   have t1 : decide ((k : Int) < (n : Int)) = true := decide_eq_true (by omega)
   cases he : (l[k].toList == x.toList)
   ·have HE := hI (dec_of_beq he)
    go_wp2_with fail
    go_round
    case rel =>
     refine ⟨k + 1, by go_num, by omega, fun j hj hjk => ?_⟩
     by_cases e : j = k
     ·subst e; exact HE.out
     exact HNO.out j hj (by omega)
    case measure => simp [intOf]; omega
   have HF := hI (show (l.any fun y => decide (y = x)) = true from List.any_eq_true.2 ⟨l[k], List.getElem_mem hks, dec_of_beq he⟩)
   go_wp2_with fail
   go_ret
   exact gives_bool (by rw [HF.out])
  have t1 : decide ((k : Int) < (n : Int)) = false := decide_eq_false (by omega)
  have HF := hI (show (l.any fun y => decide (y = x)) = false by
   rw [List.any_eq_false]
   intro y hy
   obtain ⟨j, hj, rfl⟩ := List.mem_iff_getElem.1 hy
   have := HNO.out j hj (by have := HN.out; omega)
   simp [this])
  go_wp2_with fail
  go_ret
  exact gives_bool (by rw [HF.out])
theorem rMost_calls (k : Int) (w : World) : Calls Tryz.prog 42 #[.int .i64 k] w (Gives (.int .i64 (mostOf k)) w) := by
 by_cases h5 : k = 5
 ·subst h5
  go_enter Tryz.func42, Tryz.ntmps42
  go_wp2_with fail
  go_ret
  exact ⟨rfl, rfl⟩
 by_cases h6 : k = 6
 ·subst h6
  go_enter Tryz.func42, Tryz.ntmps42
  go_wp2_with fail
  go_ret
  exact ⟨rfl, rfl⟩
 by_cases h7 : k = 7
 ·subst h7
  go_enter Tryz.func42, Tryz.ntmps42
  go_wp2_with fail
  go_ret
  exact ⟨rfl, rfl⟩
 by_cases h10 : k = 10
 ·subst h10
  go_enter Tryz.func42, Tryz.ntmps42
  go_wp2_with fail
  go_ret
  exact ⟨rfl, rfl⟩
 by_cases h8 : k = 8
 ·subst h8
  go_enter Tryz.func42, Tryz.ntmps42
  go_wp2_with fail
  go_ret
  exact ⟨rfl, rfl⟩
 have e5 : (k == 5) = false := by simp [h5]
 have e6 : (k == 6) = false := by simp [h6]
 have e7 : (k == 7) = false := by simp [h7]
 have e10 : (k == 10) = false := by simp [h10]
 have e8 : (k == 8) = false := by simp [h8]
 have HM := hI (show mostOf k = 0 by unfold mostOf; rw [if_neg (by omega), if_neg (by omega)])
 go_enter Tryz.func42, Tryz.ntmps42
 go_wp2_with fail
 go_ret
 exact ⟨by rw [HM.out]; rfl, rfl⟩
end Go.Proofs.YtefjomofjejklaaGreatDoor
