/-
  Texts of the claim, joined: Ref3, Ref4, SetRow, Twist, Conv, Upto.
-/
import Derived.Test.YtfjlglefodndjaaGreatDoorCc09
import Derived.Test.YtfjlglefodndjaaGreatDoorCc02
import Derived.Test.YtfjlglefodndjaaGreatDoorCc07
import Derived.Test.YtfjlglefodndjaaGreatDoorCc06
import Derived.Test.YtfjlglefodndjaaGreatDoorCc04
import Derived.Deep.DeepCutAuto
import Derived.Test.YtfjlglefodndjaaGreatDoorCc01
import Derived.Laws.BytesString
namespace Go.Proofs.YtfjlglefodndjaaGreatDoor
open Go.RowKit

/-- The reference's look at one node; na, nw: the numbers of arguments and of words. -/
def refNode (op : Int) (name : ByteArray) (words : List ByteArray) (lo hi : Int) (na nw : Nat) : Bool :=
  decide (1 ≤ op ∧ op ≤ 8) && (if op == 3 || op == 4 || op == 5 then nameB name else name.toList.isEmpty) && (if op == 4 then decide (1 ≤ nw) && decide (nw ≤ 12) && words.all nameB && decide words.Nodup else decide (nw = 0)) &&
  (if op == 5 then numberB lo && numberB hi && decide (lo ≤ hi) else (lo == 0) && (hi == 0)) && (if op == 6 then decide (na = 1) else if op == 7 || op == 8 then decide (2 ≤ na) else decide (na = 0))
def refNodeB (e : Ex) : Bool := refNode e.op e.name e.words e.lo e.hi e.args.length e.words.length

theorem int_beq0 (n : Nat) : ((n : Int) == 0) = decide (n = 0) := by rw [Bool.eq_iff_iff]; simp
theorem int_beq1 (n : Nat) : ((n : Int) == 1) = decide (n = 1) := by rw [Bool.eq_iff_iff]; simp; omega
set_option maxRecDepth 100000 in
set_option maxHeartbeats 4000000 in
theorem rnode_calls (e : Ex) (v : Value) (w : World) (he : IsEx w e v) (hs : e.name.size ≤ 1000000000000000) (hws : ∀ x ∈ e.words, x.size ≤ 1000000000000000) (hnw : e.words.length ≤ 1000000000000000) :
    Calls Tryz.prog 85 #[v] w (GivesE (.bool (refNodeB e)) w) := by
  obtain ⟨aw, nw, cw, aa, na, ca, rfl, hw, hna, hca, ha, hx⟩ := he.parts
  clear he hx ha hca
  have HW := Lib.hid hw
  have HS := Lib.hid hws
  have hnw' : nw ≤ 1000000000000000 := by have := hw.1; omega
  have HB := Lib.hid (show refNodeB e = refNode e.op e.name e.words e.lo e.hi na nw by unfold refNodeB; rw [hna, hw.1])
  generalize refNodeB e = B at *
  clear hw hws hna hnw
  obtain ⟨op, name, words, lo, hi, args⟩ := e
  simp only [Ex.op, Ex.name, Ex.words, Ex.lo, Ex.hi] at *
  unfold exV
  by_cases h1 : 1 ≤ op
  · by_cases h8 : op ≤ 8
    · have hk : op = 1 ∨ op = 2 ∨ op = 3 ∨ op = 4 ∨ op = 5 ∨ op = 6 ∨ op = 7 ∨ op = 8 := by omega
      clear h1 h8
      rcases hk with rfl | rfl | rfl | rfl | rfl | rfl | rfl | rfl
      case inr.inr.inr.inl =>
        obtain ⟨P, hP⟩ : ∃ P, P = words.all nameB := ⟨_, rfl⟩
        obtain ⟨Q, hQ⟩ : ∃ Q, Q = decide words.Nodup := ⟨_, rfl⟩
        have HP := Lib.hid hP
        have HQ := Lib.hid hQ
        have HB2 := Lib.hid (show B = (nameB name && (decide (1 ≤ nw) && decide (nw ≤ 12) && P && Q) && ((lo == 0) && (hi == 0)) && decide (na = 0)) by rw [HB.out]; unfold refNode; rw [hP, hQ]; simp)
        clear hP hQ HB
        cases P
        all_goals cases Q
        all_goals
          by_cases hn1 : 1 ≤ nw
          · by_cases hn2 : nw ≤ 12
            · have t1 : decide ((nw : Int) < 1) = false := by simp; omega
              have t2 : decide ((12 : Int) < nw) = false := by simp; omega
              have HB3 := Lib.hid HB2.out
              simp only [hn1, hn2, decide_true, Bool.false_and, Bool.and_false, Bool.and_true] at HB3
              clear HB2
              go_enter Tryz.func85, Tryz.ntmps85
              go_wp2_with (first
                | (go_at_call 54; refine (rname_calls _ _ hs).mono ?_; rintro e w' ⟨rfl, rfl⟩)
                | (go_at_call 82; refine (names_calls words _ _ _ _ (HW.out.ext ((Ext.refl w).alloc _)) hnw' HS.out).mono ?_; rintro e w' ⟨rfl, rfl⟩; rw [← HP.out])
                | (go_at_call 83; refine (distinct_calls words _ _ _ _ (HW.out.ext ((Ext.refl w).alloc _)) hnw').mono ?_; rintro e w' ⟨rfl, q, rfl⟩; rw [← HQ.out]))
              all_goals (go_ret; exact givesE_bool (by first | (rw [HB3.out]; done) | (rw [HB3.out]; simp_all [int_beq0])) (by first | exact (Ext.refl w).alloc _ | exact ((Ext.refl w).alloc _).drewN _))
            · have t1 : decide ((nw : Int) < 1) = false := by simp; omega
              have t2 : decide ((12 : Int) < nw) = true := by simp; omega
              have HF := Lib.hid (show B = false by rw [HB2.out]; simp [hn2])
              clear HB2
              go_enter Tryz.func85, Tryz.ntmps85
              go_wp2_with (go_at_call 54; refine (rname_calls _ _ hs).mono ?_; rintro e w' ⟨rfl, rfl⟩)
              all_goals (go_ret; exact givesE_bool (by rw [HF.out]) ((Ext.refl w).alloc _))
          · have t1 : decide ((nw : Int) < 1) = true := by simp; omega
            have HF := Lib.hid (show B = false by rw [HB2.out]; simp [hn1])
            clear HB2
            go_enter Tryz.func85, Tryz.ntmps85
            go_wp2_with (go_at_call 54; refine (rname_calls _ _ hs).mono ?_; rintro e w' ⟨rfl, rfl⟩)
            all_goals (go_ret; exact givesE_bool (by rw [HF.out]) ((Ext.refl w).alloc _))
      all_goals
        go_enter Tryz.func85, Tryz.ntmps85
        go_wp2_with (first
          | (go_at_call 54; refine (rname_calls _ _ hs).mono ?_; rintro e w' ⟨rfl, rfl⟩)
          | (go_at_call 84; refine (far_calls _ _).mono ?_; rintro e w' ⟨rfl, rfl⟩))
        all_goals (go_ret; exact givesE_bool (by rw [HB.out]; simp_all [refNode, int_beq0, int_beq1]; try omega) ((Ext.refl w).alloc _))
    · have H := Lib.hid (show B = false by rw [HB.out]; simp [refNode, h8])
      have t1 : decide (op < 1) = false := by simp; omega
      have t2 : decide (8 < op) = true := by simp; omega
      have e3 : (op == 3) = false := by simp; omega
      have e4 : (op == 4) = false := by simp; omega
      have e5 : (op == 5) = false := by simp; omega
      go_enter Tryz.func85, Tryz.ntmps85
      go_wp2_with fail
      go_ret
      exact givesE_bool (by rw [H.out]) ((Ext.refl w).alloc _)
  · have H := Lib.hid (show B = false by rw [HB.out]; simp [refNode, h1])
    have t1 : decide (op < 1) = true := by simp; omega
    have e3 : (op == 3) = false := by simp; omega
    have e4 : (op == 4) = false := by simp; omega
    have e5 : (op == 5) = false := by simp; omega
    go_enter Tryz.func85, Tryz.ntmps85
    go_wp2_with fail
    go_ret
    exact givesE_bool (by rw [H.out]) ((Ext.refl w).alloc _)
end Go.Proofs.YtfjlglefodndjaaGreatDoor

namespace Go.Proofs.YtfjlglefodndjaaGreatDoor
open Go.RowKit

mutual
def nodesB : Ex → Bool
  | .mk op name words lo hi args => refNodeB (.mk op name words lo hi args) && nodesAll args
def nodesAll : List Ex → Bool
  | [] => true
  | e :: r => nodesB e && nodesAll r
end
theorem nodesB_eq (e : Ex) : nodesB e = (refNodeB e && nodesAll e.args) := by cases e; rw [nodesB]; rfl
theorem nodesAll_iff (l : List Ex) : nodesAll l = true ↔ ∀ j (h : j < l.length), nodesB l[j] = true := by
  induction l with
  | nil => simp [nodesAll]
  | cons e r ih =>
    rw [nodesAll, Bool.and_eq_true, ih]
    constructor
    · rintro ⟨h1, h2⟩ j hj
      cases j with
      | zero => exact h1
      | succ j => exact h2 j (by simpa using hj)
    · intro h
      exact ⟨h 0 (by simp), fun j hj => h (j + 1) (by simpa using hj)⟩
mutual
def Ex.few : Ex → Prop
  | .mk _ _ words _ _ args => words.length ≤ 1000000000000000 ∧ fewAll args
def fewAll : List Ex → Prop
  | [] => True
  | e :: r => e.few ∧ fewAll r
end
theorem fewAll_at : (l : List Ex) → fewAll l → (k : Nat) → (hk : k < l.length) → l[k].few
  | [], _, k, hk => by simp at hk
  | e :: r, h, 0, _ => by unfold fewAll at h; exact h.1
  | e :: r, h, k + 1, hk => by unfold fewAll at h; simpa using fewAll_at r h.2 k (by simpa using hk)
theorem few_parts {e : Ex} (h : e.few) : e.words.length ≤ 1000000000000000 ∧ fewAll e.args := by
  cases e; unfold Ex.few at h; exact h

set_option maxRecDepth 100000 in
set_option maxHeartbeats 1000000 in
theorem nodes_calls (m : Nat) : ∀ (e : Ex) (v : Value) (w : World), e.size ≤ m → m ≤ 1000000000000000 → e.fits → e.few → IsEx w e v → Calls Tryz.prog 57 #[v] w (GivesE (.bool (nodesB e)) w) := by
  induction m with
  | zero => intro e v w h; have := size_pos e; omega
  | succ m ih =>
    intro e v w hm hMM hf hw2 he
    have HE := Lib.hid he
    obtain ⟨aw, nw, cw, aa, na, ca, rfl, hw, hna, hca, ha, hx⟩ := he.parts
    have HX := Lib.hid hx
    have HN := Lib.hid hna
    have HF := Lib.hid (fits_parts hf)
    have HW := Lib.hid (few_parts hw2)
    have hS : e.size = 1 + sizes e.args := e.size_eq
    have hb2 : sizes e.args ≤ m := by omega
    have hla := length_le_sizes e.args
    have H : Hid (∀ (e : Ex) (v : Value) (w : World), e.size ≤ m → e.fits → e.few → IsEx w e v → Calls Tryz.prog 57 #[v] w (GivesE (.bool (nodesB e)) w)) := fun e v w h1 h2 h3 h4 => ih e v w h1 (by omega) h2 h3 h4
    have HQ := Lib.hid (nodesB_eq e)
    generalize nodesB e = B at *
    clear ih hx hna hw hca ha he hS hm hf hw2
    have HNC := Lib.hid (rnode_calls e _ (w.alloc (.cells #[.int .i64 e.op, .string e.name, .slice aw nw cw, .int .i64 e.lo, .int .i64 e.hi, .slice aa na ca] 29)) (HE.out.ext ((Ext.refl w).alloc _)) HF.out.1 HF.out.2.1 HW.out.1)
    unfold exV at *
    cases hnode : refNodeB e
    · have HND := Lib.hid hnode
      have H1 := Lib.hid (show B = false by rw [HQ.out, hnode]; rfl)
      clear hnode
      go_enter Tryz.func57, Tryz.ntmps57
      go_wp2_with fail
      refine HNC.out.mono ?_
      rintro r w1 ⟨rfl, hx1⟩
      rw [HND.out]
      have HX1 := Lib.hid (((Ext.refl w).alloc _).trans hx1)
      clear hx1
      go_wp2_with fail
      go_ret
      exact givesE_bool (by rw [H1.out]) HX1.out
    · have HND := Lib.hid hnode
      have HQ2 := Lib.hid (show B = nodesAll e.args by rw [HQ.out, hnode]; rfl)
      clear hnode
      go_enter Tryz.func57, Tryz.ntmps57
      go_wp2_with fail
      refine HNC.out.mono ?_
      rintro r w1 ⟨rfl, hx1⟩
      rw [HND.out]
      have HBX1 := Lib.hid (hx1.blk (alloc_new w _))
      have HX1 := Lib.hid (((Ext.refl w).alloc _).trans hx1)
      clear hx1
      go_wp2_with fail
      go_loopw [3] (fun i wr => ∃ k : Nat, k ≤ na ∧ i = .int .i64 k ∧ (∀ j (hj : j < e.args.length), j < k → nodesB e.args[j] = true) ∧ wr.heap[w.heap.size]? = some (.cells #[.int .i64 e.op, .string e.name, .slice aw nw cw, .int .i64 e.lo, .int .i64 e.hi, .slice aa na ca] 29 (0, 0)) ∧ Ext w wr) (fun i _ => na - (intOf i).toNat)
      case atStart => exact ⟨0, by omega, rfl, fun j _ h => by omega, HBX1.out, HX1.out⟩
      case round =>
        obtain ⟨k, hk, rfl, hall, hbx, hb⟩ := hrel
        have HA := Lib.hid hall
        have HBX := Lib.hid hbx
        have HB := Lib.hid hb
        have hlt0 := blk_lt hbx
        obtain ⟨b0, b1, b2, b3, b4, b5, bf⟩ := blk6 hbx
        clear hbx hb hall
        by_cases hlt : k < na
        · have hlt' : k < e.args.length := by have := HN.out; omega
          obtain ⟨b, off, rfl, aw1, nw1, cw1, aa1, na1, ca1, h0, h1, h2, h3, h4, h5, h6⟩ := ExsD.at e.args _ (ExsD.ext HB.out e.args _ HX.out) k hlt'
          have H6 := Lib.hid h6
          have hsz := sizes_take_succ e.args k hlt'
          have hsl := sizes_take_le e.args (k + 1)
          have hk1 : e.args[k].size ≤ m := by omega
          clear h6 hsz hsl
          go_wp2_with fail
          refine (H.out e.args[k] _ _ hk1 (fitsAll_at _ HF.out.2.2 k hlt') (fewAll_at _ HW.out.2 k hlt') H6.out).mono ?_
          rintro r w2 ⟨rfl, hb1⟩
          have HE1 := Lib.hid hb1
          clear b0 b1 b2 b3 b4 b5 bf hb1
          cases hdp : nodesB e.args[k]
          · have H1 := Lib.hid (show B = false by
              rw [HQ2.out]
              cases hz : nodesAll e.args
              · rfl
              · have := (nodesAll_iff _).1 hz k hlt'; rw [hdp] at this; cases this)
            clear hdp
            go_wp2_with fail
            go_ret
            exact givesE_bool (by rw [H1.out]) (HB.out.trans HE1.out)
          · have HND2 := Lib.hid hdp
            clear hdp
            go_wp2_with fail
            go_roundw
            case rel =>
              refine ⟨k + 1, by omega, by go_num, fun j hj hjk => ?_, HE1.out.blk HBX.out, HB.out.trans HE1.out⟩
              by_cases ej : j = k
              · subst ej; exact HND2.out
              · exact HA.out j hj (by omega)
            case measure => simp [intOf]; omega
        · have H1 := Lib.hid (show B = true by rw [HQ2.out]; exact (nodesAll_iff _).2 (fun j hj => HA.out j hj (by have := HN.out; omega)))
          go_wp2_with fail
          go_ret
          exact givesE_bool (by rw [H1.out]) HB.out

def refExprB (e : Ex) : Bool := !decide (16 < e.depth) && decide (refSize e ≤ 300) && nodesB e
set_option maxRecDepth 100000 in
theorem rexpr_slim (e : Ex) (v : Value) (w : World) (he : IsEx w e v) (hsz : e.slim) (hf : e.fits) (hw : e.few) : Calls Tryz.prog 27 #[v] w (GivesE (.bool (refExprB e)) w) := by
  have HE := Lib.hid he
  have HF := Lib.hid hf
  have HW := Lib.hid hw
  have HQ := Lib.hid (show refExprB e = (!decide (16 < e.depth) && decide (refSize e ≤ 300) && nodesB e) from rfl)
  generalize refExprB e = B at *
  obtain ⟨aw, nw, cw, aa, na, ca, rfl, -⟩ := he.parts
  have HSZ := Lib.hid hsz
  clear he hf hw hsz
  have HA := Lib.hid (fun W (h : Ext (w.alloc (.cells #[.int .i64 e.op, .string e.name, .slice aw nw cw, .int .i64 e.lo, .int .i64 e.hi, .slice aa na ca] 29)) W) => ((Ext.refl w).alloc _).trans h)
  have HNB := Lib.hid (alloc_new w (.cells #[.int .i64 e.op, .string e.name, .slice aw nw cw, .int .i64 e.lo, .int .i64 e.hi, .slice aa na ca] 29))
  unfold exV at *
  go_enter Tryz.func27, Tryz.ntmps27
  go_wp2_with fail
  refine (deeper_slim e.size e _ _ 16 (Nat.le_refl _) HSZ.out (by omega) (HE.out.ext ((Ext.refl w).alloc _))).mono ?_
  rintro r w1 ⟨rfl, hx1⟩
  have HX1 := Lib.hid (HA.out _ hx1)
  have hb1 := hx1.blk HNB.out
  have HB1 := Lib.hid hb1
  have hz1 := blk_lt hb1
  obtain ⟨b0, b1, b2, b3, b4, b5, bf⟩ := blk6 hb1
  clear hx1 hb1 HA
  by_cases hd : 16 < e.depth
  · rw [decide_eq_true hd]
    have H1 := Lib.hid (show B = false by rw [HQ.out]; simp [hd])
    clear hd
    go_wp2_with fail
    go_ret
    exact givesE_bool (by rw [H1.out]) HX1.out
  · rw [decide_eq_false hd]
    have HD := Lib.hid hd
    clear hd
    go_wp2_with fail
    refine (rsize_calls e.size e _ _ (Nat.le_refl _) (HE.out.ext HX1.out)).mono ?_
    rintro r w2 ⟨rfl, hx2⟩
    have HX2 := Lib.hid (HX1.out.trans hx2)
    have hb2 := hx2.blk HB1.out
    have hz2 := blk_lt hb2
    clear b0 b1 b2 b3 b4 b5 bf hx2
    obtain ⟨b0, b1, b2, b3, b4, b5, bf⟩ := blk6 hb2
    clear hb2
    by_cases hs : refSize e ≤ 300
    · have t1 : decide ((refSize e : Int) ≤ 300) = true := by simp; omega
      have HS := Lib.hid hs
      have HZ := Lib.hid (show e.size ≤ 1000000000000000 by unfold refSize at hs; omega)
      clear hs
      go_wp2_with fail
      refine (nodes_calls e.size e _ _ (Nat.le_refl _) HZ.out HF.out HW.out (HE.out.ext HX2.out)).mono ?_
      rintro r w3 ⟨rfl, hx3⟩
      have HX3 := Lib.hid (HX2.out.trans hx3)
      clear b0 b1 b2 b3 b4 b5 bf hx3
      go_wp2_with fail
      go_ret
      exact givesE_bool (by rw [HQ.out]; simp [HD.out, HS.out]) HX3.out
    · have t1 : decide ((refSize e : Int) ≤ 300) = false := by simp; omega
      have H1 := Lib.hid (show B = false by rw [HQ.out]; simp [hs])
      clear hs
      go_wp2_with fail
      go_ret
      exact givesE_bool (by rw [H1.out]) HX2.out
theorem rexpr_calls (e : Ex) (v : Value) (w : World) (he : IsEx w e v) (hsz : e.size ≤ 1000000000000000) (hf : e.fits) (hw : e.few) : Calls Tryz.prog 27 #[v] w (GivesE (.bool (refExprB e)) w) := rexpr_slim e v w he (slim_of_size e hsz) hf hw
end Go.Proofs.YtfjlglefodndjaaGreatDoor

namespace Go.Proofs.YtfjlglefodndjaaGreatDoor
open Go.RowKit

/-! Append of all of a slice; a row's element set anew. -/
/-- append of a slice of length 0. -/
theorem run_append_zero {P : Program} (W : World) (t ty e : TypeId) (i : TypeInfo) (ht : P.underlying t = some (.slice e)) (hi : P.info? e = some i) (b : Option Addr) (n cap : Nat) (hnc : n ≤ cap) (ax : Option Addr) (c : Nat) :
    (Builtin.append_ #[t, t] ty #[.slice b n cap, .slice ax 0 c]).run P W = .ok (.slice b n cap) W := by
  cases b <;> cases ax <;> simp [Builtin.append_, run_underlying ht, sizeOf, typeInfo, hi, Builtin.lenOf, Builtin.firstCells, hnc, storeCells, loadCells, loadCellsFrom]
/-- append of all elements of a slice that lies in memory, of none too. -/
theorem wpList_append_all {t e : TypeId} {z : Value} {size bytes : Nat} (E : ElemT t e z size bytes) {ops : Array Oper} {rest : List Oper} {o : Oper} {a : Act} {Q : Exit → Act → World → Prop} {W : World}
    (hgd : o.guard = none) (s x : Operand) (ho : o.op = .call { callee := .builtin .append, args := #[s, x], argTypes := #[t, t] }) (base : Nat) (v : Value) (n : Nat) (xs : List Value) (hs : a.eval s = v) (hown : W.ownsRow base e size v n xs)
    (ax : Option Addr) (m c : Nat) (news : List Value) (hx : a.eval x = .slice ax m c) (hl : news.length = m * size) (hnews : 0 < m → ∃ b off, ax = some ⟨b, off, none⟩ ∧ ∀ j (h : j < news.length), W.cell? ⟨b, off + j, none⟩ = some news[j]) (h1 : ∀ u ∈ news, u.oneCell' = true)
    (hn : n + m ≤ 100000000) (hb : bytes ≤ 1000) (hbase : base ≤ W.heap.size)
    (h : ∀ v' w', w'.ownsRow base e size v' (n + m) (xs ++ news) → W.grownBy w' v.ownBlock → (∀ k, v'.ownBlock = some k → v.ownBlock = some k ∨ k = W.heap.size) → wpList Tryz.prog ops Q rest (a.put o.dst v') w') : wpList Tryz.prog ops Q (o :: rest) a W := by
  obtain ⟨i, hi, hz, hsz, hby⟩ := info_parts E.info
  by_cases hm : m = 0
  · subst hm
    have hnil : news = [] := List.eq_nil_of_length_eq_zero (by simpa using hl)
    subst hnil
    obtain ⟨b, cap, rfl, hnc⟩ : ∃ b cap, v = .slice b n cap ∧ n ≤ cap := by
      rcases hown.2 with ⟨rfl, rfl⟩ | ⟨g, cap, cur, rfl, _, _, hnc, _⟩
      · exact ⟨none, 0, rfl, by omega⟩
      · exact ⟨_, cap, rfl, hnc⟩
    refine wpList_plain hgd fun K hK => ?_
    have hrun := run_append_zero (P := Tryz.prog) W t o.type e i E.ht hi b n cap hnc ax c
    unfold Oper.wp
    simp [execOp, ho, resolve, invoke, builtin, hs, hx, hrun, Result.andThen]
    refine hK _ _ (h _ _ (by simpa using hown) ⟨rfl, rfl, rfl, Nat.le_refl _, fun _ _ _ => rfl⟩ (fun k hk => Or.inl hk))
  · obtain ⟨b, off, rfl, hcell⟩ := hnews (by omega)
    refine wpList_append_lies W hgd s x t ho base e i z size bytes E.ht hi hz hsz hby E.hzs E.hsz v n xs hs hown ⟨b, off, none⟩ m c news hx hl ?_ h1 (by omega) (by simp only [maxLen]; omega) (by
      calc (n + m) * bytes ≤ 100000000 * 1000 := Nat.mul_le_mul hn hb
        _ ≤ 140737488355328 := by omega) hbase _ rfl ?_
    · intro j u hu
      obtain ⟨hj, rfl⟩ := List.getElem?_eq_some_iff.1 hu
      have : (⟨b, off, none⟩ : Addr).add j = ⟨b, off + j, none⟩ := by unfold Addr.add; split <;> simp_all
      rw [this]
      exact hcell j hj
    · intro g cap w' h2 h3 h4 _
      refine h _ w' h2 h3 fun k hk => ?_
      simp only [Value.ownBlock] at hk
      injection hk with hk
      subst hk
      exact h4
theorem sub_new {w W : World} {bd : Nat} {M N : List Nat} (h : Chg [bd] w W) (hn : ∀ y ∈ N, w.heap.size ≤ y) : Sub (mask w (bd :: M)) (mask W (bd :: (N ++ M))) := mask_sub_mask fun k hk hm => by
  simp only [List.mem_cons, not_or, List.mem_append] at hm ⊢
  exact ⟨⟨hm.1, fun h' => by have := hn k h'; omega, hm.2⟩, h.block k hk (by simpa using hm.1)⟩
theorem sub_old {w W : World} {bd : Nat} {M : List Nat} (h : Chg [bd] w W) : Sub (mask w (bd :: M)) (mask W (bd :: M)) := by
  have := sub_new (M := M) (N := []) h (by simp)
  simpa using this
/-- The cells of arguments. -/
theorem exs_list {w : World} {l : List Ex} {aa : Option Addr} (h : ExsD w l aa) : ∃ xs : List ExV, ExsR w l xs ∧ (0 < l.length → ∃ b off, aa = some ⟨b, off, none⟩ ∧ ∀ j (hj : j < (xs.flatMap ExV.cells).length), w.cell? ⟨b, off + j, none⟩ = some (xs.flatMap ExV.cells)[j]) := by
  have each : ∀ i, i < l.length → ∃ x : ExV, ∀ (hi : i < l.length), IsEx w l[i] x.val ∧ ∃ b off, aa = some ⟨b, off, none⟩ ∧ ∀ j (hj : j < 6), w.cell? ⟨b, off + i * 6 + j, none⟩ = some (x.cells[j]'(by rw [exV_len]; exact hj)) := by
    intro i hi
    obtain ⟨b, off, rfl, aw, nw, cw, aa', na, ca, h0, h1, h2, h3, h4, h5, h6⟩ := ExsD.at l _ h i hi
    refine ⟨⟨l[i].op, l[i].name, aw, nw, cw, l[i].lo, l[i].hi, aa', na, ca⟩, fun _ => ⟨h6, b, off, rfl, fun j hj => ?_⟩⟩
    have hj' : j = 0 ∨ j = 1 ∨ j = 2 ∨ j = 3 ∨ j = 4 ∨ j = 5 := by omega
    rcases hj' with rfl | rfl | rfl | rfl | rfl | rfl
    · exact h0
    · exact h1
    · exact h2
    · exact h3
    · exact h4
    · exact h5
  have lo : ∀ (n : Nat), n ≤ l.length → ∃ xs : List ExV, xs.length = n ∧ ∀ i (hi : i < xs.length) (hl : i < l.length), IsEx w l[i] xs[i].val ∧ ∃ b off, aa = some ⟨b, off, none⟩ ∧ ∀ j (hj : j < 6), w.cell? ⟨b, off + i * 6 + j, none⟩ = some (xs[i].cells[j]'(by rw [exV_len]; exact hj)) := by
    intro n
    induction n with
    | zero => intro _; exact ⟨[], rfl, fun i hi => by simp at hi⟩
    | succ n ih =>
      intro hn
      obtain ⟨xs, e1, e2⟩ := ih (by omega)
      obtain ⟨x, hx⟩ := each n (by omega)
      refine ⟨xs ++ [x], by simp [e1], fun i hi hl => ?_⟩
      by_cases hin : i < xs.length
      · simp only [List.getElem_append_left hin]; exact e2 i hin hl
      · have : i = n := by simp at hi; omega
        subst this
        simp only [List.getElem_append_right (Nat.le_of_not_lt hin), e1, Nat.sub_self, List.getElem_cons_zero]
        exact hx hl
  obtain ⟨xs, e1, e2⟩ := lo l.length (Nat.le_refl _)
  refine ⟨xs, ⟨e1.symm, fun i h1 h2 => (e2 i h2 h1).1⟩, fun hp => ?_⟩
  obtain ⟨_, b, off, rfl, _⟩ := e2 0 (by omega) hp
  refine ⟨b, off, rfl, fun j hj => ?_⟩
  have hlen := length_flatMap_of ExV.cells 6 (fun _ => rfl) xs
  have hi : j / 6 < xs.length := by omega
  obtain ⟨_, b', off', e3, hc⟩ := e2 (j / 6) hi (by omega)
  simp only [Option.some.injEq, Addr.mk.injEq, and_true] at e3
  obtain ⟨rfl, rfl⟩ := e3
  have h6 := hc (j % 6) (by omega)
  have e4 : off + j / 6 * 6 + j % 6 = off + j := by omega
  rw [e4] at h6
  rw [h6]
  have := flatMap_at ExV.cells 6 (fun _ => rfl) xs (j / 6) hi (j % 6) (by rw [exV_len]; omega)
  rw [show j / 6 * 6 + j % 6 = j by omega, List.getElem?_eq_getElem hj] at this
  exact this.symm
theorem strs_list {w : World} {l : List ByteArray} {a : Option Addr} {n c : Nat} (h : IsStrs w l a n c) : 0 < n → ∃ b off, a = some ⟨b, off, none⟩ ∧ ∀ j (hj : j < (l.map Value.string).length), w.cell? ⟨b, off + j, none⟩ = some (l.map Value.string)[j] := by
  intro hn
  obtain ⟨b, off, rfl, _⟩ := h.2.2.2 0 (by have := h.1; omega)
  refine ⟨b, off, rfl, fun j hj => ?_⟩
  obtain ⟨b', off', e, hc⟩ := h.2.2.2 j (by simpa using hj)
  simp only [Option.some.injEq, Addr.mk.injEq, and_true] at e
  obtain ⟨rfl, rfl⟩ := e
  rw [hc]; simp
theorem mask_in_sub {w W : World} {bd : Nat} {M : List Nat} (h : Chg [bd] w W) : Sub (mask w (bd :: M)) W := (sub_old h).trans (mask_sub _ _)
theorem cell_allocs (w : World) (l : List Value) (t : TypeId) : ∀ j (hj : j < l.length), (w.alloc (.cells l.toArray t)).cell? ⟨w.heap.size, 0 + j, none⟩ = some l[j] := by
  intro j hj
  rw [World.cell?_alloc_at _ _ _ _ rfl]
  simp [hj]
theorem cells_one (xs : List ExV) : ∀ u ∈ xs.flatMap ExV.cells, u.oneCell' = true := by
  intro u hu
  obtain ⟨x, _, hx⟩ := List.mem_flatMap.1 hu
  simp only [ExV.cells, List.mem_cons, List.not_mem_nil, or_false] at hx
  rcases hx with rfl | rfl | rfl | rfl | rfl | rfl <;> rfl
theorem cell_alloc0 (w : World) (v : Value) (t : TypeId) : ∀ j (hj : j < [v].length), (w.alloc (.cells #[v] t)).cell? ⟨w.heap.size, 0 + j, none⟩ = some [v][j] := by
  intro j hj
  obtain rfl : j = 0 := by simpa using hj
  rw [World.cell?_alloc_at _ _ _ _ rfl]
  rfl
theorem Chg.cell' {N : List Nat} {w w' : World} (h : Chg N w w') {p : Addr} (hn : p.block ∉ N) (hlt : p.block < w.heap.size) : w'.cell? p = w.cell? p := World.cell?_of_block (h.block _ hlt hn)
def put6at (w : World) (B o : Nat) (x : ExV) : World := (((((w.setCell ⟨B, o, none⟩ (.int .i64 x.op)).setCell ⟨B, o + 1, none⟩ (.string x.name)).setCell ⟨B, o + 2, none⟩ (.slice x.aw x.nw x.cw)).setCell ⟨B, o + 3, none⟩ (.int .i64 x.lo)).setCell ⟨B, o + 4, none⟩ (.int .i64 x.hi)).setCell ⟨B, o + 5, none⟩ (.slice x.aa x.na x.ca)
theorem put6at_chg (w : World) (B o : Nat) (x : ExV) {N : List Nat} (h : B ∈ N) : Chg N w (put6at w B o x) := by
  unfold put6at
  repeat (with_reducible (refine Chg.setCell ?_ ?_ _))
  exact Chg.refl _ _
  all_goals exact Or.inl h
theorem put6at_cell {w : World} {B o : Nat} {x : ExV} {c : Array Value} {t : TypeId} (h : w.heap[B]? = some (.cells c t (0, 0))) (hs : o + 6 ≤ c.size) (j : Nat) : (put6at w B o x).cell? ⟨B, j, none⟩ = if o ≤ j ∧ j < o + 6 then x.cells[j - o]? else c[j]? := by
  have hb : (put6at w B o x).heap[B]? = some (.cells ((((((c.setIfInBounds o (.int .i64 x.op)).setIfInBounds (o + 1) (.string x.name)).setIfInBounds (o + 2) (.slice x.aw x.nw x.cw)).setIfInBounds (o + 3) (.int .i64 x.lo)).setIfInBounds (o + 4) (.int .i64 x.hi)).setIfInBounds (o + 5) (.slice x.aa x.na x.ca)) t (0, 0)) := by
    unfold put6at
    rw [heap_setCell_same _ _ _ _ _ _ (heap_setCell_same _ _ _ _ _ _ (heap_setCell_same _ _ _ _ _ _ (heap_setCell_same _ _ _ _ _ _ (heap_setCell_same _ _ _ _ _ _ (heap_setCell_same _ _ _ _ _ _ h)))))]
  rw [blk_cell hb]
  simp only [Array.getElem?_setIfInBounds, Array.size_setIfInBounds]
  by_cases hj : o ≤ j ∧ j < o + 6
  · rw [if_pos hj]
    obtain ⟨i, rfl⟩ : ∃ i, j = o + i := ⟨j - o, by omega⟩
    rw [Nat.add_sub_cancel_left]
    have hi : i = 0 ∨ i = 1 ∨ i = 2 ∨ i = 3 ∨ i = 4 ∨ i = 5 := by omega
    rcases hi with rfl | rfl | rfl | rfl | rfl | rfl
    all_goals simp [ExV.cells]
    all_goals omega
  · rw [if_neg hj, if_neg (by omega), if_neg (by omega), if_neg (by omega), if_neg (by omega), if_neg (by omega), if_neg (by omega)]
theorem sizes_set : (l : List Ex) → (k : Nat) → (hk : k < l.length) → (y : Ex) → sizes (l.set k y) + l[k].size = sizes l + y.size
  | [], k, hk, _ => by simp at hk
  | a :: r, 0, _, y => by simp [sizes]; omega
  | a :: r, k + 1, hk, y => by
    have := sizes_set r k (by simpa using hk) y
    simp [sizes] at this ⊢; omega
theorem fitsAll_memT {l : List Ex} (h : fitsAll l) : ∀ y ∈ l, y.fits := fun y hy => by
  obtain ⟨i, hi, rfl⟩ := List.getElem_of_mem hy
  exact fitsAll_at l h i hi
theorem fewAll_memT {l : List Ex} (h : fewAll l) : ∀ y ∈ l, y.few := fun y hy => by
  obtain ⟨i, hi, rfl⟩ := List.getElem_of_mem hy
  exact fewAll_at l h i hi
end Go.Proofs.YtfjlglefodndjaaGreatDoor

namespace Go.Proofs.YtfjlglefodndjaaGreatDoor
open Go.RowKit

/-! treatylaw10.twisted. -/
def TwOk (k : Nat) (e : Ex) : Prop := e.fits ∧ e.few ∧ e.size ≤ k
def TwDo (m : Nat) : Prop := ∀ (e : Ex) (ev : ExV) (w0 w : World) (bd : Nat) (M : List Nat), e.size ≤ m → e.fits → e.few → DeckAt w0 w bd → IsEx (mask w (bd :: M)) e ev.val → (∀ y ∈ M, y < w.heap.size) →
  Calls Tryz.prog 9 #[ev.val, .pointer (some ⟨bd, 0, none⟩)] w (MadeQ (TwOk e.size) w0 bd (bd :: M) w)
def twNames : List ByteArray := [⟨#[110]⟩, ⟨#[116]⟩, ⟨#[112, 101, 114, 105, 108]⟩, ⟨#[97]⟩, ⟨#[99, 45, 97, 98]⟩, ⟨#[99, 45, 97, 99]⟩, ⟨#[99, 45, 97, 100]⟩, ⟨#[114, 111, 108, 101]⟩, ⟨#[110, 111, 98, 111, 100, 121]⟩]
def twWords : List ByteArray := [⟨#[102, 105, 114, 101]⟩, ⟨#[99, 114, 101, 119]⟩, ⟨#[105, 99, 101]⟩]
theorem twNames_size : ∀ x ∈ twNames, x.size ≤ 16 := by decide +kernel
theorem twWords_size : ∀ x ∈ twWords, x.size ≤ 16 := by decide +kernel
theorem str_cell {w : World} {g : Nat} {l : List ByteArray} {t : TypeId} (h : w.heap[g]? = some (.cells (l.map Value.string).toArray t (0, 0))) {k : Nat} (hk : k < l.length) : w.cell? ⟨g, k, none⟩ = some (.string l[k]) := by
  rw [blk_cell h]; simp [hk]
theorem fits_leaf {op lo hi : Int} {nm : ByteArray} {words : List ByteArray} (h : nm.size ≤ 16) (hw : ∀ x ∈ words, x.size ≤ 16) : (Ex.mk op nm words lo hi []).fits := by
  unfold Ex.fits; exact ⟨by omega, fun x hx => by have := hw x hx; omega, by unfold fitsAll; trivial⟩
theorem few_leaf {op lo hi : Int} {nm : ByteArray} {words : List ByteArray} (h : words.length ≤ 16) : (Ex.mk op nm words lo hi []).few := by
  unfold Ex.few; exact ⟨by omega, by unfold fewAll; trivial⟩
theorem size_leaf {op lo hi : Int} {nm : ByteArray} {words : List ByteArray} : (Ex.mk op nm words lo hi []).size = 1 := by simp [Ex.size, sizes]
theorem fits_mkT {op lo hi : Int} {name : ByteArray} {words : List ByteArray} {args : List Ex} (h1 : name.size ≤ 1000000000000000) (h2 : ∀ x ∈ words, x.size ≤ 1000000000000000) (h3 : ∀ x ∈ args, x.fits) : (Ex.mk op name words lo hi args).fits := by
  unfold Ex.fits
  refine ⟨h1, h2, ?_⟩
  clear h1 h2
  induction args with
  | nil => unfold fitsAll; trivial
  | cons a r ih => unfold fitsAll; exact ⟨h3 a (by simp), ih (fun x hx => h3 x (List.mem_cons_of_mem _ hx))⟩
theorem few_mkT {op lo hi : Int} {name : ByteArray} {words : List ByteArray} {args : List Ex} (h2 : words.length ≤ 1000000000000000) (h3 : ∀ x ∈ args, x.few) : (Ex.mk op name words lo hi args).few := by
  unfold Ex.few
  refine ⟨h2, ?_⟩
  clear h2
  induction args with
  | nil => unfold fewAll; trivial
  | cons a r ih => unfold fewAll; exact ⟨h3 a (by simp), ih (fun x hx => h3 x (List.mem_cons_of_mem _ hx))⟩
theorem tw_args {e e' : Ex} {k : Nat} (hk : k < e.args.length) (hf : e.fits) (hw : e.few) (h : TwOk e.args[k].size e') : TwOk e.size (.mk e.op e.name e.words e.lo e.hi (e.args.set k e')) := by
  have f := fits_parts hf
  have g := few_parts hw
  have hs := sizes_set e.args k hk e'
  have hz := e.size_eq
  have hq := h.2.2
  refine ⟨fits_mkT f.1 f.2.1 fun y hy => ?_, few_mkT g.1 fun y hy => ?_, by simp only [Ex.size]; omega⟩
  · rcases List.mem_or_eq_of_mem_set hy with hy | rfl
    · exact fitsAll_memT f.2.2 y hy
    · exact h.1
  · rcases List.mem_or_eq_of_mem_set hy with hy | rfl
    · exact fewAll_memT g.2 y hy
    · exact h.2.1
/-- The row with one element set anew. -/
theorem tw_row {w w5 W6 W : World} {bd be B g k na : Nat} {M : List Nat} {l : List Ex} {xs : List ExV} {cur : Array Value} {e' : Ex} {v' : ExV} {t : TypeId}
    (hR : ExsR (mask w (bd :: M)) l xs) (hxl : xs.length = na) (hgb : w5.heap[g]? = some (.cells cur t (0, 0))) (hgc : ∀ j, j < na * 6 → cur[j]? = (xs.flatMap ExV.cells)[j]?) (hk6 : k * 6 + 6 ≤ cur.size) (hkx : k < xs.length)
    (hP : W6 = put6at w5 g (k * 6) v') (hcb : Chg [be] W6 W) (hc : Chg [bd] w w5) (he' : IsEx (mask w5 (bd :: (([w.heap.size, w.heap.size + 1, g] : List Nat) ++ M))) e' v'.val) (hbe : be = w.heap.size) (hB : B = w.heap.size + 1) (hg : g ≠ be ∧ g ≠ B ∧ g ≠ bd ∧ w.heap.size ≤ g ∧ g < w5.heap.size) (hM : ∀ y ∈ M, y < w.heap.size) :
    ExsD (mask W (B :: (bd :: M))) (l.set k e') (some ⟨g, 0, none⟩) := by
  subst hbe hB
  obtain ⟨hg1, hg2, hg3, hg4, hg5⟩ := hg
  have hPc : Chg [g] w5 W6 := by rw [hP]; exact put6at_chg _ _ _ _ (by simp)
  have hPcell := put6at_cell (x := v') hgb hk6
  rw [← hP] at hPcell
  have hgN : g ∉ (w.heap.size + 1) :: (bd :: M) := fun h => by
    simp only [List.mem_cons] at h
    rcases h with h | h | h
    · omega
    · omega
    · have := hM g h; omega
  refine ExsD.of (l.set k e') 0 (xs.set k v') (by simp [hR.1]) fun i h1 h2 => ⟨fun j hj => ?_, ?_⟩
  · have hi : i < xs.length := by simpa using h2
    rw [mask_cell, if_neg hgN, hcb.cell' (by simp; omega) (by simp only; have := hPc.size; omega), hPcell]
    by_cases hik : i = k
    · subst hik
      rw [if_pos (by omega)]
      simp only [List.getElem_set_self]
      congr 1
      omega
    · rw [if_neg (by omega), List.getElem_set_ne (fun h => hik h.symm)]
      rw [hgc (0 + i * 6 + j) (by omega)]
      have hq := flatMap_at ExV.cells 6 (fun _ => rfl) xs i hi j (by rw [exV_len]; exact hj)
      rw [Nat.zero_add, hq, List.getElem?_eq_getElem (by rw [exV_len]; exact hj)]
  · by_cases hik : i = k
    · subst hik
      simp only [List.getElem_set_self]
      refine he'.mono (mask_sub_mask fun y hy hn => ?_)
      simp only [List.mem_cons, List.mem_append, not_or, List.not_mem_nil, or_false] at hn ⊢
      exact ⟨⟨hn.2.1.2.1, hn.1, hn.2.2⟩, (hcb.block y (Nat.lt_of_lt_of_le hy hPc.size) (by simpa using hn.2.1.1)).trans (hPc.block y hy (by simpa using hn.2.1.2.2))⟩
    · simp only [List.getElem_set_ne (fun h => hik (Eq.symm h))]
      refine (hR.2 i (by simpa using h1) (by simpa using h2)).mono (mask_sub_mask fun y hy hn => ?_)
      simp only [List.mem_cons, not_or] at hn ⊢
      have h6 := hPc.size
      have h7 := hc.size
      exact ⟨⟨by omega, hn.1, hn.2⟩, (hcb.block y (by omega) (by simp; omega)).trans ((hPc.block y (by omega) (by simp; omega)).trans (hc.block y hy (by simpa using hn.1)))⟩
theorem put6_alloc {w : World} {B : Nat} (h : B < w.heap.size) (x : ExV) (o : Obj) : (put6 w B x).alloc o = put6 (w.alloc o) B x := by
  unfold put6
  simp [World.setCell_alloc_past, h]
set_option maxRecDepth 100000 in
set_option maxHeartbeats 8000000 in
theorem tw_step (m : Nat) (ih : TwDo m) (hm1 : m ≤ 1000) : TwDo (m + 1) := by
  intro e ev w0 w bd M hm hfit hfew hd he hM
  obtain ⟨aw, nw, cw, aa, na, ca, ee, hw, hna, hca, ha, hxs⟩ := he.parts
  have h0w : w0.heap.size ≤ w.heap.size := by obtain ⟨_, _, _, _, _, _, _, _, hx, _⟩ := hd; exact hx.size
  have h0d : w0.heap.size ≤ bd := by obtain ⟨_, _, _, _, _, _, _, _, _, h⟩ := hd; exact h
  have hbd : bd < w.heap.size := by obtain ⟨_, _, _, _, hb, _⟩ := hd; exact blk_lt hb
  have hS : e.size = 1 + sizes e.args := e.size_eq
  have hla := length_le_sizes e.args
  have hnaS : na ≤ 1001 := by omega
  have hsz1 : 1 ≤ e.size := by omega
  have hszm : sizes e.args ≤ m := by omega
  have IH := Lib.hid ih
  have HM := Lib.hid hM
  have HFIT := Lib.hid hfit
  have HFEW := Lib.hid hfew
  have HNA := Lib.hid hna
  have HST := Lib.hid hw
  have HXS := Lib.hid hxs
  have HOA := Lib.hid ha
  have HNAC := Lib.hid hca
  rw [ee]
  unfold exV
  obtain ⟨wb, hwb⟩ : ∃ wb, wb = (w.alloc (.cells #[.int .i64 e.op, .string e.name, .slice aw nw cw, .int .i64 e.lo, .int .i64 e.hi, .slice aa na ca] 29)).alloc (.cells #[.int .i64 0, .string ⟨#[]⟩, .slice none 0 0, .int .i64 0, .int .i64 0, .slice none 0 0] 29) := ⟨_, rfl⟩
  have hxw : Ext w wb := by rw [hwb]; exact ((Ext.refl w).alloc _).alloc _
  have hbe : wb.heap[w.heap.size]? = some (.cells #[.int .i64 e.op, .string e.name, .slice aw nw cw, .int .i64 e.lo, .int .i64 e.hi, .slice aa na ca] 29 (0, 0)) := by rw [hwb]; exact blk_alloc (alloc_new w _)
  have hbr : wb.heap[w.heap.size + 1]? = some (.cells #[.int .i64 0, .string ⟨#[]⟩, .slice none 0 0, .int .i64 0, .int .i64 0, .slice none 0 0] 29 (0, 0)) := by rw [hwb]; exact alloc_at (by simp)
  have HDW := Lib.hid (hd.ext hxw)
  have HXW := Lib.hid hxw
  have HBE := Lib.hid hbe
  have HBR := Lib.hid hbr
  have hle := blk_lt hbe
  have hlr := blk_lt hbr
  obtain ⟨b0, b1, b2, b3, b4, b5, bf⟩ := blk6 hbe
  clear ih hM hfit hfew hd ee hna hw hxs ha hca he hla hxw hbe hbr hS
  go_enter Tryz.func9, Tryz.ntmps9
  go_upto_region 1 with fail
  rw [← hwb]
  clear hwb
  go_cut [16] (fun s16 wx => ∃ c : Bool, s16 = .bool c ∧ (c = true → 0 < na) ∧ Chg [bd] wb wx ∧ DeckAt w0 wx bd)
  case first =>
    by_cases hp : 0 < na
    · have t1 : decide (0 < (na : Int)) = true := by simp; omega
      have t2 : decide (0 < na) = true := by simp; omega
      go_wp2_with fail
      refine (next_calls HDW.out _ (by omega) (by omega)).mono ?_
      rintro r w1 ⟨r1, rfl, hr0, hr1, hd1, hc1⟩
      have HD1 := Lib.hid hd1
      have HC1 := Lib.hid hc1
      clear hd1 hc1 b0 b1 b2 b3 b4 b5 bf
      go_wp2_with fail
      go_meet
      case rel => exact ⟨_, rfl, fun _ => hp, HC1.out, HD1.out⟩
    · have t1 : decide (0 < (na : Int)) = false := by simp; omega
      have t2 : decide (0 < na) = false := by simp; omega
      go_wp2_with fail
      go_meet
      case rel => exact ⟨false, rfl, fun h => by simp at h, Chg.refl _ _, HDW.out⟩
  case rest =>
  obtain ⟨c, rfl, hcn, hc1, hd1⟩ := hcut
  clear b0 b1 b2 b3 b4 b5 bf
  have HCW := Lib.hid (show Chg [bd] w wc from ((HXW.out.chg [bd]).then hc1))
  have HBE := Lib.hid (hc1.blk HBE.out (by simp; omega))
  have HBR := Lib.hid (hc1.blk HBR.out (by simp; omega))
  have HD1 := Lib.hid hd1
  have HCN := Lib.hid hcn
  have hz1 := hc1.size
  clear hc1 hd1 hcn HDW HXW
  cases c with
  | true =>
    have hnp : 0 < na := HCN.out rfl
    clear HCN
    obtain ⟨b0, b1, b2, b3, b4, b5, bf⟩ := blk6 HBE.out
    have hlE := blk_lt HBE.out
    go_wp2_with fail
    refine (next_calls HD1.out _ (by omega) (by omega)).mono ?_
    rintro r w2 ⟨q, rfl, hq0, hq1, hd2, hc2⟩
    obtain ⟨k, rfl⟩ : ∃ k : Nat, q = (k : Int) := ⟨q.toNat, by omega⟩
    have hkn : k < na := by omega
    have HCW := Lib.hid (HCW.out.then hc2)
    have HBE := Lib.hid (hc2.blk HBE.out (by simp; omega))
    have HBR := Lib.hid (hc2.blk HBR.out (by simp; omega))
    have HD2 := Lib.hid hd2
    have hz2 := hc2.size
    clear hc2 hd2 HD1 b0 b1 b2 b3 b4 b5 bf hlE
    obtain ⟨b0, b1, b2, b3, b4, b5, bf⟩ := blk6 HBE.out
    have hl2 := blk_lt HBR.out
    have hlE := blk_lt HBE.out
    obtain ⟨xs, hR, hcell⟩ := exs_list HXS.out
    have HR := Lib.hid hR
    have HXL := Lib.hid (show xs.length = na by rw [← hR.1, ← HNA.out])
    have HLEN := Lib.hid (show (xs.flatMap ExV.cells).length = na * 6 by rw [length_flatMap_of ExV.cells 6 (fun _ => rfl), ← hR.1, ← HNA.out])
    have HSL := Lib.hid (show 0 < na → ∃ b off, aa = some ⟨b, off, none⟩ ∧ ∀ j (hj : j < (xs.flatMap ExV.cells).length), (w2.alloc (.cells #[] 29)).cell? ⟨b, off + j, none⟩ = some (xs.flatMap ExV.cells)[j] from fun h => by
      obtain ⟨b, off, e1, e2⟩ := hcell (by have := HNA.out; omega)
      exact ⟨b, off, e1, fun j hj => mask_in_sub (HCW.out.alloc _) _ _ (e2 j hj)⟩)
    clear hR hcell
    go_wp2_with (at_builtin; refine wpList_append_all elemEx rfl _ _ rfl w2.heap.size _ 0 [] rfl ?o0 aa na ca (xs.flatMap ExV.cells) rfl ?o1 ?o2 ?o3 ?o4 ?o5 ?o6 ?_)
    case o0 => exact World.ownsRow_lit w2 #[] 0 (Nat.le_refl _) (by simp) rfl
    case o1 => exact HLEN.out
    case o2 => exact fun h => HSL.out h
    case o3 => exact cells_one xs
    case o4 => omega
    case o5 => omega
    case o6 => simp
    intro v3 w3 hown3 hgrow3 hat3
    have HCA := Lib.hid (show Chg [bd] w w3 from (HCW.out.alloc _).grown hgrow3 (fun y hy => by simp only [Value.ownBlock] at hy; injection hy with hy; subst hy; exact Or.inr (by omega)))
    have hrn : ∀ k, k < w2.heap.size → k ∉ rowOf (.slice (some ⟨w2.heap.size, 0, none⟩) 0 0) := fun k hk hm => by have := mem_rowOf.1 hm; simp only [Value.ownBlock] at this; injection this with this; omega
    have HBE := Lib.hid ((grown_chg hgrow3).blk (blk_alloc HBE.out) (hrn _ (by omega)))
    have HBR := Lib.hid ((grown_chg hgrow3).blk (blk_alloc HBR.out) (hrn _ (by omega)))
    have HD3 := Lib.hid ((HD2.out.ext ((Ext.refl w2).alloc _)).chg (grown_chg hgrow3) (hrn _ (by omega)) (fun y hy => by have := mem_rowOf.1 hy; simp only [Value.ownBlock] at this; injection this with this; omega))
    have HO3 := Lib.hid hown3
    have hz3 := hgrow3.size
    simp at hz3
    clear hown3 hgrow3 hat3 hrn b0 b1 b2 b3 b4 b5 bf hl2 hlE
    obtain ⟨g, cap, cur, hv3, hg1, hgb, hgn, hgc, hcapn⟩ : ∃ g cap cur, v3 = .slice (some ⟨g, 0, none⟩) na cap ∧ w2.heap.size ≤ g ∧ w3.heap[g]? = some (.cells cur 29 (0, 0)) ∧ na * 6 ≤ cur.size ∧ (∀ j, j < na * 6 → cur[j]? = (xs.flatMap ExV.cells)[j]?) ∧ na ≤ cap := by
      have h := HO3.out
      rcases h.2 with ⟨_, h0⟩ | ⟨g, cap, cur, h1, h2, h3, h4, h5, h6, h7⟩
      · omega
      · have hq : na ≤ cap := by simpa using h4
        refine ⟨g, cap, cur, by simpa using h1, h2, h3, ?_, fun j hj => ?_, hq⟩
        · rw [h6]
          omega
        · have h8 := congrArg (fun l => l[j]?) h7
          try simp only [Nat.zero_add] at h8
          rw [List.getElem?_take, if_pos hj] at h8
          simpa using h8
    subst hv3
    have HGC := Lib.hid hgc
    have hgl := blk_lt hgb
    have hk6 : k * 6 + 6 ≤ cur.size := by omega
    have hkx : k < xs.length := by have := HXL.out; omega
    have hka : k < e.args.length := by have := HNA.out; omega
    have HCK := Lib.hid (show ∀ j, j < 6 → cur[k * 6 + j]? = xs[k].cells[j]? from fun j hj => by
      have h1 := HGC.out (k * 6 + j) (by omega)
      rw [h1, flatMap_at ExV.cells 6 (fun _ => rfl) xs k hkx j (by rw [exV_len]; exact hj), List.getElem?_eq_getElem (by rw [exV_len]; exact hj)])
    have hsza := sizes_take_succ e.args k hka
    have hszb := sizes_take_le e.args (k + 1)
    have hkm : e.args[k].size ≤ m := by omega
    have HGB := Lib.hid hgb
    have hsub := sub_new (M := M) (N := [w.heap.size, w.heap.size + 1, g]) HCA.out (by simp; omega)
    have HC := Lib.hid (IH.out e.args[k] xs[k] w0 w3 bd ([w.heap.size, w.heap.size + 1, g] ++ M) hkm (fitsAll_memT (fits_parts HFIT.out).2.2 _ (List.getElem_mem hka)) (fewAll_memT (few_parts HFEW.out).2 _ (List.getElem_mem hka)) HD3.out ((HR.out.2 k hka hkx).mono hsub) (fun y hy => by
      rcases List.mem_append.1 hy with hy | hy
      · simp at hy; omega
      · have := HM.out y hy; omega))
    have c0 : w3.cell? ⟨g, k * 6, none⟩ = some (.int .i64 xs[k].op) := by rw [blk_cell hgb]; have := HCK.out 0 (by omega); simpa [ExV.cells] using this
    have c1 : w3.cell? ⟨g, k * 6 + 1, none⟩ = some (.string xs[k].name) := by rw [blk_cell hgb]; have := HCK.out 1 (by omega); simpa [ExV.cells] using this
    have c2 : w3.cell? ⟨g, k * 6 + 2, none⟩ = some (.slice xs[k].aw xs[k].nw xs[k].cw) := by rw [blk_cell hgb]; have := HCK.out 2 (by omega); simpa [ExV.cells] using this
    have c3 : w3.cell? ⟨g, k * 6 + 3, none⟩ = some (.int .i64 xs[k].lo) := by rw [blk_cell hgb]; have := HCK.out 3 (by omega); simpa [ExV.cells] using this
    have c4 : w3.cell? ⟨g, k * 6 + 4, none⟩ = some (.int .i64 xs[k].hi) := by rw [blk_cell hgb]; have := HCK.out 4 (by omega); simpa [ExV.cells] using this
    have c5 : w3.cell? ⟨g, k * 6 + 5, none⟩ = some (.slice xs[k].aa xs[k].na xs[k].ca) := by rw [blk_cell hgb]; have := HCK.out 5 (by omega); simpa [ExV.cells] using this
    unfold ExV.val exV at HC
    clear hsza hszb hgb hgc hsub
    go_wp2_with fail
    refine HC.out.mono ?_
    rintro r w5 ⟨e', v', rfl, hok', he', hd5, hc5⟩
    have HOK5 := Lib.hid hok'
    have HE5 := Lib.hid he'
    have HD5 := Lib.hid hd5
    have HC5 := Lib.hid hc5
    have HGB5 := Lib.hid (hc5.blk HGB.out (by simp; omega))
    have HBE5 := Lib.hid (hc5.blk HBE.out (by simp; omega))
    have HBR5 := Lib.hid (hc5.blk HBR.out (by simp; omega))
    have hz5 := hc5.size
    have cf : ∀ j, w5.frozen? ⟨g, j, none⟩ = false := fun j => frozen_of_row w5 g j cur _ HGB5.out
    clear hok' he' hd5 hc5 c0 c1 c2 c3 c4 c5 HC
    have c0 : w5.cell? ⟨g, k * 6, none⟩ = some (.int .i64 xs[k].op) := by rw [blk_cell HGB5.out]; have := HCK.out 0 (by omega); simpa [ExV.cells] using this
    have c1 : w5.cell? ⟨g, k * 6 + 1, none⟩ = some (.string xs[k].name) := by rw [blk_cell HGB5.out]; have := HCK.out 1 (by omega); simpa [ExV.cells] using this
    have c2 : w5.cell? ⟨g, k * 6 + 2, none⟩ = some (.slice xs[k].aw xs[k].nw xs[k].cw) := by rw [blk_cell HGB5.out]; have := HCK.out 2 (by omega); simpa [ExV.cells] using this
    have c3 : w5.cell? ⟨g, k * 6 + 3, none⟩ = some (.int .i64 xs[k].lo) := by rw [blk_cell HGB5.out]; have := HCK.out 3 (by omega); simpa [ExV.cells] using this
    have c4 : w5.cell? ⟨g, k * 6 + 4, none⟩ = some (.int .i64 xs[k].hi) := by rw [blk_cell HGB5.out]; have := HCK.out 4 (by omega); simpa [ExV.cells] using this
    have c5 : w5.cell? ⟨g, k * 6 + 5, none⟩ = some (.slice xs[k].aa xs[k].na xs[k].ca) := by rw [blk_cell HGB5.out]; have := HCK.out 5 (by omega); simpa [ExV.cells] using this
    unfold ExV.val exV
    go_upto_region 5 with fail
    obtain ⟨W6, hW6⟩ : ∃ W6, W6 = put6at w5 g (k * 6) v' := ⟨_, rfl⟩
    have HW6 := Lib.hid hW6
    have HP6 := Lib.hid (show Chg [g] w5 W6 by rw [hW6]; exact put6at_chg _ _ _ _ (by simp))
    unfold put6at at hW6
    rw [← hW6]
    have HBE6 := Lib.hid (HP6.out.blk HBE5.out (by simp; omega))
    have HBR6 := Lib.hid (HP6.out.blk HBR5.out (by simp; omega))
    have hz6 := HP6.out.size
    clear hW6 c0 c1 c2 c3 c4 c5 cf
    obtain ⟨b0, b1, b2, b3, b4, b5, bf⟩ := blk6 HBE6.out
    obtain ⟨r0, r1, r2, r3, r4, r5, rf⟩ := blk6 HBR6.out
    have hl2 := blk_lt HBR6.out
    have hlE := blk_lt HBE6.out
    go_wp2_with fail
    have HCB := Lib.hid (show Chg [w.heap.size] W6 (W6.setCell ⟨w.heap.size, 5, none⟩ (.slice (some ⟨g, 0, none⟩) na cap)) from (Chg.refl _ _).setCell (Or.inl (by simp)) _)
    have HROW := Lib.hid (tw_row (B := w.heap.size + 1) (t := 29) HR.out HXL.out HGB5.out HGC.out hk6 hkx HW6.out HCB.out (HCA.out.then HC5.out) HE5.out rfl rfl ⟨by omega, by omega, by omega, by omega, by omega⟩ HM.out)
    have HC7 := Lib.hid (show Chg [bd] w (W6.setCell ⟨w.heap.size, 5, none⟩ (.slice (some ⟨g, 0, none⟩) na cap)) from ((HCA.out.then HC5.out).trans HP6.out (by intro y hy; simp at hy; subst hy; exact Or.inr (by omega))).trans HCB.out (by intro y hy; simp at hy; subst hy; exact Or.inr (Nat.le_refl _)))
    have HD7 := Lib.hid (show DeckAt w0 (W6.setCell ⟨w.heap.size, 5, none⟩ (.slice (some ⟨g, 0, none⟩) na cap)) bd from (HD5.out.chg HP6.out (by simp; omega) (by simp; omega)).chg HCB.out (by simp; omega) (by simp; omega))
    refine bodyPost_ret (v := ExV.val ⟨e.op, e.name, aw, nw, cw, e.lo, e.hi, some ⟨g, 0, none⟩, na, cap⟩) (by simp [results, Tryz.results9, go_sem, ExV.val, exV, r0, r1, r2, r3, r4, r5]) rfl ?_
    refine made_fin (e := .mk e.op e.name e.words e.lo e.hi (e.args.set k e')) (B := w.heap.size + 1) (x := ⟨e.op, e.name, aw, nw, cw, e.lo, e.hi, some ⟨g, 0, none⟩, na, cap⟩) HC7.out HD7.out (by omega) hbd (tw_args hka HFIT.out HFEW.out HOK5.out) (IsEx.mk (HST.out.mono (mask_sub_mask fun y hy hn => ?_)) (by have := HNA.out; simp; omega) hcapn (Or.inr ⟨g, 0, rfl⟩) HROW.out)
    simp only [List.mem_cons, not_or] at hn ⊢
    exact ⟨⟨by omega, hn.1, hn.2⟩, HC7.out.block y hy (by simpa using hn.1)⟩
  | false =>
    clear HCN
    have hlE := blk_lt HBE.out
    have hlR := blk_lt HBR.out
    obtain ⟨wn, hwn⟩ : ∃ wn, wn = wc.alloc (.cells (twNames.map Value.string).toArray 9) := ⟨_, rfl⟩
    have hwn' : wn = wc.alloc (.cells #[.string ⟨#[110]⟩, .string ⟨#[116]⟩, .string ⟨#[112, 101, 114, 105, 108]⟩, .string ⟨#[97]⟩, .string ⟨#[99, 45, 97, 98]⟩, .string ⟨#[99, 45, 97, 99]⟩, .string ⟨#[99, 45, 97, 100]⟩, .string ⟨#[114, 111, 108, 101]⟩, .string ⟨#[110, 111, 98, 111, 100, 121]⟩] 9) := hwn
    have HBN := Lib.hid (show wn.heap[wc.heap.size]? = some (.cells (twNames.map Value.string).toArray 9 (0, 0)) by rw [hwn]; exact alloc_new wc _)
    have hxn : Ext wc wn := by rw [hwn]; exact (Ext.refl _).alloc _
    have HDN := Lib.hid (HD1.out.ext hxn)
    have HCN := Lib.hid (HCW.out.then (hxn.chg [bd]))
    have HBR := Lib.hid (hxn.blk HBR.out)
    have hzn := hxn.size
    have hln := blk_lt HBN.out
    clear hwn hxn HD1
    go_wp2_with fail
    rw [← hwn']
    clear hwn'
    refine (next_calls HDN.out _ (by omega) (by omega)).mono ?_
    rintro r w2 ⟨q, rfl, hq0, hq1, hd2, hc2⟩
    obtain ⟨k, rfl⟩ : ∃ k : Nat, q = (k : Int) := ⟨q.toNat, by omega⟩
    have hk9 : k < twNames.length := by show k < 9; omega
    have hkc := str_cell (hc2.blk HBN.out (by simp; omega)) hk9
    have hnmz := twNames_size _ (List.getElem_mem hk9)
    generalize twNames[k] = nm at hkc hnmz
    have HD2 := Lib.hid hd2
    have HC2 := Lib.hid (HCN.out.then hc2)
    have HBR := Lib.hid (hc2.blk HBR.out (by simp; omega))
    have hz2 := hc2.size
    clear hd2 hc2 HDN HCN HBN hk9
    go_wp2_with fail
    refine (next_calls HD2.out _ (by omega) (by omega)).mono ?_
    rintro r w3 ⟨q4, rfl, hr0, hr4, hd3, hc3⟩
    have HD3 := Lib.hid hd3
    have HC3 := Lib.hid (HC2.out.then hc3)
    have HBR3 := Lib.hid (hc3.blk HBR.out (by simp; omega))
    have hz3 := hc3.size
    clear hd3 hc3 HD2 HC2 HBR hkc
    have hq4 : q4 = 0 ∨ q4 = 1 ∨ q4 = 2 ∨ q4 = 3 := by omega
    clear hr0 hr4
    rcases hq4 with rfl | rfl | rfl | rfl
    · obtain ⟨wn, hwn⟩ : ∃ wn, wn = w3.alloc (.cells (twWords.map Value.string).toArray 9) := ⟨_, rfl⟩
      have hwn' : wn = w3.alloc (.cells #[.string ⟨#[102, 105, 114, 101]⟩, .string ⟨#[99, 114, 101, 119]⟩, .string ⟨#[105, 99, 101]⟩] 9) := hwn
      have HBN := Lib.hid (show wn.heap[w3.heap.size]? = some (.cells (twWords.map Value.string).toArray 9 (0, 0)) by rw [hwn]; exact alloc_new w3 _)
      have hxn : Ext w3 wn := by rw [hwn]; exact (Ext.refl _).alloc _
      have HDN := Lib.hid (HD3.out.ext hxn)
      have HCN := Lib.hid (HC3.out.then (hxn.chg [bd]))
      have HBR := Lib.hid (hxn.blk HBR3.out)
      have hzn := hxn.size
      have hln := blk_lt HBN.out
      clear hwn hxn HD3
      go_wp2_with fail
      rw [← hwn']
      clear hwn'
      refine (next_calls HDN.out _ (by omega) (by omega)).mono ?_
      rintro r w4 ⟨q, rfl, hq0, hq1, hd4, hc4⟩
      obtain ⟨k3, rfl⟩ : ∃ k : Nat, q = (k : Int) := ⟨q.toNat, by omega⟩
      have hk3 : k3 < twWords.length := by show k3 < 3; omega
      have hkc := str_cell (hc4.blk HBN.out (by simp; omega)) hk3
      have hwdz := twWords_size _ (List.getElem_mem hk3)
      generalize twWords[k3] = wd at hkc hwdz
      have HD4 := Lib.hid hd4
      have HC4 := Lib.hid (HCN.out.then hc4)
      have HBR := Lib.hid (hc4.blk HBR.out (by simp; omega))
      have hz4 := hc4.size
      clear hd4 hc4 HDN HCN HBN hk3
      obtain ⟨wz, hwz⟩ : ∃ wz, wz = w4.alloc (.cells #[.string wd] 9) := ⟨_, rfl⟩
      have HBZ := Lib.hid (show wz.heap[w4.heap.size]? = some (.cells #[.string wd] 9 (0, 0)) by rw [hwz]; exact alloc_new w4 _)
      have hxz : Ext w4 wz := by rw [hwz]; exact (Ext.refl _).alloc _
      have HDZ := Lib.hid (HD4.out.ext hxz)
      have HCZ := Lib.hid (HC4.out.then (hxz.chg [bd]))
      have HBRZ := Lib.hid (hxz.blk HBR.out)
      have hzz := hxz.size
      clear hxz
      obtain ⟨r0, r1, r2, r3, r4, r5, rf⟩ := blk6 HBR.out
      have hl2 := blk_lt HBR.out
      go_wp2_with fail
      clear r0 r1 r2 r3 r4 r5 rf hl2
      obtain ⟨r0, r1, r2, r3, r4, r5, rf⟩ := blk6 HBRZ.out
      have hl2 := blk_lt HBRZ.out
      have hpa := put6_alloc (B := w.heap.size + 1) (w := w4) (by omega) ⟨4, nm, some ⟨w4.heap.size, 0, none⟩, 1, 1, 0, 0, none, 0, 0⟩ (.cells #[.string wd] 9)
      unfold put6 at hpa
      dsimp only at hpa
      rw [hpa, ← hwz]
      clear hwz hpa
      refine bodyPost_ret (v := ExV.val ⟨4, nm, some ⟨w4.heap.size, 0, none⟩, 1, 1, 0, 0, none, 0, 0⟩) (by simp [results, Tryz.results9, go_sem, ExV.val, exV, r0, r1, r2, r3, r4, r5]) rfl ?_
      refine made_fin (e := .mk 4 nm [wd] 0 0 []) (B := w.heap.size + 1) (x := ⟨4, nm, some ⟨w4.heap.size, 0, none⟩, 1, 1, 0, 0, none, 0, 0⟩) HCZ.out HDZ.out (by omega) hbd ⟨fits_leaf hnmz (by simpa using hwdz), few_leaf (by simp), by rw [size_leaf]; omega⟩ (IsEx.mk (isStrs_mask (isStrs_block (l := [wd]) HBZ.out rfl) fun b off h => ?_) rfl (Nat.le_refl _) (Or.inl ⟨rfl, rfl⟩) (by unfold ExsD; trivial))
      simp only [Option.some.injEq, Addr.mk.injEq] at h
      obtain ⟨rfl, _⟩ := h
      intro hm'
      simp only [List.mem_cons] at hm'
      rcases hm' with h | h | h
      · omega
      · omega
      · have := HM.out _ h; omega
    · go_wp2_with fail
      refine (range_calls HD3.out (-9) 9 (by omega) (by omega) (by omega)).mono ?_
      rintro r w4 ⟨q, rfl, hq0, hq1, hd4, hc4⟩
      have HD4 := Lib.hid hd4
      have HC4 := Lib.hid (HC3.out.then hc4)
      have HBR4 := Lib.hid (hc4.blk HBR3.out (by simp; omega))
      have hz4 := hc4.size
      clear hd4 hc4 HD3 HC3 HBR3
      go_wp2_with fail
      refine (next_calls HD4.out _ (by omega) (by omega)).mono ?_
      rintro r w5 ⟨q5, rfl, hq50, hq51, hd5, hc5⟩
      have HD5 := Lib.hid hd5
      have HC5 := Lib.hid (HC4.out.then hc5)
      have HBR5 := Lib.hid (hc5.blk HBR4.out (by simp; omega))
      clear hd5 hc5 HD4 HC4 HBR4
      obtain ⟨r0, r1, r2, r3, r4, r5, rf⟩ := blk6 HBR5.out
      have hl2 := blk_lt HBR5.out
      go_wp2_with fail
      refine bodyPost_ret (v := ExV.val ⟨5, nm, none, 0, 0, q, 9 + q5, none, 0, 0⟩) (by simp [results, Tryz.results9, go_sem, ExV.val, exV, r0, r1, r2, r3, r4, r5]) rfl ?_
      exact made_fin (e := .mk 5 nm [] q (9 + q5) []) (B := w.heap.size + 1) (x := ⟨5, nm, none, 0, 0, q, 9 + q5, none, 0, 0⟩) HC5.out HD5.out (by omega) hbd ⟨fits_leaf hnmz (by simp), few_leaf (by simp), by rw [size_leaf]; omega⟩ (IsEx.mk (isStrs_nil _) rfl (Nat.le_refl _) (Or.inl ⟨rfl, rfl⟩) (by unfold ExsD; trivial))
    all_goals
      obtain ⟨r0, r1, r2, r3, r4, r5, rf⟩ := blk6 HBR3.out
      have hl2 := blk_lt HBR3.out
      go_wp2_with fail
      refine bodyPost_ret (v := ExV.val ⟨3, nm, none, 0, 0, 0, 0, none, 0, 0⟩) (by simp [results, Tryz.results9, go_sem, ExV.val, exV, r0, r1, r2, r3, r4, r5]) rfl ?_
      exact made_fin (e := .mk 3 nm [] 0 0 []) (B := w.heap.size + 1) (x := ⟨3, nm, none, 0, 0, 0, 0, none, 0, 0⟩) HC3.out HD3.out (by omega) hbd ⟨fits_leaf hnmz (by simp), few_leaf (by simp), by rw [size_leaf]; omega⟩ (IsEx.mk (isStrs_nil _) rfl (Nat.le_refl _) (Or.inl ⟨rfl, rfl⟩) (by unfold ExsD; trivial))
theorem twisted_calls (m : Nat) (hm : m ≤ 1001) : TwDo m := by
  induction m with
  | zero => intro e ev w0 w bd M h; have := size_pos e; omega
  | succ m ih => exact tw_step m (ih (by omega)) (by omega)
end Go.Proofs.YtfjlglefodndjaaGreatDoor

namespace Go.Proofs.YtfjlglefodndjaaGreatDoor
open Go.RowKit

theorem uBy : Tryz.prog.underlying 5 = some (.int .u8) := by kernel_rfl
theorem uBs : Tryz.prog.underlying 121 = some (.slice 5) := by kernel_rfl
theorem uSt : Tryz.prog.underlying 9 = some .string := by kernel_rfl
/-- string([]byte{c}) -/
theorem conv_byte (w : World) (x : Nat) (hx : x = w.heap.size) (c : Int) (t : TypeId) : Sem.run Tryz.prog (convert 121 9 (.slice (some ⟨x, 0, none⟩) 1 1)) (w.alloc (.cells #[.int .u8 c] t)) = .ok (.string ⟨#[UInt8.ofNat c.toNat]⟩) (w.alloc (.cells #[.int .u8 c] t)) := by
  subst hx
  rw [run_convert_bytes_string _ _ _ 5 _ _ _ uBs uBy uSt]
  have := run_bytesToString (P := Tryz.prog) (w.alloc (.cells #[.int .u8 c] t)) ⟨w.heap.size, 0, none⟩ 1 1 [c] (by
    refine run_loadCells_list (P := Tryz.prog) _ _ [.int .u8 c] (fun j v hj => ?_)
    have hj0 : j = 0 := by
      have := (List.getElem?_eq_some_iff.1 hj).1
      simpa using this
    subst hj0
    have : (⟨w.heap.size, 0, none⟩ : Addr).add 0 = ⟨w.heap.size, 0, none⟩ := by unfold Addr.add; split <;> simp_all
    rw [this, World.cell?_alloc_at _ _ _ _ rfl]
    simpa using hj)
  rw [this]
  rfl
end Go.Proofs.YtfjlglefodndjaaGreatDoor

namespace Go.Proofs.YtfjlglefodndjaaGreatDoor
open Go.RowKit

/-! The generator: Upto, Left, letters. -/
set_option maxRecDepth 100000 in
set_option maxHeartbeats 4000000 in
theorem upto_calls {w0 w : World} {bd : Nat} (h : DeckAt w0 w bd) (most : Int) (h0 : 0 ≤ most) (h1 : most ≤ 10000000000000) :
    Calls Tryz.prog 74 #[.pointer (some ⟨bd, 0, none⟩), .int .i64 most] w (NextQ 0 (most + 1) w0 bd w) := by
  go_enter Tryz.func74, Tryz.ntmps74
  go_wp2_with fail
  refine (next_calls h 6 (by omega) (by omega)).mono ?_
  rintro e w1 ⟨r, rfl, hr0, hr1, hd, hc⟩
  have HC := Lib.hid hc
  have h4 : ∀ (k : Int), 0 < k → k ≤ 10000000000001 → Calls Tryz.prog 19 #[.pointer (some ⟨bd, 0, none⟩), .int .i64 k] w1 (NextQ 0 k w0 bd w1) := fun k hk hk2 => next_calls hd k hk (by omega)
  have H4 := Lib.hid h4
  clear hc hd h4
  have hr : r = 0 ∨ r = 1 ∨ r = 2 ∨ r = 3 ∨ r = 4 ∨ r = 5 := by omega
  clear hr0 hr1
  rcases hr with rfl | rfl | rfl | rfl | rfl | rfl
  all_goals
    go_wp2_with fail
    all_goals
      refine (H4.out _ (by omega) (by omega)).mono ?_
      rintro e w2 ⟨q, rfl, hq0, hq1, hd2, hc2⟩
      have HC2 := Lib.hid (HC.out.then hc2)
      have HD2 := Lib.hid hd2
      clear hc2 hd2 H4 HC
      go_wp2_with fail
      all_goals
        go_ret
        exact ⟨_, rfl, by omega, by omega, HD2.out, HC2.out⟩
def LeftQ (w : World) (e : Ending) (w' : World) : Prop := ∃ b : Bool, e = .returned (.bool b) ∧ Ext w w'
set_option maxRecDepth 100000 in
set_option maxHeartbeats 4000000 in
theorem left_calls {w0 w : World} {bd : Nat} (h : DeckAt w0 w bd) : Calls Tryz.prog 48 #[.pointer (some ⟨bd, 0, none⟩)] w (LeftQ w) := by
  obtain ⟨la, ln, lc, k, hb, hk, hln, hL, hx, hbd⟩ := h
  obtain ⟨c0, c1, cf⟩ := blk2 hb
  clear hL hx hb
  go_enter Tryz.func48, Tryz.ntmps48
  go_wp2_with fail
  go_quiet (fail)
  go_wp2_with fail
  go_ret
  exact ⟨_, rfl, (Ext.refl w).drewN _⟩
/-- string([]byte{a, b}) -/
theorem conv_two (w : World) (x : Nat) (hx : x = w.heap.size) (c d : Int) (t : TypeId) : Sem.run Tryz.prog (convert 121 9 (.slice (some ⟨x, 0, none⟩) 2 2)) (w.alloc (.cells #[.int .u8 c, .int .u8 d] t)) = .ok (.string ⟨#[UInt8.ofNat c.toNat, UInt8.ofNat d.toNat]⟩) (w.alloc (.cells #[.int .u8 c, .int .u8 d] t)) := by
  subst hx
  rw [run_convert_bytes_string _ _ _ 5 _ _ _ uBs uBy uSt]
  have := run_bytesToString (P := Tryz.prog) (w.alloc (.cells #[.int .u8 c, .int .u8 d] t)) ⟨w.heap.size, 0, none⟩ 2 2 [c, d] (by
    refine run_loadCells_list (P := Tryz.prog) _ _ [.int .u8 c, .int .u8 d] (fun j v hj => ?_)
    have : (⟨w.heap.size, 0, none⟩ : Addr).add j = ⟨w.heap.size, j, none⟩ := by unfold Addr.add; split <;> simp_all
    rw [this, World.cell?_alloc_at _ _ _ _ rfl]
    simpa using hj)
  rw [this]
  rfl
def lettersB (p : ByteArray) (k : Nat) : ByteArray := p ++ ⟨#[97 + UInt8.ofNat (k / 26 % 26), 97 + UInt8.ofNat (k % 26)]⟩
theorem lettersB_size (p : ByteArray) (k : Nat) : (lettersB p k).size = p.size + 2 := by unfold lettersB; rw [ByteArray.size_append]; rfl
def LettersQ (p : ByteArray) (k : Nat) (w : World) (e : Ending) (w' : World) : Prop := e = .returned (.string (lettersB p k)) ∧ Ext w w'
set_option maxRecDepth 100000 in
set_option maxHeartbeats 4000000 in
theorem letters_calls (p : ByteArray) (k : Nat) (hk : k ≤ 1000) (hp : p.size ≤ 1000) (w : World) : Calls Tryz.prog 47 #[.string p, .int .i64 k] w (LettersQ p k w) := by
  have kc := conv_two
  go_enter Tryz.func47, Tryz.ntmps47
  go_wp2_with fail
  go_ret
  exact ⟨rfl, (Ext.refl w).alloc _⟩
end Go.Proofs.YtfjlglefodndjaaGreatDoor
