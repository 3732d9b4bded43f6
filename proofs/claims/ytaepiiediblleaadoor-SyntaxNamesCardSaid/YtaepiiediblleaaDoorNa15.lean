/-
  Texts of the claim, joined: Ref3, Ref4, RTok1, RTok2, RTok3, RTok4.
-/
import Derived.Test.YtaepiiediblleaaDoorNa09
import Derived.Test.YtaepiiediblleaaDoorNa02
import Derived.Test.YtaepiiediblleaaDoorNa13
import Derived.Test.YtaepiiediblleaaDoorNa11
namespace Go.Proofs.YtaepiiediblleaaDoor
open Go.RowKit

/-- The reference's look at one node; na, nw: the numbers of arguments and of words. -/
def refNode (op : Int) (name : ByteArray) (words : List ByteArray) (lo hi : Int) (na nw : Nat) : Bool :=
  decide (1 ≤ op ∧ op ≤ 8) && (if op == 3 || op == 4 || op == 5 then nameB name else name.toList.isEmpty) && (if op == 4 then decide (1 ≤ nw) && decide (nw ≤ 12) && words.all nameB && decide words.Nodup else decide (nw = 0)) &&
  (if op == 5 then numberB lo && numberB hi && decide (lo ≤ hi) else (lo == 0) && (hi == 0)) && (if op == 6 then decide (na = 1) else if op == 7 || op == 8 then decide (2 ≤ na) else decide (na = 0))
def refNodeB (e : Ex) : Bool := refNode e.op e.name e.words e.lo e.hi e.args.length e.words.length

theorem int_beq0 (n : Nat) : ((n : Int) == 0) = decide (n = 0) := by rw [Bool.eq_iff_iff]; simp
theorem int_beq1 (n : Nat) : ((n : Int) == 1) = decide (n = 1) := by rw [Bool.eq_iff_iff]; simp; omega
set_option maxRecDepth 100000 in
set_option maxHeartbeats 4000000 in
theorem rnode_calls (e : Ex) (v : Value) (w : World) (he : IsEx w e v) (hs : e.name.size ≤ 1000000000000000) (hws : ∀ x ∈ e.words, x.size ≤ 1000000000000000) (hnw : e.words.length ≤ 1000000000000000) :
    Calls Tryd.prog 59 #[v] w (GivesE (.bool (refNodeB e)) w) := by
  obtain ⟨aw, nw, cw, aa, na, ca, rfl, hw, hna, hca, ha, hx⟩ := he.parts
  clear he hx ha hca
  have HW := Lib.hid hw
  have HS := Lib.hid hws
  have hnw' : nw ≤ 1000000000000000 := by have := hw.1; omega
  have HB := Lib.hid (show refNodeB e = refNode e.op e.name e.words e.lo e.hi na nw by unfold refNodeB; rw [hna, hw.1])
  generalize refNodeB e = B at *
  clear hw hws hna hnw
  obtain ⟨op, name, words, lo, hi, args⟩ := e
  simp only [Ex.op, Ex.name, Ex.words, Ex.lo, Ex.hi] at *
  unfold exV
  by_cases h1 : 1 ≤ op
  · by_cases h8 : op ≤ 8
    · have hk : op = 1 ∨ op = 2 ∨ op = 3 ∨ op = 4 ∨ op = 5 ∨ op = 6 ∨ op = 7 ∨ op = 8 := by omega
      clear h1 h8
      rcases hk with rfl | rfl | rfl | rfl | rfl | rfl | rfl | rfl
      case inr.inr.inr.inl =>
        obtain ⟨P, hP⟩ : ∃ P, P = words.all nameB := ⟨_, rfl⟩
        obtain ⟨Q, hQ⟩ : ∃ Q, Q = decide words.Nodup := ⟨_, rfl⟩
        have HP := Lib.hid hP
        have HQ := Lib.hid hQ
        have HB2 := Lib.hid (show B = (nameB name && (decide (1 ≤ nw) && decide (nw ≤ 12) && P && Q) && ((lo == 0) && (hi == 0)) && decide (na = 0)) by rw [HB.out]; unfold refNode; rw [hP, hQ]; simp)
        clear hP hQ HB
        cases P
        all_goals cases Q
        all_goals
          by_cases hn1 : 1 ≤ nw
          · by_cases hn2 : nw ≤ 12
            · have t1 : decide ((nw : Int) < 1) = false := by simp; omega
              have t2 : decide ((12 : Int) < nw) = false := by simp; omega
              have HB3 := Lib.hid HB2.out
              simp only [hn1, hn2, decide_true, Bool.false_and, Bool.and_false, Bool.and_true] at HB3
              clear HB2
              go_enter Tryd.func59, Tryd.ntmps59
              go_wp2_with (first
                | (go_at_call 85; refine (rname_calls _ _ hs).mono ?_; rintro e w' ⟨rfl, rfl⟩)
                | (go_at_call 86; refine (names_calls words _ _ _ _ (HW.out.ext ((Ext.refl w).alloc _)) hnw' HS.out).mono ?_; rintro e w' ⟨rfl, rfl⟩; rw [← HP.out])
                | (go_at_call 87; refine (distinct_calls words _ _ _ _ (HW.out.ext ((Ext.refl w).alloc _)) hnw').mono ?_; rintro e w' ⟨rfl, q, rfl⟩; rw [← HQ.out]))
              all_goals (go_ret; exact givesE_bool (by first | (rw [HB3.out]; done) | (rw [HB3.out]; simp_all [int_beq0])) (by first | exact (Ext.refl w).alloc _ | exact ((Ext.refl w).alloc _).drewN _))
            · have t1 : decide ((nw : Int) < 1) = false := by simp; omega
              have t2 : decide ((12 : Int) < nw) = true := by simp; omega
              have HF := Lib.hid (show B = false by rw [HB2.out]; simp [hn2])
              clear HB2
              go_enter Tryd.func59, Tryd.ntmps59
              go_wp2_with (go_at_call 85; refine (rname_calls _ _ hs).mono ?_; rintro e w' ⟨rfl, rfl⟩)
              all_goals (go_ret; exact givesE_bool (by rw [HF.out]) ((Ext.refl w).alloc _))
          · have t1 : decide ((nw : Int) < 1) = true := by simp; omega
            have HF := Lib.hid (show B = false by rw [HB2.out]; simp [hn1])
            clear HB2
            go_enter Tryd.func59, Tryd.ntmps59
            go_wp2_with (go_at_call 85; refine (rname_calls _ _ hs).mono ?_; rintro e w' ⟨rfl, rfl⟩)
            all_goals (go_ret; exact givesE_bool (by rw [HF.out]) ((Ext.refl w).alloc _))
      all_goals
        go_enter Tryd.func59, Tryd.ntmps59
        go_wp2_with (first
          | (go_at_call 85; refine (rname_calls _ _ hs).mono ?_; rintro e w' ⟨rfl, rfl⟩)
          | (go_at_call 88; refine (far_calls _ _).mono ?_; rintro e w' ⟨rfl, rfl⟩))
        all_goals (go_ret; exact givesE_bool (by rw [HB.out]; simp_all [refNode, int_beq0, int_beq1]; try omega) ((Ext.refl w).alloc _))
    · have H := Lib.hid (show B = false by rw [HB.out]; simp [refNode, h8])
      have t1 : decide (op < 1) = false := by simp; omega
      have t2 : decide (8 < op) = true := by simp; omega
      have e3 : (op == 3) = false := by simp; omega
      have e4 : (op == 4) = false := by simp; omega
      have e5 : (op == 5) = false := by simp; omega
      go_enter Tryd.func59, Tryd.ntmps59
      go_wp2_with fail
      go_ret
      exact givesE_bool (by rw [H.out]) ((Ext.refl w).alloc _)
  · have H := Lib.hid (show B = false by rw [HB.out]; simp [refNode, h1])
    have t1 : decide (op < 1) = true := by simp; omega
    have e3 : (op == 3) = false := by simp; omega
    have e4 : (op == 4) = false := by simp; omega
    have e5 : (op == 5) = false := by simp; omega
    go_enter Tryd.func59, Tryd.ntmps59
    go_wp2_with fail
    go_ret
    exact givesE_bool (by rw [H.out]) ((Ext.refl w).alloc _)
end Go.Proofs.YtaepiiediblleaaDoor

namespace Go.Proofs.YtaepiiediblleaaDoor
open Go.RowKit

mutual
def nodesB : Ex → Bool
  | .mk op name words lo hi args => refNodeB (.mk op name words lo hi args) && nodesAll args
def nodesAll : List Ex → Bool
  | [] => true
  | e :: r => nodesB e && nodesAll r
end
theorem nodesB_eq (e : Ex) : nodesB e = (refNodeB e && nodesAll e.args) := by cases e; rw [nodesB]; rfl
theorem nodesAll_iff (l : List Ex) : nodesAll l = true ↔ ∀ j (h : j < l.length), nodesB l[j] = true := by
  induction l with
  | nil => simp [nodesAll]
  | cons e r ih =>
    rw [nodesAll, Bool.and_eq_true, ih]
    constructor
    · rintro ⟨h1, h2⟩ j hj
      cases j with
      | zero => exact h1
      | succ j => exact h2 j (by simpa using hj)
    · intro h
      exact ⟨h 0 (by simp), fun j hj => h (j + 1) (by simpa using hj)⟩
mutual
def Ex.few : Ex → Prop
  | .mk _ _ words _ _ args => words.length ≤ 1000000000000000 ∧ fewAll args
def fewAll : List Ex → Prop
  | [] => True
  | e :: r => e.few ∧ fewAll r
end
theorem fewAll_at : (l : List Ex) → fewAll l → (k : Nat) → (hk : k < l.length) → l[k].few
  | [], _, k, hk => by simp at hk
  | e :: r, h, 0, _ => by unfold fewAll at h; exact h.1
  | e :: r, h, k + 1, hk => by unfold fewAll at h; simpa using fewAll_at r h.2 k (by simpa using hk)
theorem few_parts {e : Ex} (h : e.few) : e.words.length ≤ 1000000000000000 ∧ fewAll e.args := by
  cases e; unfold Ex.few at h; exact h

set_option maxRecDepth 100000 in
set_option maxHeartbeats 1000000 in
theorem nodes_calls (m : Nat) : ∀ (e : Ex) (v : Value) (w : World), e.size ≤ m → m ≤ 1000000000000000 → e.fits → e.few → IsEx w e v → Calls Tryd.prog 37 #[v] w (GivesE (.bool (nodesB e)) w) := by
  induction m with
  | zero => intro e v w h; have := size_pos e; omega
  | succ m ih =>
    intro e v w hm hMM hf hw2 he
    have HE := Lib.hid he
    obtain ⟨aw, nw, cw, aa, na, ca, rfl, hw, hna, hca, ha, hx⟩ := he.parts
    have HX := Lib.hid hx
    have HN := Lib.hid hna
    have HF := Lib.hid (fits_parts hf)
    have HW := Lib.hid (few_parts hw2)
    have hS : e.size = 1 + sizes e.args := e.size_eq
    have hb2 : sizes e.args ≤ m := by omega
    have hla := length_le_sizes e.args
    have H : Hid (∀ (e : Ex) (v : Value) (w : World), e.size ≤ m → e.fits → e.few → IsEx w e v → Calls Tryd.prog 37 #[v] w (GivesE (.bool (nodesB e)) w)) := fun e v w h1 h2 h3 h4 => ih e v w h1 (by omega) h2 h3 h4
    have HQ := Lib.hid (nodesB_eq e)
    generalize nodesB e = B at *
    clear ih hx hna hw hca ha he hS hm hf hw2
    have HNC := Lib.hid (rnode_calls e _ (w.alloc (.cells #[.int .i64 e.op, .string e.name, .slice aw nw cw, .int .i64 e.lo, .int .i64 e.hi, .slice aa na ca] 26)) (HE.out.ext ((Ext.refl w).alloc _)) HF.out.1 HF.out.2.1 HW.out.1)
    unfold exV at *
    cases hnode : refNodeB e
    · have HND := Lib.hid hnode
      have H1 := Lib.hid (show B = false by rw [HQ.out, hnode]; rfl)
      clear hnode
      go_enter Tryd.func37, Tryd.ntmps37
      go_wp2_with fail
      refine HNC.out.mono ?_
      rintro r w1 ⟨rfl, hx1⟩
      rw [HND.out]
      have HX1 := Lib.hid (((Ext.refl w).alloc _).trans hx1)
      clear hx1
      go_wp2_with fail
      go_ret
      exact givesE_bool (by rw [H1.out]) HX1.out
    · have HND := Lib.hid hnode
      have HQ2 := Lib.hid (show B = nodesAll e.args by rw [HQ.out, hnode]; rfl)
      clear hnode
      go_enter Tryd.func37, Tryd.ntmps37
      go_wp2_with fail
      refine HNC.out.mono ?_
      rintro r w1 ⟨rfl, hx1⟩
      rw [HND.out]
      have HBX1 := Lib.hid (hx1.blk (alloc_new w _))
      have HX1 := Lib.hid (((Ext.refl w).alloc _).trans hx1)
      clear hx1
      go_wp2_with fail
      go_loopw [3] (fun i wr => ∃ k : Nat, k ≤ na ∧ i = .int .i64 k ∧ (∀ j (hj : j < e.args.length), j < k → nodesB e.args[j] = true) ∧ wr.heap[w.heap.size]? = some (.cells #[.int .i64 e.op, .string e.name, .slice aw nw cw, .int .i64 e.lo, .int .i64 e.hi, .slice aa na ca] 26 (0, 0)) ∧ Ext w wr) (fun i _ => na - (intOf i).toNat)
      case atStart => exact ⟨0, by omega, rfl, fun j _ h => by omega, HBX1.out, HX1.out⟩
      case round =>
        obtain ⟨k, hk, rfl, hall, hbx, hb⟩ := hrel
        have HA := Lib.hid hall
        have HBX := Lib.hid hbx
        have HB := Lib.hid hb
        have hlt0 := blk_lt hbx
        obtain ⟨b0, b1, b2, b3, b4, b5, bf⟩ := blk6 hbx
        clear hbx hb hall
        by_cases hlt : k < na
        · have hlt' : k < e.args.length := by have := HN.out; omega
          obtain ⟨b, off, rfl, aw1, nw1, cw1, aa1, na1, ca1, h0, h1, h2, h3, h4, h5, h6⟩ := ExsD.at e.args _ (ExsD.ext HB.out e.args _ HX.out) k hlt'
          have H6 := Lib.hid h6
          have hsz := sizes_take_succ e.args k hlt'
          have hsl := sizes_take_le e.args (k + 1)
          have hk1 : e.args[k].size ≤ m := by omega
          clear h6 hsz hsl
          go_wp2_with fail
          refine (H.out e.args[k] _ _ hk1 (fitsAll_at _ HF.out.2.2 k hlt') (fewAll_at _ HW.out.2 k hlt') H6.out).mono ?_
          rintro r w2 ⟨rfl, hb1⟩
          have HE1 := Lib.hid hb1
          clear b0 b1 b2 b3 b4 b5 bf hb1
          cases hdp : nodesB e.args[k]
          · have H1 := Lib.hid (show B = false by
              rw [HQ2.out]
              cases hz : nodesAll e.args
              · rfl
              · have := (nodesAll_iff _).1 hz k hlt'; rw [hdp] at this; cases this)
            clear hdp
            go_wp2_with fail
            go_ret
            exact givesE_bool (by rw [H1.out]) (HB.out.trans HE1.out)
          · have HND2 := Lib.hid hdp
            clear hdp
            go_wp2_with fail
            go_roundw
            case rel =>
              refine ⟨k + 1, by omega, by go_num, fun j hj hjk => ?_, HE1.out.blk HBX.out, HB.out.trans HE1.out⟩
              by_cases ej : j = k
              · subst ej; exact HND2.out
              · exact HA.out j hj (by omega)
            case measure => simp [intOf]; omega
        · have H1 := Lib.hid (show B = true by rw [HQ2.out]; exact (nodesAll_iff _).2 (fun j hj => HA.out j hj (by have := HN.out; omega)))
          go_wp2_with fail
          go_ret
          exact givesE_bool (by rw [H1.out]) HB.out

def refExprB (e : Ex) : Bool := !decide (16 < e.depth) && decide (refSize e ≤ 300) && nodesB e
set_option maxRecDepth 100000 in
theorem rexpr_calls (e : Ex) (v : Value) (w : World) (he : IsEx w e v) (hsz : e.size ≤ 1000000000000000) (hf : e.fits) (hw : e.few) : Calls Tryd.prog 20 #[v] w (GivesE (.bool (refExprB e)) w) := by
  have HE := Lib.hid he
  have HF := Lib.hid hf
  have HW := Lib.hid hw
  have HQ := Lib.hid (show refExprB e = (!decide (16 < e.depth) && decide (refSize e ≤ 300) && nodesB e) from rfl)
  generalize refExprB e = B at *
  obtain ⟨aw, nw, cw, aa, na, ca, rfl, -⟩ := he.parts
  clear he hf hw
  have HA := Lib.hid (fun W (h : Ext (w.alloc (.cells #[.int .i64 e.op, .string e.name, .slice aw nw cw, .int .i64 e.lo, .int .i64 e.hi, .slice aa na ca] 26)) W) => ((Ext.refl w).alloc _).trans h)
  have HNB := Lib.hid (alloc_new w (.cells #[.int .i64 e.op, .string e.name, .slice aw nw cw, .int .i64 e.lo, .int .i64 e.hi, .slice aa na ca] 26))
  unfold exV at *
  go_enter Tryd.func20, Tryd.ntmps20
  go_wp2_with fail
  refine (deeper_calls e.size e _ _ 16 (Nat.le_refl _) hsz (by omega) (HE.out.ext ((Ext.refl w).alloc _))).mono ?_
  rintro r w1 ⟨rfl, hx1⟩
  have HX1 := Lib.hid (HA.out _ hx1)
  have hb1 := hx1.blk HNB.out
  have HB1 := Lib.hid hb1
  have hz1 := blk_lt hb1
  obtain ⟨b0, b1, b2, b3, b4, b5, bf⟩ := blk6 hb1
  clear hx1 hb1 HA
  by_cases hd : 16 < e.depth
  · rw [decide_eq_true hd]
    have H1 := Lib.hid (show B = false by rw [HQ.out]; simp [hd])
    clear hd
    go_wp2_with fail
    go_ret
    exact givesE_bool (by rw [H1.out]) HX1.out
  · rw [decide_eq_false hd]
    have HD := Lib.hid hd
    clear hd
    go_wp2_with fail
    refine (rsize_calls e.size e _ _ (Nat.le_refl _) (HE.out.ext HX1.out)).mono ?_
    rintro r w2 ⟨rfl, hx2⟩
    have HX2 := Lib.hid (HX1.out.trans hx2)
    have hb2 := hx2.blk HB1.out
    have hz2 := blk_lt hb2
    clear b0 b1 b2 b3 b4 b5 bf hx2
    obtain ⟨b0, b1, b2, b3, b4, b5, bf⟩ := blk6 hb2
    clear hb2
    by_cases hs : refSize e ≤ 300
    · have t1 : decide ((refSize e : Int) ≤ 300) = true := by simp; omega
      have HS := Lib.hid hs
      clear hs
      go_wp2_with fail
      refine (nodes_calls e.size e _ _ (Nat.le_refl _) hsz HF.out HW.out (HE.out.ext HX2.out)).mono ?_
      rintro r w3 ⟨rfl, hx3⟩
      have HX3 := Lib.hid (HX2.out.trans hx3)
      clear b0 b1 b2 b3 b4 b5 bf hx3
      go_wp2_with fail
      go_ret
      exact givesE_bool (by rw [HQ.out]; simp [HD.out, HS.out]) HX3.out
    · have t1 : decide ((refSize e : Int) ≤ 300) = false := by simp; omega
      have H1 := Lib.hid (show B = false by rw [HQ.out]; simp [hs])
      clear hs
      go_wp2_with fail
      go_ret
      exact givesE_bool (by rw [H1.out]) HX2.out
end Go.Proofs.YtaepiiediblleaaDoor

namespace Go.Proofs.YtaepiiediblleaaDoor
open Go.RowKit

theorem nameToken_calls (s : ByteArray) (w : World) : Calls Tryd.prog 48 #[.string s] w (GivesE (tokV (nameT s)) w) := by
  go_enter Tryd.func48, Tryd.ntmps48
  go_wp2_with fail
  refine bodyPost_ret (v := tokV (nameT s)) (by simp [results, Tryd.results48, go_sem, tokV, nameT]) rfl ⟨rfl, ?_⟩
  exact (Ext.refl w).alloc _
theorem markToken_calls (c : UInt8) (w : World) : Calls Tryd.prog 50 #[.string ⟨#[c]⟩] w (GivesE (tokV (markT c)) w) := by
  go_enter Tryd.func50, Tryd.ntmps50
  go_wp2_with fail
  exact bodyPost_ret (v := tokV (markT c)) (by simp [results, Tryd.results50, go_sem, tokV, markT]) rfl ⟨rfl, (Ext.refl w).alloc _⟩
theorem numberToken_calls (n : Int) (w : World) : Calls Tryd.prog 51 #[.int .i64 n] w (GivesE (tokV (numT n)) w) := by
  go_enter Tryd.func51, Tryd.ntmps51
  go_wp2_with fail
  exact bodyPost_ret (v := tokV (numT n)) (by simp [results, Tryd.results51, go_sem, tokV, numT]) rfl ⟨rfl, (Ext.refl w).alloc _⟩

theorem mask_in {w : World} {M : List Nat} {p : Addr} {v : Value} (h : (mask w M).cell? p = some v) : w.cell? p = some v := by
  rw [mask_cell] at h
  split at h
  · cases h
  · exact h
/-- A row of tokens that the call owns. -/
def OwnT (w : World) (base : Nat) (l : List Tok) (v : Value) : Prop := w.ownsRow base 61 4 v l.length (l.flatMap tokCells)
/-- The row v has become v': the old one, or a new one; nothing else has changed. -/
def Grew (w : World) (v : Value) (w' : World) (v' : Value) : Prop := Chg (rowOf v) w w' ∧ ∀ k, v'.ownBlock = some k → v.ownBlock = some k ∨ w.heap.size ≤ k
theorem Grew.refl (w : World) (v : Value) : Grew w v w v := ⟨Chg.refl _ _, fun _ h => Or.inl h⟩
theorem Grew.trans {a b c : World} {u v x : Value} (h : Grew a u b v) (k : Grew b v c x) : Grew a u c x := by
  have hz := h.1.size
  refine ⟨h.1.trans k.1 fun y hy => ?_, fun y hy => ?_⟩
  · rcases h.2 y (mem_rowOf.1 hy) with h1 | h1
    · exact Or.inl (mem_rowOf.2 h1)
    · exact Or.inr h1
  · rcases k.2 y hy with h1 | h1
    · exact h.2 y h1
    · exact Or.inr (by omega)
theorem Ext.grew {w w' : World} (h : Ext w w') (v : Value) : Grew w v w' v := ⟨h.chg _, fun _ h => Or.inl h⟩
theorem Grew.sub {w w' : World} {v v' : Value} (h : Grew w v w' v') : Sub (mask w (rowOf v)) (mask w' (rowOf v')) := mask_sub_mask fun k hk hn => ⟨fun hm => by
    rcases h.2 k (mem_rowOf.1 hm) with h1 | h1
    · exact hn (mem_rowOf.2 h1)
    · omega, h.1.block k hk hn⟩
theorem OwnT.ext {w w' : World} {base : Nat} {l : List Tok} {v : Value} (h : OwnT w base l v) (he : Ext w w') : OwnT w' base l v := owns_ext h he
theorem OwnT.lt {w : World} {base : Nat} {l : List Tok} {v : Value} (h : OwnT w base l v) {k : Nat} (hk : k ∈ rowOf v) : base ≤ k ∧ k < w.heap.size := World.ownsRow.lt h k (mem_rowOf.1 hk)
def TokQ (base : Nat) (l : List Tok) (v : Value) (w : World) (e : Ending) (w' : World) : Prop := ∃ v', e = .returned v' ∧ OwnT w' base l v' ∧ Grew w v w' v'

/-- append of tokens that were just laid into a block of their own. -/
theorem wpList_append_tok {ops : Array Oper} {rest : List Oper} {o : Oper} {a : Act} {Q : Exit → Act → World → Prop} {X : World} {arr : Array Value} {tt : TypeId}
    (hgd : o.guard = none) (s x : Operand) (ho : o.op = .call { callee := .builtin .append, args := #[s, x], argTypes := #[54, 54] }) (base : Nat) (v : Value) (l ts : List Tok) (hs : a.eval s = v) (hown : OwnT X base l v)
    (B m c : Nat) (hx : a.eval x = .slice (some ⟨B, 0, none⟩) m c) (hB : B = X.heap.size) (harr : arr.toList = ts.flatMap tokCells) (hm : m = ts.length) (hm0 : 0 < m) (hn : l.length + m ≤ 100000000) (hbase : base ≤ X.heap.size)
    (h : ∀ v' w', OwnT w' base (l ++ ts) v' → Grew X v w' v' → wpList Tryd.prog ops Q rest (a.put o.dst v') w') : wpList Tryd.prog ops Q (o :: rest) a (X.alloc (.cells arr tt)) := by
  subst hB hm
  obtain ⟨i, hi, hz, hsz, hby⟩ := info_parts elemTok.info
  refine wpList_append_lies (X.alloc (.cells arr tt)) hgd s x 54 ho base 61 i _ 4 40 elemTok.ht hi hz hsz hby elemTok.hzs elemTok.hsz v l.length _ hs (World.ownsRow.alloc hown _) ⟨X.heap.size, 0, none⟩ ts.length c arr.toList hx ?_ ?_ ?_ hm0 (by simp only [maxLen]; omega) (by omega) (by simp; omega) _ rfl ?_
  · rw [harr, length_flatMap_of tokCells 4 (fun _ => rfl)]
  · intro j u hu
    have : (⟨X.heap.size, 0, none⟩ : Addr).add j = ⟨X.heap.size, j, none⟩ := by unfold Addr.add; split <;> simp_all
    rw [this, World.cell?_alloc_at _ _ _ _ rfl]
    simpa using hu
  · rw [harr]
    intro u hu
    obtain ⟨t, _, ht⟩ := List.mem_flatMap.1 hu
    simp only [tokCells, List.mem_cons, List.not_mem_nil, or_false] at ht
    rcases ht with rfl | rfl | rfl | rfl <;> rfl
  · intro g cap w' h2 h3 h4 h5
    refine h _ _ ?_ ⟨⟨h3.os, h3.tape, h3.output, ?_, fun k hk hne => ?_⟩, fun k hk => ?_⟩
    · unfold OwnT
      rw [List.length_append, List.flatMap_append, ← harr]
      exact h2
    · have := h3.size; simp at this; omega
    · rw [h3.block k (by simp; omega) (fun e => hne (mem_rowOf.2 e.symm))]
      exact Below.heap_alloc _ _ _ hk
    · simp only [Value.ownBlock] at hk
      injection hk with hk
      subst hk
      rcases h4 with h4 | h4
      · exact Or.inl h4
      · exact Or.inr (by simp at h4; omega)

theorem listedT_snoc (x : ByteArray) : (l : List ByteArray) → listedT (l ++ [x]) = listedT l ++ ((if l.length = 0 then [] else [markT 44]) ++ [nameT x])
  | [] => by simp [listedT]
  | [a] => by simp [listedT]
  | a :: b :: r => by
    have := listedT_snoc x (b :: r)
    simp only [List.cons_append, List.length_cons] at this ⊢
    simp only [listedT, this]
    simp
theorem listedT_len : (l : List ByteArray) → (listedT l).length ≤ 2 * l.length
  | [] => by simp [listedT]
  | [a] => by simp [listedT]
  | a :: b :: r => by have := listedT_len (b :: r); simp only [listedT, List.length_cons] at this ⊢; omega

set_option maxRecDepth 100000 in
set_option maxHeartbeats 1000000 in
theorem listed_calls (ws : List ByteArray) (l : List Tok) (v : Value) (base : Nat) (a : Option Addr) (n c : Nat) (w : World) (ho : OwnT w base l v) (hs : IsStrs (mask w (rowOf v)) ws a n c) (hb : base ≤ w.heap.size) (hl : l.length ≤ 10000) (hn : n ≤ 10000) :
    Calls Tryd.prog 49 #[v, .slice a n c] w (TokQ base (l ++ listedT ws) v w) := by
  have HO := Lib.hid ho
  have HS := Lib.hid hs
  have HN := Lib.hid hs.1
  clear ho hs
  go_enter Tryd.func49, Tryd.ntmps49
  go_wp2_with fail
  go_loopw [0, 5] (fun u i wr => ∃ k : Nat, k ≤ n ∧ i = .int .i64 k ∧ OwnT wr base (l ++ listedT (ws.take k)) u ∧ Grew w v wr u) (fun _ i _ => n - (intOf i).toNat)
  case atStart => exact ⟨0, by omega, rfl, by simpa [listedT] using HO.out, Grew.refl _ _⟩
  case round =>
    obtain ⟨k, hk, rfl, ho, hg⟩ := hrel
    have HO1 := Lib.hid ho
    have HG1 := Lib.hid hg
    clear ho hg
    by_cases hlt : k < n
    · have hlt' : k < ws.length := by have := HN.out; omega
      have t1 : decide ((k : Int) < (n : Int)) = true := by simp; omega
      obtain ⟨b, off, rfl, hcell⟩ := HS.out.2.2.2 k hlt'
      have hcell := HG1.out.sub _ _ hcell
      have HC := Lib.hid hcell
      have HL := Lib.hid (listedT_snoc ws[k] (ws.take k))
      have HT := Lib.hid (show ws.take (k + 1) = ws.take k ++ [ws[k]] by simp)
      have hlen := listedT_len (ws.take k)
      have hlen2 : (listedT (ws.take k)).length ≤ 20000 := by rw [List.length_take] at hlen; omega
      have hz1 := HG1.out.1.size
      clear hcell hlen
      by_cases hk0 : k = 0
      case' pos =>
        have HL1 := Lib.hid (show l ++ listedT (ws.take (k + 1)) = l ++ listedT (ws.take k) ++ [nameT ws[k]] by rw [HT.out, HL.out, List.length_take, if_pos (by omega)]; simp)
        have hLL : (l ++ listedT (ws.take k)).length ≤ 30001 := by rw [List.length_append]; omega
        have t2 : decide (0 < (k : Int)) = false := by simp; omega
        have t3 : decide (0 < k) = false := by simp; omega
        have HO2 := Lib.hid HO1.out
        have HG2 := Lib.hid HG1.out
        generalize l ++ listedT (ws.take k) = L2 at *
        clear HO1 HG1 HL HT hk0
      case' neg =>
        have HL1 := Lib.hid (show l ++ listedT (ws.take (k + 1)) = l ++ listedT (ws.take k) ++ [markT 44] ++ [nameT ws[k]] by rw [HT.out, HL.out, List.length_take, if_neg (by omega)]; simp)
        have hLL : (l ++ listedT (ws.take k) ++ [markT 44]).length ≤ 30001 := by rw [List.length_append, List.length_append]; simp; omega
        have t2 : decide (0 < (k : Int)) = true := by simp; omega
        have t3 : decide (0 < k) = true := by simp; omega
        generalize l ++ listedT (ws.take k) = L at *
        clear HL HT hk0
        go_wp2_with fail
        refine (markToken_calls 44 _).mono ?_
        rintro r w1 ⟨rfl, hx1⟩
        have HOW := Lib.hid (HO1.out.ext hx1)
        have HGW := Lib.hid (HG1.out.trans (hx1.grew _))
        have hz := hx1.size
        have HX1 := Lib.hid hx1
        simp only [tokV, markT]
        clear hx1
        go_wp2_with (at_builtin; refine wpList_append_tok rfl _ _ rfl base _ _ [markT 44] rfl HOW.out _ 1 1 rfl ?c0 ?c1 rfl ?c2 ?c3 ?c4 ?_)
        case c0 => rfl
        case c1 => rfl
        case c2 => omega
        case c3 => have := hLL; rw [List.length_append] at this; simp at this; omega
        case c4 => omega
        intro v2 w2 hown2 hgrow2
        have HO2 := Lib.hid hown2
        have HG2 := Lib.hid (HGW.out.trans hgrow2)
        have HC := Lib.hid (hgrow2.sub _ _ ((HX1.out.grew _).sub _ _ HC.out))
        clear hown2 hgrow2 HOW HGW HX1 HO1 HG1
        generalize L ++ [markT 44] = L2 at *
      all_goals
        have hcell := mask_in HC.out
        have hz2 := HG2.out.1.size
        clear HC
        go_wp2_with fail
        refine (nameToken_calls _ _).mono ?_
        rintro r w3 ⟨rfl, hx3⟩
        have HOW := Lib.hid (HO2.out.ext hx3)
        have HGW := Lib.hid (HG2.out.trans (hx3.grew _))
        have hz3 := hx3.size
        simp only [tokV, nameT]
        clear hx3 hcell
        go_wp2_with (at_builtin; refine wpList_append_tok rfl _ _ rfl base _ _ [nameT ws[k]] rfl HOW.out _ 1 1 rfl ?c0 ?c1 rfl ?c2 ?c3 ?c4 ?_)
        case c0 => rfl
        case c1 => rfl
        case c2 => omega
        case c3 => omega
        case c4 => omega
        intro v4 w4 hown4 hgrow4
        have HO4 := Lib.hid hown4
        have HG4 := Lib.hid (HGW.out.trans hgrow4)
        clear hown4 hgrow4 HOW HGW
        go_wp2_with fail
        go_round
        case rel => exact ⟨k + 1, by omega, rfl, by rw [HL1.out]; exact HO4.out, HG4.out⟩
        case measure => simp [intOf]; omega
    · have hkn : k = n := by omega
      subst hkn
      have t1 : decide ((k : Int) < (k : Int)) = false := by simp
      have HE := Lib.hid (show ws.take k = ws by rw [HN.out, List.take_length])
      go_wp2_with fail
      go_ret
      exact ⟨_, rfl, by rw [← HE.out]; exact HO1.out, HG1.out⟩
end Go.Proofs.YtaepiiediblleaaDoor

namespace Go.Proofs.YtaepiiediblleaaDoor
open Go.RowKit

/-- What an operation of a region that appends tokens leaves: a plain value; a block with tokens; the row, grown to l. -/
inductive What where
  | val (u : Value)
  | blk (ts : List Tok)
  | own (l : List Tok)
def What.plain : What → Bool
  | .val _ => true
  | _ => false
def TokR (base : Nat) (w0 : World) (v : Value) (f : Nat → What) (i : Nat) (u : Value) (W : World) : Prop := match f i with
  | .val x => u = x
  | .blk ts => ∃ x0, u = .slice (some ⟨x0, 0, none⟩) ts.length ts.length ∧ W.heap[x0]? = some (.cells (ts.flatMap tokCells).toArray 61 (0, 0))
  | .own l => OwnT W base l u ∧ Grew w0 v W u
def TokE (gs : List Nat) (k : Nat) (W W' : World) : Prop := k ∈ gs ∨ Ext W W'
def TokG (gs : List Nat) (w0 : World) (v : Value) (L : List Nat) (W : World) : Prop := Chg (rowOf v) w0 W ∧ ((∀ g ∈ gs, g ∉ L) → Ext w0 W)
/-- The rows and blocks outlast no operation that grows the row. -/
def tokApart (ops : Array Oper) (m : Nat) (Kp gs : List Nat) (f : Nat → What) : Bool := (List.range m).all fun i => gs.all fun k => i == k || (f i).plain || !outlasts ops m Kp i k
theorem tokR_keeps {ops : Array Oper} {m : Nat} {Kp gs : List Nat} {f : Nat → What} (hap : tokApart ops m Kp gs f = true) {base : Nat} {w0 : World} {v : Value} :
    ∀ i k u W W', i < m → k < m → i ≠ k → outlasts ops m Kp i k = true → TokR base w0 v f i u W → TokE gs k W W' → TokR base w0 v f i u W' := by
  intro i k u W W' hi _ hik ho hR hE
  unfold TokR at *
  split at hR
  · exact hR
  all_goals
    rcases hE with hE | hE
    · have := List.all_eq_true.1 (List.all_eq_true.1 hap i (by simpa using hi)) k hE
      rename_i hf
      simp [hik, hf, What.plain, ho] at this
  · obtain ⟨x0, h1, h2⟩ := hR
    exact ⟨x0, h1, hE.blk h2⟩
  · exact ⟨hR.1.ext hE, hR.2.trans (hE.grew _)⟩
/-- Before the first append none has been done. -/
theorem tok_before {ops : Array Oper} {m : Nat} {gs L : List Nat} {i : Nat} (hg : (gs.all fun g => g == i || comesAfter ops m g i) = true) (hi : i ∉ L) (hL : ∀ j ∈ L, comesAfter ops m j i = false) : ∀ g ∈ gs, g ∉ L := by
  intro g hgs hgL
  have := List.all_eq_true.1 hg g hgs
  rw [hL g hgL] at this
  simp only [Bool.or_false, beq_iff_eq] at this
  exact hi (this ▸ hgL)
theorem TokG.ext {gs : List Nat} {w0 : World} {v : Value} {L : List Nat} {W W' : World} (h : TokG gs w0 v L W) (hx : Ext W W') (i : Nat) : TokG gs w0 v (L ++ [i]) W' :=
  ⟨h.1.then (hx.chg _), fun hn => (h.2 fun g hg hl => hn g hg (List.mem_append_left _ hl)).trans hx⟩
theorem TokG.grow {gs : List Nat} {w0 : World} {v : Value} {L : List Nat} {W W' : World} {u u' : Value} (h : Grew w0 v W u) (hg : Grew W u W' u') {i : Nat} (hi : i ∈ gs) : TokG gs w0 v (L ++ [i]) W' :=
  ⟨(h.trans hg).1, fun hn => absurd (by simp) (hn i hi)⟩

/-- append of tokens, as a step of such a region. -/
theorem gives_append_tok {ρ : Operand → Value} {W : World} {T : Value → World → Prop} {dst : Option Tmp} {ty : TypeId} {pos : String} {after : Array Edge} {guard : Option (Nat × Bool)}
    (s x : Operand) (base : Nat) (u : Value) (l ts : List Tok) (hs : ρ s = u) (hown : OwnT W base l u) (x0 : Nat) (hx : ρ x = .slice (some ⟨x0, 0, none⟩) ts.length ts.length) (hx0 : W.heap[x0]? = some (.cells (ts.flatMap tokCells).toArray 61 (0, 0)))
    (hm : 0 < ts.length) (hn : l.length + ts.length ≤ 100000000) (hbase : base ≤ W.heap.size)
    (h : ∀ u' w', OwnT w' base (l ++ ts) u' → Grew W u w' u' → T u' w') :
    GivesOp Tryd.prog { dst := dst, op := .call { callee := .builtin .append, args := #[s, x], argTypes := #[54, 54] }, type := ty, pos := pos, after := after, guard := guard } ρ W T := by
  refine gives_append elemTok _ _ base u l.length _ hs x0 ts.length ts.length (ts.flatMap tokCells) hx (length_flatMap_of tokCells 4 (fun _ => rfl) ts) ?_ hm hn (by omega) hown ?_ hbase ?_
  · intro q hq
    obtain ⟨t, _, ht⟩ := List.mem_flatMap.1 hq
    simp only [tokCells, List.mem_cons, List.not_mem_nil, or_false] at ht
    rcases ht with rfl | rfl | rfl | rfl <;> rfl
  · intro j hj
    rw [blk_cell hx0]
    simp
  · intro g cap w' ho hg hl _
    refine h _ _ ?_ ⟨grown_chg hg, fun k hk => ?_⟩
    · unfold OwnT
      rw [List.length_append, List.flatMap_append]
      exact ho
    · simp only [Value.ownBlock] at hk
      injection hk with hk
      subst hk
      rcases hl with hl | hl
      · exact Or.inl hl
      · exact Or.inr (by omega)

theorem tokMore_snoc (op : Int) (a : Ex) : (r : List Ex) → tokMore op (r ++ [a]) = tokMore op r ++ ([nameT (if op = 7 then wAnd else wOr)] ++ argT op a)
  | [] => by simp [tokMore_cons, tokMore]
  | b :: r => by
    have := tokMore_snoc op a r
    simp only [List.cons_append, tokMore_cons, this]
    simp
theorem tokArgs_snoc (op : Int) (a : Ex) (r : List Ex) : tokArgs op (r ++ [a]) = tokArgs op r ++ ((if r.length = 0 then [] else [nameT (if op = 7 then wAnd else wOr)]) ++ argT op a) := by
  cases r with
  | nil => simp [tokArgs_cons, tokArgs, tokMore]
  | cons b r => simp only [List.cons_append, tokArgs_cons, tokMore_snoc]; simp
theorem tokMore_take (op : Int) : (r : List Ex) → (k : Nat) → (tokMore op (r.take k)).length ≤ (tokMore op r).length
  | [], k => by simp
  | b :: r, 0 => by simp [tokMore]
  | b :: r, k + 1 => by have := tokMore_take op r k; simp only [List.take_succ_cons, tokMore_cons, List.length_cons, List.length_append]; omega
theorem tokArgs_take (op : Int) (r : List Ex) (k : Nat) : (tokArgs op (r.take k)).length ≤ (tokArgs op r).length := by
  cases r with
  | nil => simp
  | cons b r =>
    cases k with
    | zero => simp [tokArgs]
    | succ k => have := tokMore_take op r k; simp only [List.take_succ_cons, tokArgs_cons, List.length_append]; omega
theorem listedT_ge : (l : List ByteArray) → l.length ≤ (listedT l).length
  | [] => by simp [listedT]
  | [a] => by simp [listedT]
  | a :: b :: r => by have := listedT_ge (b :: r); simp only [listedT, List.length_cons] at this ⊢; omega
end Go.Proofs.YtaepiiediblleaaDoor

namespace Go.Proofs.YtaepiiediblleaaDoor
open Go.RowKit

/-- One token more. -/
theorem tokQ1 {base : Nat} {l L : List Tok} {v : Value} {w w0 w1 w2 : World} {v2 : Value} {t : Tok} (hL : L = [t]) (h0 : Ext w w0) (h1 : Ext w0 w1) (h2 : OwnT w2 base (l ++ [t]) v2) (h3 : Grew w1 v w2 v2) : TokQ base (l ++ L) v w (.returned v2) w2 := by subst hL; exact ⟨_, rfl, h2, ((h0.trans h1).grew v).trans h3⟩

set_option maxRecDepth 100000 in
set_option maxHeartbeats 1000000 in
theorem tokens_true (e : Ex) (l : List Tok) (v : Value) (base : Nat) (w : World) (ev : Value) (he : IsEx (mask w (rowOf v)) e ev) (ho : OwnT w base l v) (hb : base ≤ w.heap.size) (hl : l.length + (tokE e).length ≤ 10000) (hop : e.op = 1) :
    Calls Tryd.prog 31 #[v, ev] w (TokQ base (l ++ tokE e) v w) := by
  obtain ⟨aw, nw, cw, aa, na, ca, rfl, hw, hna, hca, ha, hx⟩ := he.parts
  have HE := Lib.hid (show tokE e = [nameT wTrue] by cases e; simp only [Ex.op] at hop; subst hop; simp [tokE])
  have hl1 : l.length ≤ 10000 := by omega
  have HO := Lib.hid (ho.ext ((Ext.refl w).alloc (.cells #[.int .i64 e.op, .string e.name, .slice aw nw cw, .int .i64 e.lo, .int .i64 e.hi, .slice aa na ca] 26)))
  have HX := Lib.hid ((Ext.refl w).alloc (.cells #[.int .i64 e.op, .string e.name, .slice aw nw cw, .int .i64 e.lo, .int .i64 e.hi, .slice aa na ca] 26))
  have t1 : (e.op == 1) = true := by simp [hop]
  clear hw hna hca ha hx he ho hl hop
  unfold exV
  go_enter Tryd.func31, Tryd.ntmps31
  go_wp2_with fail
  generalize w.alloc (.cells #[.int .i64 e.op, .string e.name, .slice aw nw cw, .int .i64 e.lo, .int .i64 e.hi, .slice aa na ca] 26) = wb at *
  refine (nameToken_calls _ _).mono ?_
  rintro r w1 ⟨rfl, hx1⟩
  have HX1 := Lib.hid hx1
  have HO1 := Lib.hid (HO.out.ext hx1)
  have hz1 := hx1.size
  have hz0 := HX.out.size
  clear hx1
  simp only [tokV, nameT]
  go_wp2_with (at_builtin; refine wpList_append_tok rfl _ _ rfl base _ _ [nameT wTrue] rfl HO1.out _ 1 1 rfl ?c0 ?c1 rfl ?c2 ?c3 ?c4 ?_)
  case c0 => rfl
  case c1 => rfl
  case c2 => omega
  case c3 => omega
  case c4 => omega
  intro v2 w2 hown2 hgrow2
  have HO2 := Lib.hid hown2
  have HG2 := Lib.hid hgrow2
  clear hown2 hgrow2
  go_wp2_with fail
  go_ret
  exact tokQ1 HE.out HX.out HX1.out HO2.out HG2.out

set_option maxRecDepth 100000 in
set_option maxHeartbeats 1000000 in
theorem tokens_false (e : Ex) (l : List Tok) (v : Value) (base : Nat) (w : World) (ev : Value) (he : IsEx (mask w (rowOf v)) e ev) (ho : OwnT w base l v) (hb : base ≤ w.heap.size) (hl : l.length + (tokE e).length ≤ 10000) (hop : e.op = 2) :
    Calls Tryd.prog 31 #[v, ev] w (TokQ base (l ++ tokE e) v w) := by
  obtain ⟨aw, nw, cw, aa, na, ca, rfl, hw, hna, hca, ha, hx⟩ := he.parts
  have HE := Lib.hid (show tokE e = [nameT wFalse] by cases e; simp only [Ex.op] at hop; subst hop; simp [tokE])
  have hl1 : l.length ≤ 10000 := by omega
  have HO := Lib.hid (ho.ext ((Ext.refl w).alloc (.cells #[.int .i64 e.op, .string e.name, .slice aw nw cw, .int .i64 e.lo, .int .i64 e.hi, .slice aa na ca] 26)))
  have HX := Lib.hid ((Ext.refl w).alloc (.cells #[.int .i64 e.op, .string e.name, .slice aw nw cw, .int .i64 e.lo, .int .i64 e.hi, .slice aa na ca] 26))
  have t1 : (e.op == 1) = false := by simp [hop]
  have t2 : (e.op == 2) = true := by simp [hop]
  clear hw hna hca ha hx he ho hl hop
  unfold exV
  go_enter Tryd.func31, Tryd.ntmps31
  go_wp2_with fail
  generalize w.alloc (.cells #[.int .i64 e.op, .string e.name, .slice aw nw cw, .int .i64 e.lo, .int .i64 e.hi, .slice aa na ca] 26) = wb at *
  refine (nameToken_calls _ _).mono ?_
  rintro r w1 ⟨rfl, hx1⟩
  have HX1 := Lib.hid hx1
  have HO1 := Lib.hid (HO.out.ext hx1)
  have hz1 := hx1.size
  have hz0 := HX.out.size
  clear hx1
  simp only [tokV, nameT]
  go_wp2_with (at_builtin; refine wpList_append_tok rfl _ _ rfl base _ _ [nameT wFalse] rfl HO1.out _ 1 1 rfl ?c0 ?c1 rfl ?c2 ?c3 ?c4 ?_)
  case c0 => rfl
  case c1 => rfl
  case c2 => omega
  case c3 => omega
  case c4 => omega
  intro v2 w2 hown2 hgrow2
  have HO2 := Lib.hid hown2
  have HG2 := Lib.hid hgrow2
  clear hown2 hgrow2
  go_wp2_with fail
  go_ret
  exact tokQ1 HE.out HX.out HX1.out HO2.out HG2.out

set_option maxRecDepth 100000 in
set_option maxHeartbeats 1000000 in
theorem tokens_name (e : Ex) (l : List Tok) (v : Value) (base : Nat) (w : World) (ev : Value) (he : IsEx (mask w (rowOf v)) e ev) (ho : OwnT w base l v) (hb : base ≤ w.heap.size) (hl : l.length + (tokE e).length ≤ 10000) (hop : e.op = 3) :
    Calls Tryd.prog 31 #[v, ev] w (TokQ base (l ++ tokE e) v w) := by
  obtain ⟨aw, nw, cw, aa, na, ca, rfl, hw, hna, hca, ha, hx⟩ := he.parts
  have HE := Lib.hid (show tokE e = [nameT e.name] by cases e; simp only [Ex.op] at hop; subst hop; simp [tokE, Ex.name])
  have hl1 : l.length ≤ 10000 := by omega
  have HO := Lib.hid (ho.ext ((Ext.refl w).alloc (.cells #[.int .i64 e.op, .string e.name, .slice aw nw cw, .int .i64 e.lo, .int .i64 e.hi, .slice aa na ca] 26)))
  have HX := Lib.hid ((Ext.refl w).alloc (.cells #[.int .i64 e.op, .string e.name, .slice aw nw cw, .int .i64 e.lo, .int .i64 e.hi, .slice aa na ca] 26))
  have t1 : (e.op == 1) = false := by simp [hop]
  have t2 : (e.op == 2) = false := by simp [hop]
  have t3 : (e.op == 3) = true := by simp [hop]
  clear hw hna hca ha hx he ho hl hop
  unfold exV
  go_enter Tryd.func31, Tryd.ntmps31
  go_wp2_with fail
  generalize w.alloc (.cells #[.int .i64 e.op, .string e.name, .slice aw nw cw, .int .i64 e.lo, .int .i64 e.hi, .slice aa na ca] 26) = wb at *
  refine (nameToken_calls _ _).mono ?_
  rintro r w1 ⟨rfl, hx1⟩
  have HX1 := Lib.hid hx1
  have HO1 := Lib.hid (HO.out.ext hx1)
  have hz1 := hx1.size
  have hz0 := HX.out.size
  clear hx1
  simp only [tokV, nameT]
  go_wp2_with (at_builtin; refine wpList_append_tok rfl _ _ rfl base _ _ [nameT e.name] rfl HO1.out _ 1 1 rfl ?c0 ?c1 rfl ?c2 ?c3 ?c4 ?_)
  case c0 => rfl
  case c1 => rfl
  case c2 => omega
  case c3 => omega
  case c4 => omega
  intro v2 w2 hown2 hgrow2
  have HO2 := Lib.hid hown2
  have HG2 := Lib.hid hgrow2
  clear hown2 hgrow2
  go_wp2_with fail
  go_ret
  exact tokQ1 HE.out HX.out HX1.out HO2.out HG2.out
end Go.Proofs.YtaepiiediblleaaDoor

namespace Go.Proofs.YtaepiiediblleaaDoor
open Go.RowKit

def fIn (v : Value) (be : Nat) (l : List Tok) (name : ByteArray) (words : List ByteArray) (aw : Option Addr) (nw cw : Nat) : Nat → What
  | 0 => .val v
  | 1 => .val (.pointer (some ⟨be, 1, none⟩))
  | 2 => .val (.string name)
  | 3 => .val (tokV (nameT name))
  | 4 => .val (tokV (nameT wIn))
  | 5 => .val (tokV (markT 40))
  | 6 => .blk [nameT name, nameT wIn, markT 40]
  | 7 => .own (l ++ [nameT name, nameT wIn, markT 40])
  | 8 => .val (.pointer (some ⟨be, 2, none⟩))
  | 9 => .val (.slice aw nw cw)
  | 10 => .own (l ++ [nameT name, nameT wIn, markT 40] ++ listedT words)
  | 11 => .val (tokV (markT 41))
  | 12 => .blk [markT 41]
  | 13 => .own (l ++ [nameT name, nameT wIn, markT 40] ++ listedT words ++ [markT 41])
  | _ => .val undef

set_option maxRecDepth 100000 in
set_option maxHeartbeats 2000000 in
theorem tokens_in (e : Ex) (l : List Tok) (v : Value) (base : Nat) (w : World) (ev : Value) (he : IsEx (mask w (rowOf v)) e ev) (ho : OwnT w base l v) (hb : base ≤ w.heap.size) (hl : l.length + (tokE e).length ≤ 10000) (hop : e.op = 4) :
    Calls Tryd.prog 31 #[v, ev] w (TokQ base (l ++ tokE e) v w) := by
  obtain ⟨aw, nw, cw, aa, na, ca, rfl, hw, hna, hca, ha, hx⟩ := he.parts
  have HE := Lib.hid (show tokE e = [nameT e.name, nameT wIn, markT 40] ++ listedT e.words ++ [markT 41] by cases e; simp only [Ex.op] at hop; subst hop; simp [tokE, Ex.name, Ex.words])
  have hl1 : l.length + 3 + (listedT e.words).length + 1 ≤ 10000 := by rw [HE.out] at hl; simp at hl; omega
  have hl2 := listedT_ge e.words
  have hl3 : nw ≤ 10000 := by have := hw.1; omega
  have HX := Lib.hid ((Ext.refl w).alloc (.cells #[.int .i64 e.op, .string e.name, .slice aw nw cw, .int .i64 e.lo, .int .i64 e.hi, .slice aa na ca] 26))
  have HW := Lib.hid (hw.mono (HX.out.grew v).sub)
  have HO := Lib.hid (ho.ext HX.out)
  have HBX := Lib.hid (alloc_new w (.cells #[.int .i64 e.op, .string e.name, .slice aw nw cw, .int .i64 e.lo, .int .i64 e.hi, .slice aa na ca] 26))
  have HNR := Lib.hid (show w.heap.size ∉ rowOf v from fun h => by have := (ho.lt h).2; omega)
  have t1 : (e.op == 1) = false := by simp [hop]
  have t2 : (e.op == 2) = false := by simp [hop]
  have t3 : (e.op == 3) = false := by simp [hop]
  have t4 : (e.op == 4) = true := by simp [hop]
  clear hw hna hca ha hx he ho hl hop
  unfold exV
  go_enter Tryd.func31, Tryd.ntmps31
  go_wp2_with fail
  generalize w.alloc (.cells #[.int .i64 e.op, .string e.name, .slice aw nw cw, .int .i64 e.lo, .int .i64 e.hi, .slice aa na ca] 26) = wb at *
  have hz0 := HX.out.size
  refine wp_region_growL (m := 14) [13] (TokG [7, 10, 13] wb v) (TokE [7, 10, 13]) (TokR base wb v (fIn v w.heap.size l e.name e.words aw nw cw)) (by kernel_rfl) (by kernel_rfl) ⟨(Chg.refl _ _).drew, fun _ => (Ext.refl wb).drew⟩ (tokR_keeps (by kernel_rfl)) ?_ ?_
  · intro i o hi ho L vs W hiL hnc hG hd ρ hρ
    have hi' : i = 0 ∨ i = 1 ∨ i = 2 ∨ i = 3 ∨ i = 4 ∨ i = 5 ∨ i = 6 ∨ i = 7 ∨ i = 8 ∨ i = 9 ∨ i = 10 ∨ i = 11 ∨ i = 12 ∨ i = 13 := by omega
    clear hi
    have o0 : ρ (.tmp 0) = v := hρ.out 0 rfl
    have o3 : ρ (.tmp 3) = .pointer (some ⟨w.heap.size, 0, none⟩) := hρ.out 3 rfl
    have i1 := hρ.ins 1 33 (by omega) rfl (Nat.le_of_ble_eq_true rfl)
    have i2 := hρ.ins 2 34 (by omega) rfl (Nat.le_of_ble_eq_true rfl)
    have i3 := hρ.ins 3 35 (by omega) rfl (Nat.le_of_ble_eq_true rfl)
    have i4 := hρ.ins 4 36 (by omega) rfl (Nat.le_of_ble_eq_true rfl)
    have i5 := hρ.ins 5 37 (by omega) rfl (Nat.le_of_ble_eq_true rfl)
    have i0 := hρ.ins 0 32 (by omega) rfl (Nat.le_of_ble_eq_true rfl)
    have i6 := hρ.ins 6 38 (by omega) rfl (Nat.le_of_ble_eq_true rfl)
    have i8 := hρ.ins 8 40 (by omega) rfl (Nat.le_of_ble_eq_true rfl)
    have i7 := hρ.ins 7 39 (by omega) rfl (Nat.le_of_ble_eq_true rfl)
    have i9 := hρ.ins 9 41 (by omega) rfl (Nat.le_of_ble_eq_true rfl)
    have i11 := hρ.ins 11 43 (by omega) rfl (Nat.le_of_ble_eq_true rfl)
    have i10 := hρ.ins 10 42 (by omega) rfl (Nat.le_of_ble_eq_true rfl)
    have i12 := hρ.ins 12 44 (by omega) rfl (Nat.le_of_ble_eq_true rfl)
    have hcs := hρ.const
    have hfn := hρ.func
    clear hρ
    have hbW := hG.1.blk HBX.out HNR.out
    obtain ⟨b0, b1, b2, b3, b4, b5, bf⟩ := blk6 hbW
    have hwz := hG.1.size
    have HG := Lib.hid hG
    clear hG hbW
    rcases hi' with rfl | rfl | rfl | rfl | rfl | rfl | rfl | rfl | rfl | rfl | rfl | rfl | rfl | rfl
    · cases ho
      unfold GivesOp
      go_simp
      exact ⟨Or.inr (Ext.refl _), HG.out.ext (Ext.refl _) _, rfl⟩
    · cases ho
      unfold GivesOp
      go_simp
      exact ⟨Or.inr (Ext.refl _), HG.out.ext (Ext.refl _) _, rfl⟩
    · cases ho
      have h1 : vs 1 = _ := hd ⟨1, .data⟩ (by simp) rfl
      rw [h1] at i1
      unfold GivesOp
      go_simp
      exact ⟨Or.inr (Ext.refl _), HG.out.ext (Ext.refl _) _, rfl⟩
    · cases ho
      have h1 : vs 2 = _ := hd ⟨2, .data⟩ (by simp) rfl
      rw [h1] at i2
      unfold GivesOp
      go_simp
      refine (nameToken_calls _ _).mono ?_
      rintro q W' ⟨rfl, hx⟩
      exact ⟨_, rfl, Or.inr hx, HG.out.ext hx _, rfl⟩
    · cases ho
      unfold GivesOp
      go_simp
      refine (nameToken_calls _ _).mono ?_
      rintro q W' ⟨rfl, hx⟩
      exact ⟨_, rfl, Or.inr hx, HG.out.ext hx _, rfl⟩
    · cases ho
      unfold GivesOp
      go_simp
      refine (markToken_calls _ _).mono ?_
      rintro q W' ⟨rfl, hx⟩
      exact ⟨_, rfl, Or.inr hx, HG.out.ext hx _, rfl⟩
    · cases ho
      have h3 : vs 3 = _ := hd ⟨3, .data⟩ (by simp) rfl
      have h4 : vs 4 = _ := hd ⟨4, .data⟩ (by simp) rfl
      have h5 : vs 5 = _ := hd ⟨5, .data⟩ (by simp) rfl
      rw [h3] at i3
      rw [h4] at i4
      rw [h5] at i5
      unfold tokV nameT at i3 i4
      unfold tokV markT at i5
      unfold GivesOp
      go_simp
      exact ⟨Or.inr ((Ext.refl _).alloc _), HG.out.ext ((Ext.refl _).alloc _) _, W.heap.size, rfl, alloc_new W _⟩
    · cases ho
      have h0 : vs 0 = _ := hd ⟨0, .data⟩ (by simp) rfl
      obtain ⟨x0, h6, hx0⟩ := hd ⟨6, .data⟩ (by simp) rfl
      rw [h0] at i0
      rw [h6] at i6
      have hxW := HG.out.2 (tok_before (by decide +kernel) hiL hnc)
      refine gives_append_tok _ _ base v l _ i0 (HO.out.ext hxW) x0 i6 hx0 (by simp) (by simp; omega) (by omega) ?_
      intro u' w' ho' hg'
      exact ⟨Or.inl (by simp), TokG.grow (hxW.grew v) hg' (by simp), ho', (hxW.grew v).trans hg'⟩
    · cases ho
      unfold GivesOp
      go_simp
      exact ⟨Or.inr (Ext.refl _), HG.out.ext (Ext.refl _) _, rfl⟩
    · cases ho
      have h1 : vs 8 = _ := hd ⟨8, .data⟩ (by simp) rfl
      rw [h1] at i8
      unfold GivesOp
      go_simp
      exact ⟨Or.inr (Ext.refl _), HG.out.ext (Ext.refl _) _, rfl⟩
    · cases ho
      obtain ⟨ho7, hg7⟩ := hd ⟨7, .data⟩ (by simp) rfl
      have h9 : vs 9 = _ := hd ⟨9, .data⟩ (by simp) rfl
      rw [h9] at i9
      have HO7 := Lib.hid ho7
      have HG7 := Lib.hid hg7
      clear ho7 hg7
      generalize vs 7 = u7 at *
      unfold GivesOp
      go_simp
      refine (listed_calls e.words _ u7 base aw nw cw W HO7.out (HW.out.mono HG7.out.sub) (by omega) (by simp; omega) (by omega)).mono ?_
      rintro q W' ⟨u', rfl, ho', hg'⟩
      exact ⟨_, rfl, Or.inl (by simp), TokG.grow HG7.out hg' (by simp), ho', HG7.out.trans hg'⟩
    · cases ho
      unfold GivesOp
      go_simp
      refine (markToken_calls _ _).mono ?_
      rintro q W' ⟨rfl, hx⟩
      exact ⟨_, rfl, Or.inr hx, HG.out.ext hx _, rfl⟩
    · cases ho
      have h3 : vs 11 = _ := hd ⟨11, .data⟩ (by simp) rfl
      rw [h3] at i11
      unfold tokV markT at i11
      unfold GivesOp
      go_simp
      exact ⟨Or.inr ((Ext.refl _).alloc _), HG.out.ext ((Ext.refl _).alloc _) _, W.heap.size, rfl, alloc_new W _⟩
    · cases ho
      obtain ⟨ho7, hg7⟩ := hd ⟨10, .data⟩ (by simp) rfl
      obtain ⟨x0, h6, hx0⟩ := hd ⟨12, .data⟩ (by simp) rfl
      rw [h6] at i12
      refine gives_append_tok _ _ base (vs 10) _ _ i10 ho7 x0 i12 hx0 (by simp) (by simp; omega) (by omega) ?_
      intro u' w' ho' hg'
      exact ⟨Or.inl (by simp), TokG.grow hg7 hg' (by simp), ho', hg7.trans hg'⟩
  · intro L vs W _ hG hR
    rw [if_neg (by decide +kernel)]
    obtain ⟨ho', hg'⟩ := hR 13 (by simp) (by omega)
    have HO2 := Lib.hid ho'
    have HG2 := Lib.hid hg'
    clear hG hR ho' hg'
    unfold wpOp
    simp only [acts, dstAt, List.range, List.range.loop, List.foldl_cons, List.foldl_nil]
    go_simp
    refine Or.inl ?_
    go_wp2_with fail
    go_ret
    exact ⟨_, rfl, by rw [HE.out]; simpa using HO2.out, (HX.out.grew v).trans HG2.out⟩
end Go.Proofs.YtaepiiediblleaaDoor
