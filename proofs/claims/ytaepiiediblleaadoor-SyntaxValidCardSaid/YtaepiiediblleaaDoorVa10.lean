/-
  Texts of the claim, joined: Ref4, Grow, Grow2, RefSame.
-/
import Derived.Test.YtaepiiediblleaaDoorVa09
import Derived.Test.YtaepiiediblleaaDoorVa01
import Derived.Orders
import Derived.Test.YtaepiiediblleaaDoorVa07
import Derived.BigFrame
import Derived.Deep.AppendLies
namespace Go.Proofs.YtaepiiediblleaaDoor
open Go.RowKit

mutual
def nodesB : Ex → Bool
  | .mk op name words lo hi args => refNodeB (.mk op name words lo hi args) && nodesAll args
def nodesAll : List Ex → Bool
  | [] => true
  | e :: r => nodesB e && nodesAll r
end
theorem nodesB_eq (e : Ex) : nodesB e = (refNodeB e && nodesAll e.args) := by cases e; rw [nodesB]; rfl
theorem nodesAll_iff (l : List Ex) : nodesAll l = true ↔ ∀ j (h : j < l.length), nodesB l[j] = true := by
  induction l with
  | nil => simp [nodesAll]
  | cons e r ih =>
    rw [nodesAll, Bool.and_eq_true, ih]
    constructor
    · rintro ⟨h1, h2⟩ j hj
      cases j with
      | zero => exact h1
      | succ j => exact h2 j (by simpa using hj)
    · intro h
      exact ⟨h 0 (by simp), fun j hj => h (j + 1) (by simpa using hj)⟩
mutual
def Ex.few : Ex → Prop
  | .mk _ _ words _ _ args => words.length ≤ 1000000000000000 ∧ fewAll args
def fewAll : List Ex → Prop
  | [] => True
  | e :: r => e.few ∧ fewAll r
end
theorem fewAll_at : (l : List Ex) → fewAll l → (k : Nat) → (hk : k < l.length) → l[k].few
  | [], _, k, hk => by simp at hk
  | e :: r, h, 0, _ => by unfold fewAll at h; exact h.1
  | e :: r, h, k + 1, hk => by unfold fewAll at h; simpa using fewAll_at r h.2 k (by simpa using hk)
theorem few_parts {e : Ex} (h : e.few) : e.words.length ≤ 1000000000000000 ∧ fewAll e.args := by
  cases e; unfold Ex.few at h; exact h

set_option maxRecDepth 100000 in
set_option maxHeartbeats 1000000 in
theorem nodes_calls (m : Nat) : ∀ (e : Ex) (v : Value) (w : World), e.size ≤ m → m ≤ 1000000000000000 → e.fits → e.few → IsEx w e v → Calls Tryd.prog 37 #[v] w (GivesE (.bool (nodesB e)) w) := by
  induction m with
  | zero => intro e v w h; have := size_pos e; omega
  | succ m ih =>
    intro e v w hm hMM hf hw2 he
    have HE := Lib.hid he
    obtain ⟨aw, nw, cw, aa, na, ca, rfl, hw, hna, hca, ha, hx⟩ := he.parts
    have HX := Lib.hid hx
    have HN := Lib.hid hna
    have HF := Lib.hid (fits_parts hf)
    have HW := Lib.hid (few_parts hw2)
    have hS : e.size = 1 + sizes e.args := e.size_eq
    have hb2 : sizes e.args ≤ m := by omega
    have hla := length_le_sizes e.args
    have H : Hid (∀ (e : Ex) (v : Value) (w : World), e.size ≤ m → e.fits → e.few → IsEx w e v → Calls Tryd.prog 37 #[v] w (GivesE (.bool (nodesB e)) w)) := fun e v w h1 h2 h3 h4 => ih e v w h1 (by omega) h2 h3 h4
    have HQ := Lib.hid (nodesB_eq e)
    generalize nodesB e = B at *
    clear ih hx hna hw hca ha he hS hm hf hw2
    have HNC := Lib.hid (rnode_calls e _ (w.alloc (.cells #[.int .i64 e.op, .string e.name, .slice aw nw cw, .int .i64 e.lo, .int .i64 e.hi, .slice aa na ca] 26)) (HE.out.ext ((Ext.refl w).alloc _)) HF.out.1 HF.out.2.1 HW.out.1)
    unfold exV at *
    cases hnode : refNodeB e
    · have HND := Lib.hid hnode
      have H1 := Lib.hid (show B = false by rw [HQ.out, hnode]; rfl)
      clear hnode
      go_enter Tryd.func37, Tryd.ntmps37
      go_wp2_with fail
      refine HNC.out.mono ?_
      rintro r w1 ⟨rfl, hx1⟩
      rw [HND.out]
      have HX1 := Lib.hid (((Ext.refl w).alloc _).trans hx1)
      clear hx1
      go_wp2_with fail
      go_ret
      exact givesE_bool (by rw [H1.out]) HX1.out
    · have HND := Lib.hid hnode
      have HQ2 := Lib.hid (show B = nodesAll e.args by rw [HQ.out, hnode]; rfl)
      clear hnode
      go_enter Tryd.func37, Tryd.ntmps37
      go_wp2_with fail
      refine HNC.out.mono ?_
      rintro r w1 ⟨rfl, hx1⟩
      rw [HND.out]
      have HBX1 := Lib.hid (hx1.blk (alloc_new w _))
      have HX1 := Lib.hid (((Ext.refl w).alloc _).trans hx1)
      clear hx1
      go_wp2_with fail
      go_loopw [3] (fun i wr => ∃ k : Nat, k ≤ na ∧ i = .int .i64 k ∧ (∀ j (hj : j < e.args.length), j < k → nodesB e.args[j] = true) ∧ wr.heap[w.heap.size]? = some (.cells #[.int .i64 e.op, .string e.name, .slice aw nw cw, .int .i64 e.lo, .int .i64 e.hi, .slice aa na ca] 26 (0, 0)) ∧ Ext w wr) (fun i _ => na - (intOf i).toNat)
      case atStart => exact ⟨0, by omega, rfl, fun j _ h => by omega, HBX1.out, HX1.out⟩
      case round =>
        obtain ⟨k, hk, rfl, hall, hbx, hb⟩ := hrel
        have HA := Lib.hid hall
        have HBX := Lib.hid hbx
        have HB := Lib.hid hb
        have hlt0 := blk_lt hbx
        obtain ⟨b0, b1, b2, b3, b4, b5, bf⟩ := blk6 hbx
        clear hbx hb hall
        by_cases hlt : k < na
        · have hlt' : k < e.args.length := by have := HN.out; omega
          obtain ⟨b, off, rfl, aw1, nw1, cw1, aa1, na1, ca1, h0, h1, h2, h3, h4, h5, h6⟩ := ExsD.at e.args _ (ExsD.ext HB.out e.args _ HX.out) k hlt'
          have H6 := Lib.hid h6
          have hsz := sizes_take_succ e.args k hlt'
          have hsl := sizes_take_le e.args (k + 1)
          have hk1 : e.args[k].size ≤ m := by omega
          clear h6 hsz hsl
          go_wp2_with fail
          refine (H.out e.args[k] _ _ hk1 (fitsAll_at _ HF.out.2.2 k hlt') (fewAll_at _ HW.out.2 k hlt') H6.out).mono ?_
          rintro r w2 ⟨rfl, hb1⟩
          have HE1 := Lib.hid hb1
          clear b0 b1 b2 b3 b4 b5 bf hb1
          cases hdp : nodesB e.args[k]
          · have H1 := Lib.hid (show B = false by
              rw [HQ2.out]
              cases hz : nodesAll e.args
              · rfl
              · have := (nodesAll_iff _).1 hz k hlt'; rw [hdp] at this; cases this)
            clear hdp
            go_wp2_with fail
            go_ret
            exact givesE_bool (by rw [H1.out]) (HB.out.trans HE1.out)
          · have HND2 := Lib.hid hdp
            clear hdp
            go_wp2_with fail
            go_roundw
            case rel =>
              refine ⟨k + 1, by omega, by go_num, fun j hj hjk => ?_, HE1.out.blk HBX.out, HB.out.trans HE1.out⟩
              by_cases ej : j = k
              · subst ej; exact HND2.out
              · exact HA.out j hj (by omega)
            case measure => simp [intOf]; omega
        · have H1 := Lib.hid (show B = true by rw [HQ2.out]; exact (nodesAll_iff _).2 (fun j hj => HA.out j hj (by have := HN.out; omega)))
          go_wp2_with fail
          go_ret
          exact givesE_bool (by rw [H1.out]) HB.out

def refExprB (e : Ex) : Bool := !decide (16 < e.depth) && decide (refSize e ≤ 300) && nodesB e
set_option maxRecDepth 100000 in
theorem rexpr_calls (e : Ex) (v : Value) (w : World) (he : IsEx w e v) (hsz : e.size ≤ 1000000000000000) (hf : e.fits) (hw : e.few) : Calls Tryd.prog 20 #[v] w (GivesE (.bool (refExprB e)) w) := by
  have HE := Lib.hid he
  have HF := Lib.hid hf
  have HW := Lib.hid hw
  have HQ := Lib.hid (show refExprB e = (!decide (16 < e.depth) && decide (refSize e ≤ 300) && nodesB e) from rfl)
  generalize refExprB e = B at *
  obtain ⟨aw, nw, cw, aa, na, ca, rfl, -⟩ := he.parts
  clear he hf hw
  have HA := Lib.hid (fun W (h : Ext (w.alloc (.cells #[.int .i64 e.op, .string e.name, .slice aw nw cw, .int .i64 e.lo, .int .i64 e.hi, .slice aa na ca] 26)) W) => ((Ext.refl w).alloc _).trans h)
  have HNB := Lib.hid (alloc_new w (.cells #[.int .i64 e.op, .string e.name, .slice aw nw cw, .int .i64 e.lo, .int .i64 e.hi, .slice aa na ca] 26))
  unfold exV at *
  go_enter Tryd.func20, Tryd.ntmps20
  go_wp2_with fail
  refine (deeper_calls e.size e _ _ 16 (Nat.le_refl _) hsz (by omega) (HE.out.ext ((Ext.refl w).alloc _))).mono ?_
  rintro r w1 ⟨rfl, hx1⟩
  have HX1 := Lib.hid (HA.out _ hx1)
  have hb1 := hx1.blk HNB.out
  have HB1 := Lib.hid hb1
  have hz1 := blk_lt hb1
  obtain ⟨b0, b1, b2, b3, b4, b5, bf⟩ := blk6 hb1
  clear hx1 hb1 HA
  by_cases hd : 16 < e.depth
  · rw [decide_eq_true hd]
    have H1 := Lib.hid (show B = false by rw [HQ.out]; simp [hd])
    clear hd
    go_wp2_with fail
    go_ret
    exact givesE_bool (by rw [H1.out]) HX1.out
  · rw [decide_eq_false hd]
    have HD := Lib.hid hd
    clear hd
    go_wp2_with fail
    refine (rsize_calls e.size e _ _ (Nat.le_refl _) (HE.out.ext HX1.out)).mono ?_
    rintro r w2 ⟨rfl, hx2⟩
    have HX2 := Lib.hid (HX1.out.trans hx2)
    have hb2 := hx2.blk HB1.out
    have hz2 := blk_lt hb2
    clear b0 b1 b2 b3 b4 b5 bf hx2
    obtain ⟨b0, b1, b2, b3, b4, b5, bf⟩ := blk6 hb2
    clear hb2
    by_cases hs : refSize e ≤ 300
    · have t1 : decide ((refSize e : Int) ≤ 300) = true := by simp; omega
      have HS := Lib.hid hs
      clear hs
      go_wp2_with fail
      refine (nodes_calls e.size e _ _ (Nat.le_refl _) hsz HF.out HW.out (HE.out.ext HX2.out)).mono ?_
      rintro r w3 ⟨rfl, hx3⟩
      have HX3 := Lib.hid (HX2.out.trans hx3)
      clear b0 b1 b2 b3 b4 b5 bf hx3
      go_wp2_with fail
      go_ret
      exact givesE_bool (by rw [HQ.out]; simp [HD.out, HS.out]) HX3.out
    · have t1 : decide ((refSize e : Int) ≤ 300) = false := by simp; omega
      have H1 := Lib.hid (show B = false by rw [HQ.out]; simp [hs])
      clear hs
      go_wp2_with fail
      go_ret
      exact givesE_bool (by rw [H1.out]) HX2.out
end Go.Proofs.YtaepiiediblleaaDoor

namespace Go.Proofs.YtaepiiediblleaaDoor
open Go.RowKit

/-- The slot into which operation j writes. -/
def dstAt (ops : Array Oper) (j : Nat) : Option Tmp := (ops[j]?).bind (·.dst)
/-- The frame after the operations of L, with the values vs. -/
def acts (ops : Array Oper) (a : Act) (vs : Nat → Value) (L : List Nat) : Act := L.foldl (fun b j => b.put (dstAt ops j) (vs j)) a

theorem acts_snoc (ops : Array Oper) (a : Act) (vs : Nat → Value) (L : List Nat) (i : Nat) : acts ops a vs (L ++ [i]) = (acts ops a vs L).put (dstAt ops i) (vs i) := by simp [acts]
theorem acts_congr {ops : Array Oper} {a : Act} {vs vs' : Nat → Value} {L : List Nat} (h : ∀ j ∈ L, vs j = vs' j) : acts ops a vs L = acts ops a vs' L := by
  unfold acts
  induction L generalizing a with
  | nil => rfl
  | cons x r ih => simp only [List.foldl_cons, h x (by simp)]; exact ih (fun j hj => h j (List.mem_cons_of_mem _ hj))
theorem put_size (a : Act) (d : Option Tmp) (v : Value) : (a.put d v).tmps.size = a.tmps.size := by cases d <;> simp [Act.put]
theorem acts_size (ops : Array Oper) (a : Act) (vs : Nat → Value) (L : List Nat) : (acts ops a vs L).tmps.size = a.tmps.size := by
  unfold acts
  induction L generalizing a with
  | nil => rfl
  | cons x r ih => rw [List.foldl_cons, ih, put_size]

/-- All slots are written once. -/
def DstApart (ops : Array Oper) : Prop := ∀ i j d, dstAt ops i = some d → dstAt ops j = some d → i = j

theorem put_eval_same (a : Act) (t : Tmp) (v : Value) : (a.put (some t) v).eval (.tmp t) = if t < a.tmps.size then v else undef := by
  by_cases h : t < a.tmps.size
  · rw [if_pos h]; simp [Act.put, Act.eval, h]
  · rw [if_neg h]
    simp only [Act.put, Act.eval]
    rw [Array.setIfInBounds_eq_of_size_le (Nat.le_of_not_lt h)]
    simp
    rw [Array.getElem?_eq_none (Nat.le_of_not_lt h)]; rfl
theorem acts_eval_in {ops : Array Oper} (hd : DstApart ops) {a : Act} {vs : Nat → Value} {L : List Nat} {t : Tmp} {j : Nat} (hj : j ∈ L) (ht : dstAt ops j = some t) : (acts ops a vs L).eval (.tmp t) = if t < a.tmps.size then vs j else undef := by
  induction L generalizing a with
  | nil => simp at hj
  | cons x r ih =>
    simp only [acts, List.foldl_cons]
    by_cases hjr : j ∈ r
    · have := ih (a := a.put (dstAt ops x) (vs x)) hjr
      rw [put_size] at this
      exact this
    · obtain rfl : j = x := by rcases List.mem_cons.1 hj with h | h; exact h; exact absurd h hjr
      have : ∀ (b : Act), (acts ops b vs r).eval (.tmp t) = b.eval (.tmp t) := by
        clear ih hj
        induction r with
        | nil => intro b; rfl
        | cons y s ih =>
          intro b
          simp only [acts, List.foldl_cons]
          have h1 := ih (fun h => hjr (List.mem_cons_of_mem _ h)) (b.put (dstAt ops y) (vs y))
          simp only [acts] at h1
          rw [h1]
          exact Act.eval_put (fun d hd' e => by
            injection e with e
            subst e
            exact hjr (by rw [hd _ _ _ ht hd']; simp))
      have h2 := this (a.put (dstAt ops j) (vs j))
      simp only [acts] at h2
      rw [h2, ht, put_eval_same]
theorem acts_eval_out {ops : Array Oper} {a : Act} {vs : Nat → Value} {L : List Nat} {t : Tmp} (ht : ∀ j ∈ L, dstAt ops j ≠ some t) : (acts ops a vs L).eval (.tmp t) = a.eval (.tmp t) := by
  induction L generalizing a with
  | nil => rfl
  | cons x r ih =>
    simp only [acts, List.foldl_cons]
    have := ih (a := a.put (dstAt ops x) (vs x)) (fun j hj => ht j (List.mem_cons_of_mem _ hj))
    simp only [acts] at this
    rw [this]
    exact Act.eval_put (fun d hd' e => by injection e with e; subst e; exact ht x (by simp) hd')
theorem acts_perm {ops : Array Oper} (hd : DstApart ops) {a : Act} {vs : Nat → Value} {L L' : List Nat} (h : L.Perm L') : acts ops a vs L = acts ops a vs L' := by
  refine List.Perm.foldl_eq' h (fun x _ y _ z => ?_) a
  by_cases hxy : x = y
  · subst hxy; rfl
  · exact Act.put_comm _ _ _ (fun d hx hy => hxy (hd _ _ _ hx hy))

/-- An edge by which a value goes. -/
def isData (e : Edge) : Bool := match e.ground with | .data => true | _ => false
/-- What is asked of the operations below m: no guard, no select; they look at slots of operations alone that come before them; the m-th (if there is one) comes last. -/
def okGrow (ops : Array Oper) (m : Nat) : Bool :=
  Region.noSelect ops && decide (m ≤ ops.size) && decide (ops.size ≤ m + 1) &&
  ((List.range ops.size).all fun i => (List.range ops.size).all fun j => i == j || dstAt ops i == none || dstAt ops i != dstAt ops j) &&
  ((List.range ops.size).all fun i => match ops[i]? with
    | none => false
    | some o => (o.guard == none || i == m) && (o.after.all fun e => (!Region.binds .any e || decide (e.on < i)) && (!isData e || Region.binds .any e)) &&
      ((List.range m).all fun j => match dstAt ops j with
        | none => true
        | some t => !(o.looksAt ops).contains t || (i == m) || o.after.any (fun e => Region.binds .any e && e.on == j)) &&
      (i != m || (List.range m).all fun j => o.after.any (fun e => Region.binds .any e && e.on == j)))

theorem okGrow_spec {ops : Array Oper} {m : Nat} (h : okGrow ops m = true) : Region.noSelect ops = true ∧ m ≤ ops.size ∧ ops.size ≤ m + 1 ∧ DstApart ops ∧
    (∀ i o, ops[i]? = some o → (i < m → o.guard = none) ∧ (∀ e ∈ o.after, (Region.binds .any e = true → e.on < i) ∧ (isData e = true → Region.binds .any e = true)) ∧ (i < m → ∀ j t, j < m → dstAt ops j = some t → t ∈ o.looksAt ops → ∃ e ∈ o.after, Region.binds .any e = true ∧ e.on = j) ∧
      (i = m → ∀ j, j < m → ∃ e ∈ o.after, Region.binds .any e = true ∧ e.on = j)) := by
  simp only [okGrow, Bool.and_eq_true, decide_eq_true_eq] at h
  obtain ⟨⟨⟨⟨h1, h2⟩, h3⟩, h4⟩, h5⟩ := h
  refine ⟨h1, h2, h3, ?_, ?_⟩
  · intro i j d hi hj
    have li : i < ops.size := by
      unfold dstAt at hi
      rcases Nat.lt_or_ge i ops.size with h | h
      · exact h
      · rw [Array.getElem?_eq_none h] at hi; simp at hi
    have lj : j < ops.size := by
      unfold dstAt at hj
      rcases Nat.lt_or_ge j ops.size with h | h
      · exact h
      · rw [Array.getElem?_eq_none h] at hj; simp at hj
    have := List.all_eq_true.1 (List.all_eq_true.1 h4 i (by simpa using li)) j (by simpa using lj)
    simpa [hi, hj] using this
  · intro i o ho
    have li : i < ops.size := (Array.getElem?_eq_some_iff.1 ho).1
    have h6 := List.all_eq_true.1 h5 i (by simpa using li)
    simp only [ho, Bool.and_eq_true] at h6
    obtain ⟨⟨⟨g1, g2⟩, g3⟩, g4⟩ := h6
    refine ⟨fun hm => ?_, fun e he => ?_, fun hm j t hjm hj ht => ?_, fun hm j hj => ?_⟩
    · rcases Bool.or_eq_true_iff.1 g1 with g | g
      · simpa using g
      · have : i = m := by simpa using g
        omega
    · have := Array.all_eq_true_iff_forall_mem.1 g2 e he
      simp only [Bool.and_eq_true, Bool.or_eq_true, Bool.not_eq_true', decide_eq_true_eq] at this
      refine ⟨fun hb => ?_, fun hb => ?_⟩
      · rcases this.1 with h | h
        · rw [hb] at h; cases h
        · exact h
      · rcases this.2 with h | h
        · rw [hb] at h; cases h
        · exact h
    · have := List.all_eq_true.1 g3 j (by simpa using hjm)
      rw [hj] at this
      simp only [Bool.or_eq_true, Bool.not_eq_true'] at this
      rcases this with (h | h) | h
      · rw [List.contains_iff_mem.2 ht] at h; cases h
      · have : i = m := by simpa using h
        omega
      · obtain ⟨e, he, hb⟩ := Array.any_eq_true'.1 h
        simp only [Bool.and_eq_true, beq_iff_eq] at hb
        exact ⟨e, he, hb.1, hb.2⟩
    · subst hm
      rcases Bool.or_eq_true_iff.1 g4 with g | g
      · simp at g
      · have := List.all_eq_true.1 g j (by simpa using hj)
        obtain ⟨e, he, hb⟩ := Array.any_eq_true'.1 this
        simp only [Bool.and_eq_true, beq_iff_eq] at hb
        exact ⟨e, he, hb.1, hb.2⟩

/-- A step of an operation whose operands have the values ρ: a value and a world that are as said. -/
def GivesOp (P : Program) (o : Oper) (ρ : Operand → Value) (W : World) (T : Value → World → Prop) : Prop := match (execOp ρ o).run P W with
  | .ok (.value v) W' => T v W'
  | .ok .skip W' => T undef W'
  | .ok (.enter f args) W' => Calls P f args W' (fun e W'' => ∃ v, e = .returned v ∧ T v W'')
  | _ => False
theorem GivesOp.wp {P : Program} {o : Oper} {ρ : Operand → Value} {a' : Act} {W : World} {T : Value → World → Prop} {Q : Exit → Act → World → Prop} (h : GivesOp P o ρ W T) (he : execOp a'.eval o = execOp ρ o) :
    o.wp P a' W (fun a'' W' => ∃ v, a'' = a'.put o.dst v ∧ T v W') Q := by
  unfold GivesOp at h
  unfold Oper.wp
  rw [he]
  generalize (execOp ρ o).run P W = r at *
  cases r with
  | ok n w' =>
    cases n <;> simp only at h <;> simp only [Oper.upon]
    case value v => exact ⟨v, rfl, h⟩
    case skip => exact ⟨undef, rfl, h⟩
    case enter f args =>
      refine Calls.mono h (fun e w'' he => ?_)
      obtain ⟨v, rfl, ht⟩ := he
      exact ⟨v, rfl, ht⟩
  | halt x w' => simp only at h
/-- What the operations of a region see: what those before them left, else the frame. -/
structure Sees (ops : Array Oper) (a : Act) (m : Nat) (vs : Nat → Value) (ρ : Operand → Value) : Prop where
  ins : ∀ j t, j < m → dstAt ops j = some t → t < a.tmps.size → ρ (.tmp t) = vs j
  out : ∀ t, ((List.range m).all fun j => dstAt ops j != some t) = true → ρ (.tmp t) = a.eval (.tmp t)
  const : ∀ c, ρ (.const c) = c
  glob : ∀ g, ρ (.global g) = .pointer (some ⟨g, 0, none⟩)
  func : ∀ f, ρ (.func f) = .func (.func f) #[] #[]
theorem sees_acts {ops : Array Oper} (hd : DstApart ops) (a : Act) (m : Nat) (vs : Nat → Value) : Sees ops a m vs (acts ops a vs (List.range m)).eval where
  ins := fun j t hj ht hs => by rw [acts_eval_in hd (by simpa using hj) ht, if_pos hs]
  out := fun t ht => acts_eval_out (fun j hj => by have := List.all_eq_true.1 ht j hj; simpa using this)
  const := fun _ => rfl
  glob := fun _ => rfl
  func := fun _ => rfl

def upd (vs : Nat → Value) (i : Nat) (v : Value) : Nat → Value := fun j => if j = i then v else vs j

/-- Operation k comes before operation i. -/
def comesAfter (ops : Array Oper) : Nat → Nat → Nat → Bool
  | 0, _, _ => false
  | f + 1, i, k => match ops[i]? with
    | none => false
    | some o => o.after.any fun e => Region.binds .any e && (e.on == k || comesAfter ops f e.on k)
theorem comesAfter_mem {ops : Array Oper} {L : List Nat} (hcl : ∀ i ∈ L, ∀ o, ops[i]? = some o → ∀ e ∈ o.after, Region.binds .any e = true → e.on ∈ L) : ∀ (f i k : Nat), i ∈ L → comesAfter ops f i k = true → k ∈ L := by
  intro f
  induction f with
  | zero => intro i k _ h; simp [comesAfter] at h
  | succ f ih =>
    intro i k hi h
    rw [comesAfter] at h
    cases ho : ops[i]? with
    | none => rw [ho] at h; cases h
    | some o =>
      rw [ho] at h
      obtain ⟨e, he, hb⟩ := Array.any_eq_true'.1 h
      simp only [Bool.and_eq_true, Bool.or_eq_true, beq_iff_eq] at hb
      have hm := hcl i hi o ho e he hb.1
      rcases hb.2 with h1 | h1
      · rw [← h1]; exact hm
      · exact ih e.on k hm h1
/-- What comes before an operation whose direct forerunners are done is done. -/
theorem comesAfter_ready {ops : Array Oper} {L : List Nat} (hcl : ∀ i ∈ L, ∀ o, ops[i]? = some o → ∀ e ∈ o.after, Region.binds .any e = true → e.on ∈ L) {i : Nat} {o : Oper} (ho : ops[i]? = some o) (hd : ∀ e ∈ o.after, Region.binds .any e = true → e.on ∈ L) : ∀ (f k : Nat), comesAfter ops f i k = true → k ∈ L := by
  intro f k h
  cases f with
  | zero => simp [comesAfter] at h
  | succ f =>
    rw [comesAfter, ho] at h
    obtain ⟨e, he, hb⟩ := Array.any_eq_true'.1 h
    simp only [Bool.and_eq_true, Bool.or_eq_true, beq_iff_eq] at hb
    have hm := hd e he hb.1
    rcases hb.2 with h1 | h1
    · rw [← h1]; exact hm
    · exact comesAfter_mem hcl f e.on k hm h1
/-- Operation c looks at what operation i left. -/
def looksTo (ops : Array Oper) (c i : Nat) : Bool := match ops[c]? with | none => false | some o => o.after.any fun e => isData e && e.on == i
/-- What operation i left must outlast operation k. -/
def outlasts (ops : Array Oper) (m : Nat) (Kp : List Nat) (i k : Nat) : Bool := !comesAfter ops m i k && (Kp.contains i || (List.range m).any fun c => c != k && !comesAfter ops m k c && looksTo ops c i)

section
variable {P : Program} {ops : Array Oper} {Q : Exit → Act → World → Prop} {a : Act} {m : Nat} (Kp : List Nat) (G : List Nat → World → Prop) (E : Nat → World → World → Prop) (R : Nat → Value → World → Prop)

theorem wpAny_grow (hok : okGrow ops m = true) (hRE : ∀ i k v W W', i < m → k < m → i ≠ k → outlasts ops m Kp i k = true → R i v W → E k W W' → R i v W')
    (hstep : ∀ i o, i < m → ops[i]? = some o → ∀ L vs W, i ∉ L → (∀ j ∈ L, comesAfter ops m j i = false) → G L W → (∀ e ∈ o.after, isData e = true → R e.on (vs e.on) W) → ∀ ρ, Sees ops a m vs ρ → GivesOp P o ρ W (fun v W' => E i W W' ∧ G (L ++ [i]) W' ∧ R i v W'))
    (hend : ∀ L vs W, (∀ j, j < m → j ∈ L) → G L W → (∀ j ∈ Kp, j < m → R j (vs j) W) → if m = ops.size then Q .normal (acts ops a vs (List.range m)) W else wpOp P ops Q m (fun a w => Q .normal a w) (acts ops a vs (List.range m)) W) :
    ∀ (fuel : Nat) (L : List Nat) (vs : Nat → Value) (W : World) (listed : Array Bool), listed.size = ops.size → (∀ j, j < ops.size → (listed.getD j true = true ↔ j ∈ L)) → L.Nodup → (∀ j ∈ L, j < m) → ((List.range ops.size).filter (fun j => !L.contains j)).length ≤ fuel → G L W → (∀ i ∈ L, ∀ o, ops[i]? = some o → ∀ e ∈ o.after, Region.binds .any e = true → e.on ∈ L) → (∀ j ∈ L, (j ∈ Kp ∨ ∃ c, c < m ∧ c ∉ L ∧ looksTo ops c j = true) → R j (vs j) W) →
      wpAny P .any ops Q fuel listed (acts ops a vs L) W := by
  obtain ⟨hns, hm1, hm2, hda, hspec⟩ := okGrow_spec hok
  have hperm : ∀ L : List Nat, L.Nodup → (∀ j ∈ L, j < m) → (∀ j, j < m → j ∈ L) → L.Perm (List.range m) := fun L h1 h2 h3 =>
    (List.perm_ext_iff_of_nodup h1 List.nodup_range).2 (fun j => ⟨fun h => by simpa using h2 j h, fun h => h3 j (by simpa using h)⟩)
  -- all below m are listed if none of them is ready
  have hall : ∀ (L : List Nat) (listed : Array Bool), listed.size = ops.size → (∀ j, j < ops.size → (listed.getD j true = true ↔ j ∈ L)) → (∀ j ∈ Region.ready .any ops listed, ¬ j < m) → ∀ j, j < m → j ∈ L := by
    intro L listed hsz hL hr j
    induction j using Nat.strongRecOn with
    | _ j ih =>
      intro hj
      by_cases hjL : j ∈ L
      · exact hjL
      · exfalso
        refine hr j ?_ hj
        have hjs : j < ops.size := by omega
        rw [mem_ready]
        obtain ⟨o, ho⟩ : ∃ o, ops[j]? = some o := ⟨ops[j], Array.getElem?_eq_getElem hjs⟩
        refine ⟨?_, o, ho, fun e he hb => ?_⟩
        · cases hx : listed.getD j true
          · rfl
          · exact absurd ((hL j hjs).1 hx) hjL
        · have hlt := ((hspec j o ho).2.1 e he).1 hb
          have hm := ih e.on hlt (by omega)
          have := (hL e.on (by omega)).2 hm
          have hin : e.on < listed.size := by rw [hsz]; omega
          simpa [Array.getD, hin] using this
  -- what is asked when all below m are listed
  have hfin : ∀ (L : List Nat) (vs : Nat → Value) (W : World), L.Nodup → (∀ j ∈ L, j < m) → (∀ j, j < m → j ∈ L) → G L W → (∀ j ∈ L, (j ∈ Kp ∨ ∃ c, c < m ∧ c ∉ L ∧ looksTo ops c j = true) → R j (vs j) W) →
      if m = ops.size then Q .normal (acts ops a vs L) W else wpOp P ops Q m (fun a w => Q .normal a w) (acts ops a vs L) W := by
    intro L vs W hnd hLm hcov hE hR
    rw [acts_perm hda (hperm L hnd hLm hcov)]
    exact hend L vs W hcov hE (fun j hk hj => hR j (hcov j hj) (Or.inl hk))
  intro fuel
  induction fuel with
  | zero =>
    intro L vs W listed hsz hL hnd hLm hlen hE hcl hR
    have hcov : ∀ j, j < ops.size → j ∈ L := fun j hj => by
      have h0 := List.eq_nil_of_length_eq_zero (Nat.le_zero.1 hlen)
      have : j ∉ (List.range ops.size).filter (fun j => !L.contains j) := by rw [h0]; simp
      simpa [hj] using this
    have hmn : m = ops.size := by
      rcases Nat.lt_or_ge m ops.size with h | h
      · have := hLm m (hcov m h); omega
      · omega
    have hf := hfin L vs W hnd hLm (fun j hj => hcov j (by omega)) hE hR
    rw [if_pos hmn] at hf
    refine ⟨?_, hf⟩
    rw [List.eq_nil_iff_forall_not_mem]
    intro j hj
    obtain ⟨h0, o, ho, _⟩ := mem_ready.1 hj
    have := (hL j (Array.getElem?_eq_some_iff.1 ho).1).2 (hcov j (Array.getElem?_eq_some_iff.1 ho).1)
    rw [this] at h0; cases h0
  | succ fuel ih =>
    intro L vs W listed hsz hL hnd hLm hlen hE hcl hR
    refine ⟨fun hr => ?_, fun i hi => ?_⟩
    · have hcov := hall L listed hsz hL (by rw [hr]; simp)
      have hf := hfin L vs W hnd hLm hcov hE hR
      by_cases hmn : m = ops.size
      · rw [if_pos hmn] at hf; exact hf
      · exfalso
        have hms : m < ops.size := by omega
        have : m ∈ Region.ready .any ops listed := by
          rw [mem_ready]
          obtain ⟨o, ho⟩ : ∃ o, ops[m]? = some o := ⟨ops[m], Array.getElem?_eq_getElem hms⟩
          refine ⟨?_, o, ho, fun e he hb => ?_⟩
          · cases hx : listed.getD m true
            · rfl
            · have := hLm m ((hL m hms).1 hx); omega
          · have hlt := ((hspec m o ho).2.1 e he).1 hb
            have := (hL e.on (by omega)).2 (hcov e.on hlt)
            have hin : e.on < listed.size := by rw [hsz]; omega
            simpa [Array.getD, hin] using this
        rw [hr] at this
        simp at this
    · obtain ⟨h0, o, ho, hdep⟩ := mem_ready.1 hi
      have his : i < ops.size := (Array.getElem?_eq_some_iff.1 ho).1
      have hiL : i ∉ L := fun h => by rw [(hL i his).2 h] at h0; cases h0
      have hdepL : ∀ e ∈ o.after, Region.binds .any e = true → e.on ∈ L := fun e he hb => by
        have h1 := hdep e he hb
        have hlt := ((hspec i o ho).2.1 e he).1 hb
        have hin : e.on < listed.size := by rw [hsz]; omega
        exact (hL e.on (by omega)).1 (by simpa [Array.getD, hin] using h1)
      have hlist : ∀ j, j < ops.size → ((listed.setIfInBounds i true).getD j true = true ↔ j ∈ L ++ [i]) := fun j hj => by
        by_cases hij : i = j
        · subst hij; simp [hsz, his]
        · rw [getD_set_ne true hij, hL j hj]; simp; intro e; exact absurd e.symm hij
      by_cases him : i < m
      · -- one of the operations that make memory
        have hnc : ∀ j ∈ L, comesAfter ops m j i = false := fun j hj => by
          cases hx : comesAfter ops m j i
          · rfl
          · exact absurd (comesAfter_mem hcl m j i hj hx) hiL
        have hg := hstep i o him ho L vs W hiL hnc hE (fun e he hb => hR _ (hdepL e he (((hspec i o ho).2.1 e he).2 hb)) (Or.inr ⟨i, him, hiL, by unfold looksTo; rw [ho]; exact Array.any_eq_true'.2 ⟨e, he, by simp [hb]⟩⟩)) _ (sees_acts hda a m vs)
        have hex : execOp (acts ops a vs L).eval o = execOp (acts ops a vs (List.range m)).eval o := by
          refine execOp_congr o (Region.noSelect_spec hns i o · · ho) (fun x hx => ?_)
          cases x with
          | tmp t =>
            have hlook : t ∈ o.looksAt ops := List.mem_append_left _ (List.mem_filterMap.2 ⟨.tmp t, by simpa using hx, rfl⟩)
            by_cases hex : ∃ j, j < m ∧ dstAt ops j = some t
            · obtain ⟨j, hjm, hj⟩ := hex
              obtain ⟨e, he, hb, rfl⟩ := (hspec i o ho).2.2.1 him j t hjm hj hlook
              have hjL := hdepL e he hb
              rw [acts_eval_in hda hjL hj, acts_eval_in hda (by simpa using hLm _ hjL) hj]
            · have h1 : ∀ j, j < m → dstAt ops j ≠ some t := fun j hjm hj => hex ⟨j, hjm, hj⟩
              rw [acts_eval_out (fun j hjL => h1 j (hLm j hjL)), acts_eval_out (fun j hjr => h1 j (by simpa using hjr))]
          | const v => rfl
          | global g => rfl
          | func f => rfl
        unfold wpOp
        simp only [ho]
        rw [if_pos (by unfold Region.wanted; rw [(hspec i o ho).1 him])]
        left
        refine Oper.wp_mono ?_ (hg.wp hex)
        rintro a' W' ⟨v, rfl, hEW, hE', hRv⟩
        have e1 : (acts ops a vs L).put o.dst v = acts ops a (upd vs i v) (L ++ [i]) := by
          rw [acts_snoc, acts_congr (vs := upd vs i v) (vs' := vs) (fun j hj => by unfold upd; rw [if_neg (fun e => hiL (by rw [← e]; exact hj))])]
          simp [upd, dstAt, ho]
        rw [e1]
        refine ih (L ++ [i]) (upd vs i v) W' _ (by simpa using hsz) hlist ?_ ?_ ?_ hE' ?_ ?_
        · rw [List.nodup_append]
          exact ⟨hnd, by simp, fun x hx y hy e => by simp at hy; subst hy; subst e; exact hiL hx⟩
        · intro j hj
          rcases List.mem_append.1 hj with h | h
          · exact hLm j h
          · simp at h; omega
        · have h1 : (List.range ops.size).filter (fun j => !(L ++ [i]).contains j) = ((List.range ops.size).filter (fun j => !L.contains j)).filter (fun j => j != i) := by
            rw [List.filter_filter]
            congr 1
            funext j
            simp only [List.contains_append, Bool.not_or]
            rw [Bool.and_comm]
            congr 1
            rw [Bool.eq_iff_iff]; simp [bne]
          have h2 : (((List.range ops.size).filter (fun j => !L.contains j)).filter (fun j => j != i)).length < ((List.range ops.size).filter (fun j => !L.contains j)).length := by
            rw [List.length_filter_lt_length_iff_exists]
            exact ⟨i, by simp [his, hiL], by simp⟩
          rw [h1]; omega
        · intro j hj o' ho' e he hb
          rcases List.mem_append.1 hj with h | h
          · exact List.mem_append_left _ (hcl j h o' ho' e he hb)
          · simp at h; subst h
            rw [ho] at ho'
            cases ho'
            exact List.mem_append_left _ (hdepL e he hb)
        · intro j hj hlive
          rcases List.mem_append.1 hj with h | h
          · have : upd vs i v j = vs j := by unfold upd; rw [if_neg (fun e => hiL (by rw [← e]; exact h))]
            rw [this]
            have hlive' : j ∈ Kp ∨ ∃ c, c < m ∧ c ∉ L ∧ looksTo ops c j = true := hlive.imp id (fun ⟨c, h1, h2, h3⟩ => ⟨c, h1, fun hc => h2 (List.mem_append_left _ hc), h3⟩)
            refine hRE j i _ W W' (hLm j h) him (fun e => hiL (e ▸ h)) ?_ (hR j h hlive') hEW
            unfold outlasts
            rw [Bool.and_eq_true, Bool.not_eq_true', Bool.or_eq_true]
            refine ⟨?_, ?_⟩
            · cases hx : comesAfter ops m j i
              · rfl
              · exact absurd (comesAfter_mem hcl m j i h hx) hiL
            · rcases hlive with hk | ⟨c, h1, h2, h3⟩
              · exact Or.inl (List.contains_iff_mem.2 hk)
              · refine Or.inr (List.any_eq_true.2 ⟨c, by simpa using h1, ?_⟩)
                rw [h3, Bool.and_true, Bool.and_eq_true, bne_iff_ne, Bool.not_eq_true']
                refine ⟨fun e => by subst e; exact h2 (by simp), ?_⟩
                cases hx : comesAfter ops m i c
                · rfl
                · exact absurd (List.mem_append_left _ (comesAfter_ready hcl ho hdepL m c hx)) h2
          · simp at h; subst h; simpa [upd] using hRv
      · -- the last one
        obtain rfl : i = m := by omega
        have hcov : ∀ j, j < i → j ∈ L := fun j hj => by
          obtain ⟨e, he, hb, rfl⟩ := (hspec i o ho).2.2.2 rfl j hj
          exact hdepL e he hb
        have hf := hfin L vs W hnd hLm hcov hE hR
        rw [if_neg (by omega)] at hf
        refine wpOp_mono (fun a' W' hq => ?_) hf
        refine wpAny_done ?_ hq fuel
        rw [List.eq_nil_iff_forall_not_mem]
        intro j hj
        obtain ⟨h0', o', ho', _⟩ := mem_ready.1 hj
        have hjs := (Array.getElem?_eq_some_iff.1 ho').1
        have : j ∈ L ++ [i] := by
          by_cases hji : j < i
          · exact List.mem_append_left _ (hcov j hji)
          · have : j = i := by omega
            simp [this]
        rw [(hlist j hjs).2 this] at h0'; cases h0'

/-- A region whose operations (but for the last one) only make memory, in whatever order; what holds of the world may depend on what has been done. -/
theorem wp_region_growL {id : Nat} {w : World} (hm : P.follows .mixedOrders = true) (hok : okGrow ops m = true) (hG : G [] w.drew) (hRE : ∀ i k v W W', i < m → k < m → i ≠ k → outlasts ops m Kp i k = true → R i v W → E k W W' → R i v W')
    (hstep : ∀ i o, i < m → ops[i]? = some o → ∀ L vs W, i ∉ L → (∀ j ∈ L, comesAfter ops m j i = false) → G L W → (∀ e ∈ o.after, isData e = true → R e.on (vs e.on) W) → ∀ ρ, Sees ops a m vs ρ → GivesOp P o ρ W (fun v W' => E i W W' ∧ G (L ++ [i]) W' ∧ R i v W'))
    (hend : ∀ L vs W, (∀ j, j < m → j ∈ L) → G L W → (∀ j ∈ Kp, j < m → R j (vs j) W) → if m = ops.size then Q .normal (acts ops a vs (List.range m)) W else wpOp P ops Q m (fun a w => Q .normal a w) (acts ops a vs (List.range m)) W) :
    (Code.region id ops true).wp P Q a w := by
  refine wp_region_any hm ?_
  refine wpAny_grow Kp G E R hok hRE hstep hend ops.size [] (fun _ => undef) _ _ (by simp) (fun j hj => ?_) List.nodup_nil (fun j hj => by simp at hj) ?_ hG (fun j hj => by simp at hj) (fun j hj => by simp at hj)
  · simp [hj]
  · exact Nat.le_trans (List.length_filter_le _ _) (by simp)
end
section
variable {P : Program} {ops : Array Oper} {Q : Exit → Act → World → Prop} {a : Act} {m : Nat} (Kp : List Nat) (G : World → Prop) (E : Nat → World → World → Prop) (R : Nat → Value → World → Prop)
/-- The same where what holds of the world does not depend on what has been done. -/
theorem wp_region_grow {id : Nat} {w : World} (hm : P.follows .mixedOrders = true) (hok : okGrow ops m = true) (hG : G w.drew) (hRE : ∀ i k v W W', i < m → k < m → i ≠ k → outlasts ops m Kp i k = true → R i v W → E k W W' → R i v W')
    (hstep : ∀ i o, i < m → ops[i]? = some o → ∀ vs W, G W → (∀ e ∈ o.after, isData e = true → R e.on (vs e.on) W) → ∀ ρ, Sees ops a m vs ρ → GivesOp P o ρ W (fun v W' => E i W W' ∧ G W' ∧ R i v W'))
    (hend : ∀ vs W, G W → (∀ j ∈ Kp, j < m → R j (vs j) W) → if m = ops.size then Q .normal (acts ops a vs (List.range m)) W else wpOp P ops Q m (fun a w => Q .normal a w) (acts ops a vs (List.range m)) W) :
    (Code.region id ops true).wp P Q a w :=
  wp_region_growL Kp (fun _ W => G W) E R hm hok hG hRE (fun i o hi ho _ vs W _ _ => hstep i o hi ho vs W) (fun _ vs W _ => hend vs W)
end
end Go.Proofs.YtaepiiediblleaaDoor

namespace Go.Proofs.YtaepiiediblleaaDoor
open Go.RowKit

/-- append, as one step of a region that makes memory. -/
theorem gives_append {t e : TypeId} {z : Value} {size bytes : Nat} (E : ElemT t e z size bytes) {ρ : Operand → Value} {W : World} {T : Value → World → Prop} {dst : Option Tmp} {ty : TypeId} {pos : String} {after : Array Edge} {guard : Option (Nat × Bool)}
    (s x : Operand) (base : Nat) (v : Value) (n : Nat) (xs : List Value) (hs : ρ s = v) (B m c : Nat) (news : List Value) (hx : ρ x = .slice (some ⟨B, 0, none⟩) m c) (hl : news.length = m * size) (h1 : ∀ u ∈ news, u.oneCell' = true) (hm : 0 < m) (hn : n + m ≤ 100000000) (hb : bytes ≤ 1000)
    (hown : W.ownsRow base e size v n xs) (hnews : ∀ j (h : j < news.length), W.cell? ⟨B, j, none⟩ = some news[j]) (hbase : base ≤ W.heap.size)
    (h : ∀ g cap w', w'.ownsRow base e size (.slice (some ⟨g, 0, none⟩) (n + m) cap) (n + m) (xs ++ news) → W.grownBy w' v.ownBlock → (v.ownBlock = some g ∨ g = W.heap.size) → g < w'.heap.size → T (.slice (some ⟨g, 0, none⟩) (n + m) cap) w') :
    GivesOp Tryd.prog { dst := dst, op := .call { callee := .builtin .append, args := #[s, x], argTypes := #[t, t] }, type := ty, pos := pos, after := after, guard := guard } ρ W T := by
  obtain ⟨i, hi, hz, hsz, hby⟩ := info_parts E.info
  obtain ⟨g, cap, w', hrun, h2, h3, h4, h5⟩ := run_append_lies (P := Tryd.prog) W t ty base e i z size bytes E.ht hi hz hsz hby E.hzs E.hsz v n xs hown ⟨B, 0, none⟩ m c news hl (by
      intro j u hu
      obtain ⟨hj, rfl⟩ := List.getElem?_eq_some_iff.1 hu
      have : (⟨B, 0, none⟩ : Addr).add j = ⟨B, j, none⟩ := by unfold Addr.add; split <;> simp_all
      rw [this]
      exact hnews j hj) h1 hm (by simp only [maxLen]; omega) (by
      calc (n + m) * bytes ≤ 100000000 * 1000 := Nat.mul_le_mul hn hb
        _ ≤ 140737488355328 := by omega) hbase _ rfl
  unfold GivesOp
  have he : execOp ρ { dst := dst, op := .call { callee := .builtin .append, args := #[s, x], argTypes := #[t, t] }, type := ty, pos := pos, after := after, guard := guard } = (do pure (.value (← Builtin.append_ #[t, t] ty #[v, .slice (some ⟨B, 0, none⟩) m c]))) := by
    rw [← hs, ← hx, BigFrame.execOp_builtin, BigFrame.builtin_append]; simp
  rw [he]
  simp only [Sem.run_bind, hrun]
  exact h g cap w' h2 h3 h4 h5

theorem alloc_at {w : World} {o : Obj} {n : Nat} (h : n = w.heap.size) : (w.alloc o).heap[n]? = some o := by subst h; exact alloc_new w o
end Go.Proofs.YtaepiiediblleaaDoor

namespace Go.Proofs.YtaepiiediblleaaDoor
open Go.RowKit

/-- A bool that says whether P holds. -/
def SaysQ (P : Prop) (w : World) (e : Ending) (w' : World) : Prop := ∃ B : Bool, e = .returned (.bool B) ∧ (B = true ↔ P) ∧ Ext w w'
theorem says_false {P : Prop} {w w' : World} (h : ¬ P) (hx : Ext w w') : SaysQ P w (.returned (.bool false)) w' := ⟨false, rfl, by simp [h], hx⟩
theorem says_true {P : Prop} {w w' : World} (h : P) (hx : Ext w w') : SaysQ P w (.returned (.bool true)) w' := ⟨true, rfl, by simp [h], hx⟩
theorem Ex.ext_iff (a b : Ex) : a = b ↔ a.op = b.op ∧ a.name = b.name ∧ a.words = b.words ∧ a.lo = b.lo ∧ a.hi = b.hi ∧ a.args = b.args := by
  cases a; cases b; simp [Ex.op, Ex.name, Ex.words, Ex.lo, Ex.hi, Ex.args]

def RSame (P : Prop) (ba bb b1 o1 b2 o2 na ca nb cb k : Nat) (va vb : Value) : Nat → Value → World → Prop
  | 0, v, _ => v = .pointer (some ⟨ba, 5, none⟩)
  | 1, v, _ => v = .slice (some ⟨b1, o1, none⟩) na ca
  | 2, v, _ => v = .int .i64 k
  | 3, v, _ => v = .pointer (some ⟨b1, o1 + k * 6, none⟩)
  | 4, v, _ => v = va
  | 5, v, _ => v = .pointer (some ⟨bb, 5, none⟩)
  | 6, v, _ => v = .slice (some ⟨b2, o2, none⟩) nb cb
  | 7, v, _ => v = .int .i64 k
  | 8, v, _ => v = .pointer (some ⟨b2, o2 + k * 6, none⟩)
  | 9, v, _ => v = vb
  | 10, v, _ => ∃ B : Bool, v = .bool B ∧ (B = true ↔ P)
  | 11, v, _ => ∃ B : Bool, v = .bool (!B) ∧ (B = true ↔ P)
  | _, _, _ => True
theorem rsame_keeps {P : Prop} {ba bb b1 o1 b2 o2 na ca nb cb k : Nat} {va vb : Value} {i : Nat} {v : Value} {W W' : World} (hi : i < 12) (h : RSame P ba bb b1 o1 b2 o2 na ca nb cb k va vb i v W) : RSame P ba bb b1 o1 b2 o2 na ca nb cb k va vb i v W' := by
  have hi' : i = 0 ∨ i = 1 ∨ i = 2 ∨ i = 3 ∨ i = 4 ∨ i = 5 ∨ i = 6 ∨ i = 7 ∨ i = 8 ∨ i = 9 ∨ i = 10 ∨ i = 11 := by omega
  rcases hi' with rfl | rfl | rfl | rfl | rfl | rfl | rfl | rfl | rfl | rfl | rfl | rfl <;> exact h
def ESame (_ : Nat) (W W' : World) : Prop := Ext W W'
def GSame (w W : World) : Prop := Ext w W

set_option maxRecDepth 100000 in
set_option maxHeartbeats 4000000 in
theorem rsame_calls (m : Nat) : ∀ (a b : Ex) (va vb : Value) (w : World), a.size ≤ m → m ≤ 1000000000000000 → IsEx w a va → IsEx w b vb → a.few → Calls Tryd.prog 11 #[va, vb] w (SaysQ (a = b) w) := by
  induction m with
  | zero => intro a b va vb w h; have := size_pos a; omega
  | succ m ih =>
    intro a b va vb w hm hMM hea heb hfit
    obtain ⟨aw, nw, cw, aa, na, ca, rfl, hw, hna, hca, ha, hx⟩ := hea.parts
    obtain ⟨aw', nw', cw', ab, nb, cb, rfl, hw', hnb, hcb, hb, hy⟩ := heb.parts
    have hEQ := Ex.ext_iff a b
    have H : Hid (∀ (a b : Ex) (va vb : Value) (w : World), a.size ≤ m → IsEx w a va → IsEx w b vb → a.few → Calls Tryd.prog 11 #[va, vb] w (SaysQ (a = b) w)) := fun a b va vb w h1 h2 h3 h4 => ih a b va vb w h1 (by omega) h2 h3 h4
    have hS : a.size = 1 + sizes a.args := a.size_eq
    have hb2 : sizes a.args ≤ m := by omega
    have hla := length_le_sizes a.args
    have hna2 : na ≤ m := by omega
    obtain ⟨hf1, hf2⟩ := few_parts hfit
    have HF := Lib.hid hf2
    have hnw : nw ≤ 1000000000000000 := by have := hw.1; omega
    have HX := Lib.hid hx
    have HY := Lib.hid hy
    have HNA := Lib.hid hna
    have HNB := Lib.hid hnb
    have HEQ := Lib.hid hEQ
    have HW := Lib.hid hw
    have HW' := Lib.hid hw'
    obtain ⟨Pr, hP⟩ : ∃ Pr : Prop, Pr = (a = b) := ⟨_, rfl⟩
    rw [← hP]
    rw [← hP] at hEQ
    have HEQ := Lib.hid hEQ
    have HE2 := Lib.hid (((Ext.refl w).alloc (.cells #[.int .i64 a.op, .string a.name, .slice aw nw cw, .int .i64 a.lo, .int .i64 a.hi, .slice aa na ca] 26)).alloc (.cells #[.int .i64 b.op, .string b.name, .slice aw' nw' cw', .int .i64 b.lo, .int .i64 b.hi, .slice ab nb cb] 26))
    clear ih hx hy hna hnb hw hw' hca ha hcb hb hea heb hS hm hla hf1 hf2 hfit hEQ hP
    unfold exV
    by_cases c1 : a.op = b.op
    case neg =>
      have t1 : (a.op != b.op) = true := by simpa [bne_iff_ne] using c1
      have HNO := Lib.hid (show ¬ Pr from fun h => c1 (HEQ.out.1 h).1)
      clear c1
      go_enter Tryd.func11, Tryd.ntmps11
      go_wp2_with fail
      go_ret
      exact says_false HNO.out HE2.out
    case pos =>
    have t1 : (a.op != b.op) = false := by simpa using c1
    have HC1 := Lib.hid c1
    clear c1
    cases c2 : (a.name.toList == b.name.toList)
    case false =>
      have HNO := Lib.hid (show ¬ Pr from fun h => by rw [(HEQ.out.1 h).2.1] at c2; simp at c2)
      go_enter Tryd.func11, Tryd.ntmps11
      go_wp2_with fail
      go_ret
      exact says_false HNO.out HE2.out
    case true =>
    have HC2 := Lib.hid (toList_inj (beq_iff_eq.1 c2))
    by_cases c3 : a.lo = b.lo
    case neg =>
      have t3 : (a.lo != b.lo) = true := by simpa [bne_iff_ne] using c3
      have HNO := Lib.hid (show ¬ Pr from fun h => c3 (HEQ.out.1 h).2.2.2.1)
      clear c3
      go_enter Tryd.func11, Tryd.ntmps11
      go_wp2_with fail
      go_ret
      exact says_false HNO.out HE2.out
    case pos =>
    have t3 : (a.lo != b.lo) = false := by simpa using c3
    have HC3 := Lib.hid c3
    clear c3
    by_cases c4 : a.hi = b.hi
    case neg =>
      have t4 : (a.hi != b.hi) = true := by simpa [bne_iff_ne] using c4
      have HNO := Lib.hid (show ¬ Pr from fun h => c4 (HEQ.out.1 h).2.2.2.2.1)
      clear c4
      go_enter Tryd.func11, Tryd.ntmps11
      go_wp2_with fail
      go_ret
      exact says_false HNO.out HE2.out
    case pos =>
    have t4 : (a.hi != b.hi) = false := by simpa using c4
    have HC4 := Lib.hid c4
    clear c4
    have HSW := Lib.hid (sameWords_calls a.words b.words aw aw' nw cw nw' cw' _ (HW.out.ext HE2.out) (HW'.out.ext HE2.out) hnw)
    by_cases c5 : a.words = b.words
    case neg =>
      have HNO := Lib.hid (show ¬ Pr from fun h => c5 (HEQ.out.1 h).2.2.1)
      rw [decide_eq_false c5] at HSW
      clear c5
      go_enter Tryd.func11, Tryd.ntmps11
      go_wp2_with fail
      refine HSW.out.mono ?_
      rintro r w1 ⟨rfl, q, rfl⟩
      go_wp2_with fail
      go_ret
      exact says_false HNO.out (HE2.out.trans (Ext.drewN (Ext.refl _) _))
    case pos =>
    rw [decide_eq_true c5] at HSW
    have HC5 := Lib.hid c5
    clear c5
    by_cases c6 : na = nb
    case neg =>
      have t6 : ((na : Int) != (nb : Int)) = true := by simp [bne_iff_ne]; omega
      have t7 : (na != nb) = true := by simp [bne_iff_ne]; omega
      have HNO := Lib.hid (show ¬ Pr from fun h => c6 (by rw [HNA.out, HNB.out, (HEQ.out.1 h).2.2.2.2.2]))
      clear c6
      go_enter Tryd.func11, Tryd.ntmps11
      go_wp2_with fail
      refine HSW.out.mono ?_
      rintro r w1 ⟨rfl, q, rfl⟩
      go_wp2_with fail
      go_ret
      exact says_false HNO.out (HE2.out.trans (Ext.drewN (Ext.refl _) _))
    case pos =>
    have t6 : ((na : Int) != (nb : Int)) = false := by simp [c6]
    have t7 : (na != nb) = false := by simp [c6]
    have HEN := Lib.hid c6
    have hle : na ≤ nb := by omega
    clear c6
    go_enter Tryd.func11, Tryd.ntmps11
    go_wp2_with fail
    refine HSW.out.mono ?_
    rintro r w1 ⟨rfl, q, rfl⟩
    clear HSW
    go_wp2_with fail
    have HBA := Lib.hid (blk_alloc (o' := .cells #[.int .i64 b.op, .string b.name, .slice aw' nw' cw', .int .i64 b.lo, .int .i64 b.hi, .slice ab nb cb] 26) (alloc_new w (.cells #[.int .i64 a.op, .string a.name, .slice aw nw cw, .int .i64 a.lo, .int .i64 a.hi, .slice aa na ca] 26)))
    have HBB := Lib.hid (alloc_at (w := w.alloc (.cells #[.int .i64 a.op, .string a.name, .slice aw nw cw, .int .i64 a.lo, .int .i64 a.hi, .slice aa na ca] 26)) (o := .cells #[.int .i64 b.op, .string b.name, .slice aw' nw' cw', .int .i64 b.lo, .int .i64 b.hi, .slice ab nb cb] 26) (n := w.heap.size + 1) (by simp))
    have HEq := Lib.hid (show Ext ((w.alloc (.cells #[.int .i64 a.op, .string a.name, .slice aw nw cw, .int .i64 a.lo, .int .i64 a.hi, .slice aa na ca] 26)).alloc (.cells #[.int .i64 b.op, .string b.name, .slice aw' nw' cw', .int .i64 b.lo, .int .i64 b.hi, .slice ab nb cb] 26)) _ from Ext.drewN (Ext.refl _) q)
    go_loopw [5] (fun i wr => ∃ k : Nat, k ≤ na ∧ i = .int .i64 k ∧ (∀ j (h1 : j < a.args.length) (h2 : j < b.args.length), j < k → a.args[j] = b.args[j]) ∧ wr.heap[w.heap.size]? = some (.cells #[.int .i64 a.op, .string a.name, .slice aw nw cw, .int .i64 a.lo, .int .i64 a.hi, .slice aa na ca] 26 (0, 0)) ∧ wr.heap[w.heap.size + 1]? = some (.cells #[.int .i64 b.op, .string b.name, .slice aw' nw' cw', .int .i64 b.lo, .int .i64 b.hi, .slice ab nb cb] 26 (0, 0)) ∧ Ext w wr) (fun i _ => na - (intOf i).toNat)
    case atStart => exact ⟨0, by omega, rfl, fun j _ _ h => by omega, HEq.out.blk HBA.out, HEq.out.blk HBB.out, HE2.out.trans HEq.out⟩
    case round =>
      clear HBA HBB HEq t1 c2 t3 t4 t6 t7
      obtain ⟨k, hk, rfl, hall, hbx, hby, hb⟩ := hrel
      have HA := Lib.hid hall
      have HBX := Lib.hid hbx
      have HBY := Lib.hid hby
      have HB := Lib.hid hb
      have hlt0 := blk_lt hbx
      have hlt1 := blk_lt hby
      obtain ⟨b0, b1, b2, b3, b4, b5, bf⟩ := blk6 hbx
      obtain ⟨y0, y1, y2, y3, y4, y5, yf⟩ := blk6 hby
      clear hbx hby hb hall
      by_cases hlt : k < na
      · have hlt' : k < a.args.length := by have := HNA.out; omega
        have hlt2 : k < b.args.length := by have := HNB.out; have := HEN.out; omega
        have t1 : decide ((k : Int) < (na : Int)) = true := by simp; omega
        have hlt3 : k < nb := by omega
        obtain ⟨bb, off, rfl, aw1, nw1, cw1, aa1, na1, ca1, h0, h1, h2, h3, h4, h5, h6⟩ := ExsD.at a.args _ (ExsD.ext HB.out a.args _ HX.out) k hlt'
        obtain ⟨bb', off', rfl, aw2, nw2, cw2, aa2, na2, ca2, g0, g1, g2, g3, g4, g5, g6⟩ := ExsD.at b.args _ (ExsD.ext HB.out b.args _ HY.out) k hlt2
        have H6 := Lib.hid h6
        have G6 := Lib.hid g6
        have hsz := sizes_take_succ a.args k hlt'
        have hsl := sizes_take_le a.args (k + 1)
        have hk1 : a.args[k].size ≤ m := by omega
        clear h6 g6 hsz hsl
        have HK := Lib.hid (fun (W : World) (hW : Ext wr W) => H.out a.args[k] b.args[k] _ _ W hk1 (H6.out.ext hW) (G6.out.ext hW) (fewAll_at _ HF.out k hlt'))
        go_wp2_with fail
        refine wp_region_grow (m := 12) [11] (GSame wr) ESame (RSame (a.args[k] = b.args[k]) w.heap.size (w.heap.size + 1) bb off bb' off' na ca nb cb k (exV a.args[k].op a.args[k].name aw1 nw1 cw1 a.args[k].lo a.args[k].hi aa1 na1 ca1) (exV b.args[k].op b.args[k].name aw2 nw2 cw2 b.args[k].lo b.args[k].hi aa2 na2 ca2)) (by kernel_rfl) (by kernel_rfl) ((Ext.refl wr).drew) (fun i k v W W' hi _ _ _ hR _ => rsame_keeps hi hR) ?_ ?_
        · intro i o hi ho vs W hG hd ρ hρ
          have hi' : i = 0 ∨ i = 1 ∨ i = 2 ∨ i = 3 ∨ i = 4 ∨ i = 5 ∨ i = 6 ∨ i = 7 ∨ i = 8 ∨ i = 9 ∨ i = 10 ∨ i = 11 := by omega
          clear hi
          have o2 : ρ (.tmp 2) = .pointer (some ⟨w.heap.size, 0, none⟩) := hρ.out 2 rfl
          have o3 : ρ (.tmp 3) = .pointer (some ⟨w.heap.size + 1, 0, none⟩) := hρ.out 3 rfl
          have o5 : ρ (.tmp 5) = .int .i64 k := hρ.out 5 rfl
          have i0 := hρ.ins 0 56 (by omega) rfl (Nat.le_of_ble_eq_true rfl)
          have i1 := hρ.ins 1 57 (by omega) rfl (Nat.le_of_ble_eq_true rfl)
          have i2 := hρ.ins 2 58 (by omega) rfl (Nat.le_of_ble_eq_true rfl)
          have i3 := hρ.ins 3 59 (by omega) rfl (Nat.le_of_ble_eq_true rfl)
          have i4 := hρ.ins 4 60 (by omega) rfl (Nat.le_of_ble_eq_true rfl)
          have i5 := hρ.ins 5 61 (by omega) rfl (Nat.le_of_ble_eq_true rfl)
          have i6 := hρ.ins 6 62 (by omega) rfl (Nat.le_of_ble_eq_true rfl)
          have i7 := hρ.ins 7 63 (by omega) rfl (Nat.le_of_ble_eq_true rfl)
          have i8 := hρ.ins 8 64 (by omega) rfl (Nat.le_of_ble_eq_true rfl)
          have i9 := hρ.ins 9 65 (by omega) rfl (Nat.le_of_ble_eq_true rfl)
          have i10 := hρ.ins 10 66 (by omega) rfl (Nat.le_of_ble_eq_true rfl)
          have hcs := hρ.const
          have hfn := hρ.func
          clear hρ
          have hW : Ext wr W := hG
          replace b5 := hW.cell b5
          replace y5 := hW.cell y5
          replace h0 := hW.cell h0
          replace h1 := hW.cell h1
          replace h2 := hW.cell h2
          replace h3 := hW.cell h3
          replace h4 := hW.cell h4
          replace h5 := hW.cell h5
          replace g0 := hW.cell g0
          replace g1 := hW.cell g1
          replace g2 := hW.cell g2
          replace g3 := hW.cell g3
          replace g4 := hW.cell g4
          replace g5 := hW.cell g5
          clear b0 b1 b2 b3 b4 bf y0 y1 y2 y3 y4 yf
          have HG := Lib.hid hW
          clear hG hW
          rcases hi' with rfl | rfl | rfl | rfl | rfl | rfl | rfl | rfl | rfl | rfl | rfl | rfl
          · cases ho
            unfold GivesOp
            go_simp
            exact ⟨Ext.refl W, HG.out, rfl⟩
          · cases ho
            have r0 : vs 0 = _ := hd ⟨0, .data⟩ (by simp) rfl
            rw [r0] at i0
            unfold GivesOp
            go_simp
            exact ⟨Ext.refl W, HG.out, rfl⟩
          · cases ho
            unfold GivesOp
            go_simp
            exact ⟨Ext.refl W, HG.out, rfl⟩
          · cases ho
            have r1 : vs 1 = _ := hd ⟨1, .data⟩ (by simp) rfl
            rw [r1] at i1
            have r2 : vs 2 = _ := hd ⟨2, .data⟩ (by simp) rfl
            rw [r2] at i2
            unfold GivesOp
            go_simp
            exact ⟨Ext.refl W, HG.out, rfl⟩
          · cases ho
            have r3 : vs 3 = _ := hd ⟨3, .data⟩ (by simp) rfl
            rw [r3] at i3
            unfold GivesOp
            go_simp
            exact ⟨Ext.refl W, HG.out, rfl⟩
          · cases ho
            unfold GivesOp
            go_simp
            exact ⟨Ext.refl W, HG.out, rfl⟩
          · cases ho
            have r5 : vs 5 = _ := hd ⟨5, .data⟩ (by simp) rfl
            rw [r5] at i5
            unfold GivesOp
            go_simp
            exact ⟨Ext.refl W, HG.out, rfl⟩
          · cases ho
            unfold GivesOp
            go_simp
            exact ⟨Ext.refl W, HG.out, rfl⟩
          · cases ho
            have r6 : vs 6 = _ := hd ⟨6, .data⟩ (by simp) rfl
            rw [r6] at i6
            have r7 : vs 7 = _ := hd ⟨7, .data⟩ (by simp) rfl
            rw [r7] at i7
            unfold GivesOp
            go_simp
            exact ⟨Ext.refl W, HG.out, rfl⟩
          · cases ho
            have r8 : vs 8 = _ := hd ⟨8, .data⟩ (by simp) rfl
            rw [r8] at i8
            unfold GivesOp
            go_simp
            exact ⟨Ext.refl W, HG.out, rfl⟩
          · cases ho
            have r4 : vs 4 = _ := hd ⟨4, .data⟩ (by simp) rfl
            rw [r4] at i4
            have r9 : vs 9 = _ := hd ⟨9, .data⟩ (by simp) rfl
            rw [r9] at i9
            unfold GivesOp
            go_simp
            refine (HK.out W HG.out).mono ?_
            rintro r W1 ⟨B, rfl, hB, hx⟩
            exact ⟨_, rfl, hx, HG.out.trans hx, B, rfl, hB⟩
          · cases ho
            obtain ⟨B, r10, hB⟩ := hd ⟨10, .data⟩ (by simp) rfl
            rw [r10] at i10
            have HBB := Lib.hid hB
            clear hB
            unfold GivesOp
            go_simp
            exact ⟨Ext.refl W, HG.out, B, rfl, HBB.out⟩
        · intro vs W hG hR
          rw [if_pos (by decide +kernel)]
          obtain ⟨B, r11, hB⟩ := hR 11 (by simp) (by omega)
          have hW : Ext wr W := hG
          have HG := Lib.hid hW
          have HBB := Lib.hid hB
          simp only [acts, dstAt, List.range, List.range.loop, List.foldl_cons, List.foldl_nil, r11]
          go_simp
          have HBX2 := Lib.hid (hW.blk HBX.out)
          have HBY2 := Lib.hid (hW.blk HBY.out)
          clear hG hR hB hW r11 b0 b1 b2 b3 b4 b5 bf y0 y1 y2 y3 y4 y5 yf h0 h1 h2 h3 h4 h5 g0 g1 g2 g3 g4 g5
          cases B with
          | false =>
            have HNO := Lib.hid (show ¬ Pr from fun h => by
              have e := (HEQ.out.1 h).2.2.2.2.2
              have : a.args[k] = b.args[k] := by simp only [e]
              simpa using HBB.out.2 this)
            go_wp2_with fail
            go_ret
            exact says_false HNO.out (HB.out.trans HG.out)
          | true =>
            go_wp2_with fail
            go_roundw
            case rel =>
              refine ⟨k + 1, by omega, by go_num, fun j h1 h2 hjk => ?_, HBX2.out, HBY2.out, HB.out.trans HG.out⟩
              by_cases ej : j = k
              · subst ej; exact HBB.out.1 rfl
              · exact HA.out j h1 h2 (by omega)
            case measure => simp [intOf]; omega
      · have HPr := Lib.hid (show Pr from HEQ.out.2 ⟨HC1.out, HC2.out, HC5.out, HC3.out, HC4.out, List.ext_getElem (by have := HNA.out; have := HNB.out; have := HEN.out; omega) (fun j h1 h2 => HA.out j h1 h2 (by have := HNA.out; omega))⟩)
        have t1 : decide ((k : Int) < (na : Int)) = false := by simp; omega
        go_wp2_with fail
        go_ret
        exact says_true HPr.out HB.out
end Go.Proofs.YtaepiiediblleaaDoor
