/-
  Texts of the claim, joined: Same, Fmt, Fmt2, RTok1, RTok2, RTok3.
-/
import Derived.Test.YtaepiiediblleaaDoorVa10
import Derived.Deep.DeepCutAuto
import Derived.Test.YtaepiiediblleaaDoorVa08
namespace Go.Proofs.YtaepiiediblleaaDoor
open Go.RowKit

set_option maxRecDepth 100000 in
theorem sequal_calls (l1 l2 : List ByteArray) (a1 a2 : Option Addr) (n1 c1 n2 c2 : Nat) (w : World) (h1 : IsStrs w l1 a1 n1 c1) (h2 : IsStrs w l2 a2 n2 c2) (hn : n1 ≤ 1000000000000000) :
    Calls Tryd.prog 38 #[.slice a1 n1 c1, .slice a2 n2 c2] w (GivesD (.bool (decide (l1 = l2))) w) := by
  have HL1 := Lib.hid h1
  have HL2 := Lib.hid h2
  have hn1 := Lib.hid h1.1
  have hn2 := Lib.hid h2.1
  obtain ⟨B, hB⟩ : ∃ B, B = decide (l1 = l2) := ⟨_, rfl⟩
  rw [← hB]
  have HBQ := Lib.hid hB
  clear h1 h2 hB
  by_cases he : n1 = n2
  · have t1 : ((n1 : Int) != (n2 : Int)) = false := by simp [he]
    have t2 : (n1 != n2) = false := by simp [he]
    have hle : n1 ≤ n2 := by omega
    have HEQ := Lib.hid he
    clear he
    go_enter Tryd.func38, Tryd.ntmps38
    go_wp2_with fail
    go_loopw [13] (fun t wr => ∃ k : Nat, t = .int .i64 k ∧ k ≤ n1 ∧ (∀ j (hj : j < l1.length) (hj2 : j < l2.length), j < k → l1[j] = l2[j]) ∧ ∃ q, wr = w.drewN q) (fun t _ => n1 - (intOf t).toNat)
    case atStart => exact ⟨0, rfl, by omega, fun j _ _ h => by omega, 0, rfl⟩
    case round =>
      obtain ⟨k, rfl, hk, hal, q, rfl⟩ := hrel
      have HA := Lib.hid hal
      clear hal
      by_cases hlt : k < n1
      · have hk1 : k < l1.length := by have := hn1.out; omega
        have hk2 : k < l2.length := by have := hn2.out; omega
        obtain ⟨b, off, rfl, hc1⟩ := HL1.out.2.2.2 k hk1
        obtain ⟨b', off', rfl, hc2⟩ := HL2.out.2.2.2 k hk2
        have ti0 : (0 : Int) ≤ (k : Int) := by omega
        have ti1 : (k : Int) < (n1 : Int) := by omega
        have tj1 : (k : Int) < (n2 : Int) := by omega
        have tj2 : k < n2 := by omega
        cases hx : (l1[k].toList == l2[k].toList)
        · have H1 := Lib.hid (show B = false by
            rw [HBQ.out, decide_eq_false_iff_not]
            intro e
            subst e
            simp at hx)
          have hx2 : (l1[k].toList != l2[k].toList) = true := by simp only [bne, hx]; rfl
          go_wp2_with fail
          go_quiet (fail)
          go_wp2_with fail
          go_ret
          exact givesD_bool (by rw [H1.out]) ⟨_, drewN_drewN _ _ _⟩
        · have HQ := Lib.hid hx
          have hx2 : (l1[k].toList != l2[k].toList) = false := by simp only [bne, hx]; rfl
          go_wp2_with fail
          go_quiet (fail)
          go_wp2_with fail
          go_roundw
          case rel =>
            refine ⟨k + 1, by go_num, by omega, fun j hj hj2 hjk => ?_, _, rfl⟩
            by_cases e : j = k
            · subst e; exact toList_inj (beq_iff_eq.1 HQ.out)
            · exact HA.out j hj hj2 (by omega)
          case measure => simp [intOf]; omega
      · have H1 := Lib.hid (show B = true by
          rw [HBQ.out, decide_eq_true_eq]
          have e1 := hn1.out
          have e2 := hn2.out
          have e3 := HEQ.out
          exact List.ext_getElem (by omega) (fun j hj hj2 => HA.out j hj hj2 (by omega)))
        go_wp2_with fail
        go_ret
        exact givesD_bool (by rw [H1.out]) ⟨q, rfl⟩
  · have t1 : ((n1 : Int) != (n2 : Int)) = true := by simp [bne_iff_ne]; omega
    have t2 : (n1 != n2) = true := by simp [bne_iff_ne]; omega
    have H1 := Lib.hid (show B = false by
      rw [HBQ.out, decide_eq_false_iff_not]
      intro e
      have e1 := hn1.out
      have e2 := hn2.out
      rw [e] at e1
      omega)
    go_enter Tryd.func38, Tryd.ntmps38
    go_wp2_with fail
    go_ret
    exact givesD_bool (by rw [H1.out]) ⟨0, rfl⟩

theorem enter_same (u v : Value) (w : World) : Sem.run Tryd.prog (callFunc 23 #[u, v]) w = .ok (.enter 23 #[u, v]) w := by kernel_rfl
/-- What Same does for expressions of at most a size. -/
def SameDo (m : Nat) : Prop := ∀ (a b : Ex) (va vb : Value) (w : World), a.size ≤ m → IsEx w a va → IsEx w b vb → a.few → Calls Tryd.prog 23 #[va, vb] w (SaysQ (a = b) w)

set_option maxRecDepth 100000 in
set_option maxHeartbeats 2000000 in
theorem eqfunc_calls (m : Nat) (ih : SameDo m) (hm : m ≤ 1000000000000000) (l1 l2 : List Ex) (a1 a2 : Option Addr) (n1 c1 n2 c2 : Nat) (w : World) (hx : ExsD w l1 a1) (hy : ExsD w l2 a2) (h1 : n1 = l1.length) (h2 : n2 = l2.length) (hs : sizes l1 ≤ m) (hf : fewAll l1) :
    Calls Tryd.prog 39 #[.slice a1 n1 c1, .slice a2 n2 c2, .func (.func 23) #[] #[]] w (SaysQ (l1 = l2) w) := by
  have hc := enter_same
  have HX := Lib.hid hx
  have HY := Lib.hid hy
  have HN1 := Lib.hid h1
  have HN2 := Lib.hid h2
  have HF := Lib.hid hf
  have IH := Lib.hid ih
  have hlen := length_le_sizes l1
  have hn1 : n1 ≤ 1000000000000000 := by omega
  obtain ⟨Pr, hP⟩ : ∃ Pr : Prop, Pr = (l1 = l2) := ⟨_, rfl⟩
  rw [← hP]
  have HP := Lib.hid hP
  clear hx hy h1 h2 hf ih hP hlen
  by_cases he : n1 = n2
  · have t1 : ((n1 : Int) != (n2 : Int)) = false := by simp [he]
    have t2 : (n1 != n2) = false := by simp [he]
    have HE := Lib.hid he
    have hle : n1 ≤ n2 := by omega
    clear he
    go_enter Tryd.func39, Tryd.ntmps39
    go_wp2_with fail
    go_loopw [17] (fun i wr => ∃ k : Nat, k ≤ n1 ∧ i = .int .i64 k ∧ (∀ j (h1 : j < l1.length) (h2 : j < l2.length), j < k → l1[j] = l2[j]) ∧ Ext w wr) (fun i _ => n1 - (intOf i).toNat)
    case atStart => exact ⟨0, by omega, rfl, fun j _ _ h => by omega, Ext.refl w⟩
    case round =>
      obtain ⟨k, hk, rfl, hall, hb⟩ := hrel
      have HA := Lib.hid hall
      have HB := Lib.hid hb
      clear hall hb
      by_cases hlt : k < n1
      · have hk1 : k < l1.length := by have := HN1.out; omega
        have hk2 : k < l2.length := by have := HN2.out; have := HE.out; omega
        have t3 : decide ((k : Int) < (n1 : Int)) = true := by simp; omega
        have hlt2 : k < n2 := by omega
        obtain ⟨b, off, rfl, aw1, nw1, cw1, aa1, na1, ca1, p0, p1, p2, p3, p4, p5, p6⟩ := ExsD.at l1 _ (ExsD.ext HB.out l1 _ HX.out) k hk1
        obtain ⟨b', off', rfl, aw2, nw2, cw2, aa2, na2, ca2, q0, q1, q2, q3, q4, q5, q6⟩ := ExsD.at l2 _ (ExsD.ext HB.out l2 _ HY.out) k hk2
        have P6 := Lib.hid p6
        have Q6 := Lib.hid q6
        have hbl := block_lt p0
        have hbl' := block_lt q0
        simp only at hbl hbl'
        have hsz := sizes_take_succ l1 k hk1
        have hsl := sizes_take_le l1 (k + 1)
        have hkm : l1[k].size ≤ m := by omega
        have HFK := Lib.hid (fewAll_at _ HF.out k hk1)
        have hne : b' ≠ wr.heap.size := by omega
        clear p6 q6 hsz hsl
        go_upto_region 7 with fail
        have HX2 := Lib.hid (((Ext.refl wr).alloc (.cells #[.int .i64 l1[k].op, .string l1[k].name, .slice aw1 nw1 cw1, .int .i64 l1[k].lo, .int .i64 l1[k].hi, .slice aa1 na1 ca1] 26)).alloc (.cells #[.int .i64 l2[k].op, .string l2[k].name, .slice aw2 nw2 cw2, .int .i64 l2[k].lo, .int .i64 l2[k].hi, .slice aa2 na2 ca2] 26))
        have HCALL := Lib.hid (IH.out l1[k] l2[k] _ _ _ hkm (P6.out.ext HX2.out) (Q6.out.ext HX2.out) HFK.out)
        unfold exV at HCALL
        clear p0 p1 p2 p3 p4 p5 q0 q1 q2 q3 q4 q5
        go_wp2_with fail
        refine HCALL.out.mono ?_
        rintro r w1 ⟨B, rfl, hB, hx1⟩
        have HBB := Lib.hid hB
        have HX3 := Lib.hid ((HB.out.trans HX2.out).trans hx1)
        clear hB hx1 HCALL
        cases B with
        | false =>
          have HNO := Lib.hid (show ¬ Pr from fun h => by
            rw [HP.out] at h
            have : l1[k] = l2[k] := by simp only [h]
            simpa using HBB.out.2 this)
          go_wp2_with fail
          go_ret
          exact says_false HNO.out HX3.out
        | true =>
          go_wp2_with fail
          go_roundw
          case rel =>
            refine ⟨k + 1, by omega, by go_num, fun j h1 h2 hjk => ?_, HX3.out⟩
            by_cases ej : j = k
            · subst ej; exact HBB.out.1 (by simp)
            · exact HA.out j h1 h2 (by omega)
          case measure => simp [intOf]; omega
      · have t3 : decide ((k : Int) < (n1 : Int)) = false := by simp; omega
        have HPr := Lib.hid (show Pr by rw [HP.out]; exact List.ext_getElem (by have := HN1.out; have := HN2.out; have := HE.out; omega) (fun j h1 h2 => HA.out j h1 h2 (by have := HN1.out; omega)))
        go_wp2_with fail
        go_ret
        exact says_true HPr.out HB.out
  · have t1 : ((n1 : Int) != (n2 : Int)) = true := by simp [bne_iff_ne]; omega
    have t2 : (n1 != n2) = true := by simp [bne_iff_ne]; omega
    have HNO := Lib.hid (show ¬ Pr from fun h => by rw [HP.out] at h; exact he (by rw [HN1.out, HN2.out, h]))
    clear he
    go_enter Tryd.func39, Tryd.ntmps39
    go_wp2_with fail
    go_ret
    exact says_false HNO.out (Ext.refl w)

set_option maxRecDepth 100000 in
set_option maxHeartbeats 4000000 in
theorem same_step (m : Nat) (ih : SameDo m) (hMM : m ≤ 1000000000000000) : SameDo (m + 1) := by
  intro a b va vb w hm hea heb hfit
  obtain ⟨aw, nw, cw, aa, na, ca, rfl, hw, hna, hca, ha, hx⟩ := hea.parts
  obtain ⟨aw', nw', cw', ab, nb, cb, rfl, hw', hnb, hcb, hb, hy⟩ := heb.parts
  have hS : a.size = 1 + sizes a.args := a.size_eq
  obtain ⟨hf1, hf2⟩ := few_parts hfit
  have hnw : nw ≤ 1000000000000000 := by have := hw.1; omega
  have hEQ := Ex.ext_iff a b
  obtain ⟨Pr, hP⟩ : ∃ Pr : Prop, Pr = (a = b) := ⟨_, rfl⟩
  rw [← hP]
  rw [← hP] at hEQ
  have HEQ := Lib.hid hEQ
  have HE2 := Lib.hid (((Ext.refl w).alloc (.cells #[.int .i64 a.op, .string a.name, .slice aw nw cw, .int .i64 a.lo, .int .i64 a.hi, .slice aa na ca] 26)).alloc (.cells #[.int .i64 b.op, .string b.name, .slice aw' nw' cw', .int .i64 b.lo, .int .i64 b.hi, .slice ab nb cb] 26))
  have HSW := Lib.hid (sequal_calls a.words b.words aw aw' nw cw nw' cw' _ (hw.ext HE2.out) (hw'.ext HE2.out) hnw)
  have HEF := Lib.hid (fun (W : World) (hW : Ext w W) => eqfunc_calls m ih hMM a.args b.args aa ab na ca nb cb W (ExsD.ext hW _ _ hx) (ExsD.ext hW _ _ hy) hna hnb (by omega) hf2)
  clear ih hx hy hna hnb hw hw' hca ha hcb hb hea heb hS hm hf1 hf2 hfit hEQ hP
  unfold exV
  cases c1 : (a.op == b.op)
  case false =>
    have HNO := Lib.hid (show ¬ Pr from fun h => by rw [(HEQ.out.1 h).1] at c1; simp at c1)
    go_enter Tryd.func23, Tryd.ntmps23
    go_wp2_with fail
    go_ret
    exact says_false HNO.out HE2.out
  case true =>
  have HC1 := Lib.hid (show a.op = b.op by simpa using c1)
  cases c2 : (a.name.toList == b.name.toList)
  case false =>
    have HNO := Lib.hid (show ¬ Pr from fun h => by rw [(HEQ.out.1 h).2.1] at c2; simp at c2)
    go_enter Tryd.func23, Tryd.ntmps23
    go_wp2_with fail
    go_ret
    exact says_false HNO.out HE2.out
  case true =>
  have HC2 := Lib.hid (toList_inj (beq_iff_eq.1 c2))
  by_cases c5 : a.words = b.words
  case neg =>
    have HNO := Lib.hid (show ¬ Pr from fun h => c5 (HEQ.out.1 h).2.2.1)
    rw [decide_eq_false c5] at HSW
    clear c5
    go_enter Tryd.func23, Tryd.ntmps23
    go_wp2_with fail
    refine HSW.out.mono ?_
    rintro r w1 ⟨rfl, q, rfl⟩
    go_wp2_with fail
    go_ret
    exact says_false HNO.out (HE2.out.trans (Ext.drewN (Ext.refl _) _))
  case pos =>
  rw [decide_eq_true c5] at HSW
  have HC5 := Lib.hid c5
  clear c5
  cases c3 : (a.lo == b.lo)
  case false =>
    have HNO := Lib.hid (show ¬ Pr from fun h => by rw [(HEQ.out.1 h).2.2.2.1] at c3; simp at c3)
    go_enter Tryd.func23, Tryd.ntmps23
    go_wp2_with fail
    refine HSW.out.mono ?_
    rintro r w1 ⟨rfl, q, rfl⟩
    go_wp2_with fail
    go_ret
    exact says_false HNO.out (HE2.out.trans (Ext.drewN (Ext.refl _) _))
  case true =>
  have HC3 := Lib.hid (show a.lo = b.lo by simpa using c3)
  cases c4 : (a.hi == b.hi)
  case false =>
    have HNO := Lib.hid (show ¬ Pr from fun h => by rw [(HEQ.out.1 h).2.2.2.2.1] at c4; simp at c4)
    go_enter Tryd.func23, Tryd.ntmps23
    go_wp2_with fail
    refine HSW.out.mono ?_
    rintro r w1 ⟨rfl, q, rfl⟩
    go_wp2_with fail
    go_ret
    exact says_false HNO.out (HE2.out.trans (Ext.drewN (Ext.refl _) _))
  case true =>
  have HC4 := Lib.hid (show a.hi = b.hi by simpa using c4)
  go_enter Tryd.func23, Tryd.ntmps23
  go_wp2_with fail
  refine HSW.out.mono ?_
  rintro r w1 ⟨rfl, q, rfl⟩
  go_wp2_with fail
  refine (HEF.out _ (HE2.out.trans (Ext.drewN (Ext.refl _) _))).mono ?_
  rintro r w2 ⟨B, rfl, hB, hx2⟩
  have HBB := Lib.hid hB
  have HX2 := Lib.hid ((HE2.out.trans (Ext.drewN (Ext.refl _) q)).trans hx2)
  clear hB hx2
  go_wp2_with fail
  go_ret
  exact ⟨B, rfl, HBB.out.trans ⟨fun h => HEQ.out.2 ⟨HC1.out, HC2.out, HC5.out, HC3.out, HC4.out, h⟩, fun h => (HEQ.out.1 h).2.2.2.2.2⟩, HX2.out⟩
theorem same_calls (m : Nat) : m ≤ 1000000000000000 → SameDo m := by
  induction m with
  | zero => intro _ a b va vb w h; have := size_pos a; omega
  | succ m ih => intro h; exact same_step m (ih (by omega)) (by omega)
end Go.Proofs.YtaepiiediblleaaDoor

namespace Go.Proofs.YtaepiiediblleaaDoor

def nameT (s : ByteArray) : Tok := ⟨1, s, 0, 0⟩
def markT (c : UInt8) : Tok := ⟨4, ⟨#[c]⟩, 0, 0⟩
def numT (n : Int) : Tok := ⟨2, ⟨#[]⟩, n, 0⟩
def wTo : ByteArray := ⟨#[116, 111]⟩

/-- Names with commas between them. -/
def listedT : List ByteArray → List Tok
  | [] => []
  | [s] => [nameT s]
  | s :: r => nameT s :: markT 44 :: listedT r

def paren (op aop : Int) : Bool := aop == 8 || (aop == 7 && op != 8)
mutual
/-- The tokens of an expression. -/
def tokE : Ex → List Tok
  | .mk op name words lo hi args =>
    if op = 1 then [nameT wTrue] else if op = 2 then [nameT wFalse] else if op = 3 then [nameT name] else
    if op = 4 then [nameT name, nameT wIn, markT 40] ++ listedT words ++ [markT 41] else
    if op = 5 then [nameT name, nameT wFrom, numT lo, nameT wTo, numT hi] else
    (if op = 6 then [nameT wNot] else []) ++ tokArgs op args
def tokArgs (op : Int) : List Ex → List Tok
  | [] => []
  | a :: r => (if paren op a.op then [markT 40] ++ tokE a ++ [markT 41] else tokE a) ++ tokMore op r
def tokMore (op : Int) : List Ex → List Tok
  | [] => []
  | a :: r => [nameT (if op = 7 then wAnd else wOr)] ++ (if paren op a.op then [markT 40] ++ tokE a ++ [markT 41] else tokE a) ++ tokMore op r
end

/-- From the k-th token on these tokens stand in the list, wherever in the text. -/
def AtT (toks : List Tok) : Nat → List Tok → Prop
  | _, [] => True
  | k, x :: r => (∃ p, toks[k]? = some ⟨x.kind, x.text, x.num, p⟩) ∧ AtT toks (k + 1) r
theorem AtT.append {toks : List Tok} : (l m : List Tok) → (k : Nat) → AtT toks k (l ++ m) ↔ AtT toks k l ∧ AtT toks (k + l.length) m
  | [], m, k => by simp [AtT]
  | x :: r, m, k => by
    simp only [List.cons_append, AtT, AtT.append r m (k + 1), List.length_cons]
    rw [show k + 1 + r.length = k + (r.length + 1) by omega]
    exact and_assoc.symm

theorem accept_at {toks : List Tok} {k : Nat} {kind : Int} {text : ByteArray} {x : Tok} (h : ∃ p, toks[k]? = some ⟨x.kind, x.text, x.num, p⟩) : acceptB toks k kind text = ((x.kind == kind) && decide (x.text = text)) := by
  obtain ⟨p, h⟩ := h; rw [acceptB, h]
theorem nameTok_at {toks : List Tok} {k : Nat} {x : Tok} (h : ∃ p, toks[k]? = some ⟨x.kind, x.text, x.num, p⟩) : nameTokB toks k = ((x.kind == 1) && nameB x.text) := by
  obtain ⟨p, h⟩ := h; rw [nameTokB, h]
theorem text_at {toks : List Tok} {k : Nat} {x : Tok} (h : ∃ p, toks[k]? = some ⟨x.kind, x.text, x.num, p⟩) : textAt toks k = x.text := by
  obtain ⟨p, h⟩ := h; rw [textAt, h]

/-- The fields of a node are those of its operator. -/
def okNode (e : Ex) : Prop :=
  (e.op = 1 ∧ e.name = ⟨#[]⟩ ∧ e.words = [] ∧ e.lo = 0 ∧ e.hi = 0 ∧ e.args = []) ∨ (e.op = 2 ∧ e.name = ⟨#[]⟩ ∧ e.words = [] ∧ e.lo = 0 ∧ e.hi = 0 ∧ e.args = []) ∨
  (e.op = 3 ∧ nameB e.name = true ∧ e.words = [] ∧ e.lo = 0 ∧ e.hi = 0 ∧ e.args = []) ∨ (e.op = 4 ∧ nameB e.name = true ∧ wordsB e.words = true ∧ e.lo = 0 ∧ e.hi = 0 ∧ e.args = []) ∨
  (e.op = 5 ∧ nameB e.name = true ∧ e.words = [] ∧ numberB e.lo = true ∧ numberB e.hi = true ∧ e.lo ≤ e.hi ∧ e.args = []) ∨
  (e.op = 6 ∧ e.name = ⟨#[]⟩ ∧ e.words = [] ∧ e.lo = 0 ∧ e.hi = 0 ∧ e.args.length = 1) ∨
  ((e.op = 7 ∨ e.op = 8) ∧ e.name = ⟨#[]⟩ ∧ e.words = [] ∧ e.lo = 0 ∧ e.hi = 0 ∧ 2 ≤ e.args.length)
mutual
def okTree : Ex → Prop
  | .mk op name words lo hi args => okNode (.mk op name words lo hi args) ∧ okTrees args
def okTrees : List Ex → Prop
  | [] => True
  | e :: r => okTree e ∧ okTrees r
end

theorem nameB_word {s : ByteArray} (h : nameB s = true) : s ≠ wTrue ∧ s ≠ wFalse ∧ s ≠ wNot ∧ s ≠ wIn ∧ s ≠ wFrom ∧ s ≠ wAnd ∧ s ≠ wOr ∧ s ≠ wTo := by
  simp only [nameB, Bool.and_eq_true, Bool.not_eq_true'] at h
  have h := h.2
  refine ⟨?_, ?_, ?_, ?_, ?_, ?_, ?_, ?_⟩ <;> (rintro rfl; revert h; decide +kernel)

/-- What follows: no and, no or (no list, no range either). -/
def Ends (toks : List Tok) (k : Nat) : Prop := acceptB toks k 1 wAnd = false ∧ acceptB toks k 1 wOr = false ∧ acceptB toks k 1 wIn = false ∧ acceptB toks k 1 wFrom = false

theorem list_read {toks : List Tok} : (ws : List ByteArray) → ws ≠ [] → (k f : Nat) → (acc : List ByteArray) → AtT toks k (listedT ws ++ [markT 41]) → (acc ++ ws).length ≤ 12 → (∀ x ∈ ws, nameB x = true) → (acc ++ ws).Nodup → ws.length ≤ f →
    listLoop toks f k acc = (acc ++ ws, 0, k + (listedT ws).length + 1)
  | [], h, _, _, _, _, _, _, _, _ => absurd rfl h
  | [s], _, k, f, acc, hat, hl, hn, hd, hf => by
    obtain ⟨f, rfl⟩ : ∃ g, f = g + 1 := ⟨f - 1, by simp at hf; omega⟩
    simp only [listedT, List.cons_append, List.nil_append, AtT] at hat
    obtain ⟨h1, h2, _⟩ := hat
    have hs := hn s (by simp)
    have hm : s ∉ acc := by
      rw [List.nodup_append] at hd
      exact fun h => hd.2.2 s h s (by simp) rfl
    rw [listLoop, if_neg (by rw [nameTok_at h1]; simp [nameT, hs]), if_neg (by simp at hl; omega), if_neg (by rw [text_at h1]; exact hm), if_neg (by rw [accept_at h2]; simp [markT]), if_pos (by rw [accept_at h2]; simp [markT]), text_at h1]
    simp [listedT, nameT]
  | s :: s2 :: r, _, k, f, acc, hat, hl, hn, hd, hf => by
    obtain ⟨f, rfl⟩ : ∃ g, f = g + 1 := ⟨f - 1, by simp at hf; omega⟩
    simp only [listedT, List.cons_append, AtT] at hat
    obtain ⟨h1, h2, h3⟩ := hat
    have hs := hn s (by simp)
    have hm : s ∉ acc := by
      rw [List.nodup_append] at hd
      exact fun h => hd.2.2 s h s (by simp) rfl
    rw [listLoop, if_neg (by rw [nameTok_at h1]; simp [nameT, hs]), if_neg (by simp at hl; omega), if_neg (by rw [text_at h1]; exact hm), if_pos (by rw [accept_at h2]; simp [markT]), text_at h1]
    have e : acc ++ [(nameT s).text] ++ (s2 :: r) = acc ++ s :: s2 :: r := by simp [nameT]
    rw [list_read (s2 :: r) (by simp) (k + 2) f (acc ++ [(nameT s).text]) h3 (by rw [e]; exact hl) (fun x hx => hn x (List.mem_cons_of_mem _ hx)) (by rw [e]; exact hd) (by simp at hf ⊢; omega), e]
    simp [listedT]
    omega
end Go.Proofs.YtaepiiediblleaaDoor

namespace Go.Proofs.YtaepiiediblleaaDoor

/-- The tokens of an argument. -/
def argT (op : Int) (a : Ex) : List Tok := if paren op a.op then [markT 40] ++ tokE a ++ [markT 41] else tokE a
theorem tokArgs_cons (op : Int) (a : Ex) (r : List Ex) : tokArgs op (a :: r) = argT op a ++ tokMore op r := by rw [tokArgs]; rfl
theorem tokMore_cons (op : Int) (a : Ex) (r : List Ex) : tokMore op (a :: r) = nameT (if op = 7 then wAnd else wOr) :: (argT op a ++ tokMore op r) := by rw [tokMore]; simp [argT]

/-- What follows is no word that goes on with an atom. -/
def NoTail (toks : List Tok) (k : Nat) : Prop := acceptB toks k 1 wIn = false ∧ acceptB toks k 1 wFrom = false
theorem noTail_name {toks : List Tok} {k : Nat} {s : ByteArray} (h : ∃ p, toks[k]? = some ⟨(nameT s).kind, (nameT s).text, (nameT s).num, p⟩) (h1 : s ≠ wIn) (h2 : s ≠ wFrom) : NoTail toks k := by
  constructor <;> (rw [accept_at h]; simp [nameT, h1, h2])
theorem noTail_mark {toks : List Tok} {k : Nat} {c : UInt8} (h : ∃ p, toks[k]? = some ⟨(markT c).kind, (markT c).text, (markT c).num, p⟩) : NoTail toks k := by
  constructor <;> (rw [accept_at h]; simp [markT])
theorem wAnd_ne : wAnd ≠ wIn ∧ wAnd ≠ wFrom ∧ wOr ≠ wIn ∧ wOr ≠ wFrom ∧ wOr ≠ wAnd ∧ wNot ≠ wTrue ∧ wNot ≠ wFalse := by decide +kernel
theorem ends_mark {toks : List Tok} {k : Nat} {c : UInt8} (h : ∃ p, toks[k]? = some ⟨(markT c).kind, (markT c).text, (markT c).num, p⟩) : acceptB toks k 1 wAnd = false ∧ acceptB toks k 1 wOr = false := by
  constructor <;> (rw [accept_at h]; simp [markT])

/-- What the tokens of an expression are read as. -/
def Reads (toks : List Tok) (e : Ex) : Prop := ∀ k, AtT toks k (tokE e) → NoTail toks (k + (tokE e).length) →
  (e.op ≠ 7 → e.op ≠ 8 → Gr toks .neg k [] e 0 (k + (tokE e).length)) ∧ (e.op = 7 → acceptB toks (k + (tokE e).length) 1 wAnd = false → Gr toks .ands k [] e 0 (k + (tokE e).length)) ∧
  (e.op = 8 → acceptB toks (k + (tokE e).length) 1 wAnd = false → acceptB toks (k + (tokE e).length) 1 wOr = false → Gr toks .ors k [] e 0 (k + (tokE e).length))

theorem Reads.ands {toks : List Tok} {e : Ex} (h : Reads toks e) (h8 : e.op ≠ 8) {k : Nat} (ha : AtT toks k (tokE e)) (ht : NoTail toks (k + (tokE e).length)) (h1 : acceptB toks (k + (tokE e).length) 1 wAnd = false) : Gr toks .ands k [] e 0 (k + (tokE e).length) := by
  by_cases h7 : e.op = 7
  · exact (h k ha ht).2.1 h7 h1
  · exact Gr.andStop (acc := []) ((h k ha ht).1 h7 h8) h1
theorem Reads.ors {toks : List Tok} {e : Ex} (h : Reads toks e) {k : Nat} (ha : AtT toks k (tokE e)) (ht : NoTail toks (k + (tokE e).length)) (h1 : acceptB toks (k + (tokE e).length) 1 wAnd = false) (h2 : acceptB toks (k + (tokE e).length) 1 wOr = false) : Gr toks .ors k [] e 0 (k + (tokE e).length) := by
  by_cases h8 : e.op = 8
  · exact (h k ha ht).2.2 h8 h1 h2
  · exact Gr.orStop (acc := []) (h.ands h8 ha ht h1) h2
theorem not_mark {toks : List Tok} {k : Nat} {c : UInt8} (h : ∃ p, toks[k]? = some ⟨(markT c).kind, (markT c).text, (markT c).num, p⟩) : acceptB toks k 1 wNot = false := by rw [accept_at h]; simp [markT]
/-- An expression in parentheses. -/
theorem Reads.parens {toks : List Tok} {e : Ex} (h : Reads toks e) {k : Nat} (ha : AtT toks k ([markT 40] ++ tokE e ++ [markT 41])) : Gr toks .neg k [] e 0 (k + ([markT 40] ++ tokE e ++ [markT 41]).length) := by
  rw [AtT.append, AtT.append] at ha
  obtain ⟨⟨h1, h2⟩, h3⟩ := ha
  have ho : ∃ p, toks[k]? = some ⟨(markT 40).kind, (markT 40).text, (markT 40).num, p⟩ := h1.1
  simp only [List.length_singleton] at h2
  have hl : k + ([markT 40] ++ tokE e).length = k + 1 + (tokE e).length := by simp; omega
  rw [hl] at h3
  have hc : ∃ p, toks[k + 1 + (tokE e).length]? = some ⟨(markT 41).kind, (markT 41).text, (markT 41).num, p⟩ := h3.1
  have hg := h.ors h2 (noTail_mark hc) (ends_mark hc).1 (ends_mark hc).2
  have := Gr.negAtom (not_mark ho) (Gr.parenOk (by rw [accept_at ho]; simp [markT]) hg (by rw [accept_at hc]; simp [markT]))
  rw [show k + ([markT 40] ++ tokE e ++ [markT 41]).length = k + 1 + (tokE e).length + 1 by simp; omega]
  exact this
/-- An argument of not, or of and. -/
theorem Reads.argNeg {toks : List Tok} {e : Ex} (h : Reads toks e) {op : Int} (hop : op ≠ 8) {k : Nat} (ha : AtT toks k (argT op e)) (ht : NoTail toks (k + (argT op e).length)) : Gr toks .neg k [] e 0 (k + (argT op e).length) := by
  unfold argT at *
  by_cases hp : paren op e.op = true
  · rw [if_pos hp] at *
    exact h.parens ha
  · rw [if_neg hp] at *
    simp only [paren, Bool.or_eq_true, Bool.and_eq_true, beq_iff_eq, bne_iff_ne, not_or, not_and] at hp
    exact (h k ha ht).1 (fun e7 => hp.2 e7 hop) hp.1
/-- An argument of or. -/
theorem Reads.argAnds {toks : List Tok} {e : Ex} (h : Reads toks e) {k : Nat} (ha : AtT toks k (argT 8 e)) (ht : NoTail toks (k + (argT 8 e).length)) (h1 : acceptB toks (k + (argT 8 e).length) 1 wAnd = false) : Gr toks .ands k [] e 0 (k + (argT 8 e).length) := by
  unfold argT at *
  by_cases hp : paren 8 e.op = true
  · rw [if_pos hp] at *
    exact Gr.andStop (acc := []) (h.parens ha) h1
  · rw [if_neg hp] at *
    simp only [paren, Bool.or_eq_true, Bool.and_eq_true, beq_iff_eq, bne_iff_ne, not_or, not_and] at hp
    exact h.ands hp.1 ha ht h1

/-- Arguments of and. -/
theorem ands_read {toks : List Tok} : (r : List Ex) → (a : Ex) → (∀ x ∈ a :: r, Reads toks x) → (acc : List Ex) → (k : Nat) → AtT toks k (argT 7 a ++ tokMore 7 r) → NoTail toks (k + (argT 7 a ++ tokMore 7 r).length) → acceptB toks (k + (argT 7 a ++ tokMore 7 r).length) 1 wAnd = false →
    Gr toks .ands k acc (joinE 7 (acc ++ a :: r)) 0 (k + (argT 7 a ++ tokMore 7 r).length)
  | [], a, hr, acc, k, ha, ht, h1 => by
    simp only [tokMore, List.append_nil] at *
    exact Gr.andStop ((hr a (by simp)).argNeg (by decide) ha ht) h1
  | b :: r, a, hr, acc, k, ha, ht, h1 => by
    rw [tokMore_cons, if_pos rfl, AtT.append] at ha
    obtain ⟨ha1, hw, ha2⟩ := ha
    have hlen : k + (argT 7 a ++ tokMore 7 (b :: r)).length = k + (argT 7 a).length + 1 + (argT 7 b ++ tokMore 7 r).length := by rw [tokMore_cons]; simp; omega
    rw [hlen] at ht h1 ⊢
    have hg := (hr a (by simp)).argNeg (op := 7) (by decide) ha1 (noTail_name hw wAnd_ne.1 wAnd_ne.2.1)
    have ih := ands_read r b (fun x hx => hr x (List.mem_cons_of_mem _ hx)) (acc ++ [a]) (k + (argT 7 a).length + 1) ha2 ht h1
    refine Gr.andStep hg (by rw [accept_at hw]; simp [nameT]) ?_
    simpa using ih
/-- Arguments of or. -/
theorem ors_read {toks : List Tok} : (r : List Ex) → (a : Ex) → (∀ x ∈ a :: r, Reads toks x) → (acc : List Ex) → (k : Nat) → AtT toks k (argT 8 a ++ tokMore 8 r) → NoTail toks (k + (argT 8 a ++ tokMore 8 r).length) → acceptB toks (k + (argT 8 a ++ tokMore 8 r).length) 1 wAnd = false → acceptB toks (k + (argT 8 a ++ tokMore 8 r).length) 1 wOr = false →
    Gr toks .ors k acc (joinE 8 (acc ++ a :: r)) 0 (k + (argT 8 a ++ tokMore 8 r).length)
  | [], a, hr, acc, k, ha, ht, h1, h2 => by
    simp only [tokMore, List.append_nil] at *
    exact Gr.orStop ((hr a (by simp)).argAnds ha ht h1) h2
  | b :: r, a, hr, acc, k, ha, ht, h1, h2 => by
    rw [tokMore_cons, if_neg (by decide), AtT.append] at ha
    obtain ⟨ha1, hw, ha2⟩ := ha
    have hlen : k + (argT 8 a ++ tokMore 8 (b :: r)).length = k + (argT 8 a).length + 1 + (argT 8 b ++ tokMore 8 r).length := by rw [tokMore_cons]; simp; omega
    rw [hlen] at ht h1 h2 ⊢
    have hg := (hr a (by simp)).argAnds ha1 (noTail_name hw wAnd_ne.2.2.1 wAnd_ne.2.2.2.1) (by rw [accept_at hw]; simp [nameT, wAnd_ne.2.2.2.2.1])
    have ih := ors_read r b (fun x hx => hr x (List.mem_cons_of_mem _ hx)) (acc ++ [a]) (k + (argT 8 a).length + 1) ha2 ht h1 h2
    refine Gr.orStep hg (by rw [accept_at hw]; simp [nameT]) ?_
    simpa using ih
theorem okTrees_mem {l : List Ex} (h : okTrees l) : ∀ x ∈ l, okTree x := by
  induction l with
  | nil => intro x hx; simp at hx
  | cons e r ih =>
    unfold okTrees at h
    intro x hx
    rcases List.mem_cons.1 hx with rfl | hx
    · exact h.1
    · exact ih h.2 x hx
theorem operand_gr {toks : List Tok} {k : Nat} {e : Ex} {n : Nat} (h1 : acceptB toks k 4 ⟨#[40]⟩ = false) (h2 : acceptB toks k 1 wNot = false) (h3 : operandF toks k = (⟨e, 1, 1⟩, 0, n)) : Gr toks .neg k [] e 0 n := by
  have := Gr.negAtom h2 (Gr.operand h1)
  rw [h3] at this
  exact this
theorem name_start {toks : List Tok} {k : Nat} {s : ByteArray} (h : ∃ p, toks[k]? = some ⟨(nameT s).kind, (nameT s).text, (nameT s).num, p⟩) (hs : s ≠ wNot) : acceptB toks k 4 ⟨#[40]⟩ = false ∧ acceptB toks k 1 wNot = false := by
  constructor <;> (rw [accept_at h]; simp [nameT, hs])
theorem reads_ok (toks : List Tok) (m : Nat) : ∀ e : Ex, e.size ≤ m → okTree e → Reads toks e := by
  induction m with
  | zero => intro e h; have := e.size_eq; omega
  | succ m ih =>
    intro e hm hok k ha ht
    have hsz := e.size_eq
    have hargs : ∀ x ∈ e.args, Reads toks x := fun x hx => ih x (by have := sizes_mem hx; omega) (by
      cases e; unfold okTree at hok; exact okTrees_mem hok.2 x hx)
    have hnode : okNode e := by cases e; unfold okTree at hok; exact hok.1
    obtain ⟨op, name, words, lo, hi, args⟩ := e
    simp only [Ex.op, Ex.name, Ex.words, Ex.lo, Ex.hi, Ex.args, okNode] at hnode hargs ⊢
    rcases hnode with ⟨rfl, rfl, rfl, rfl, rfl, rfl⟩ | ⟨rfl, rfl, rfl, rfl, rfl, rfl⟩ | ⟨rfl, hn, rfl, rfl, rfl, rfl⟩ | ⟨rfl, hn, hw, rfl, rfl, rfl⟩ | ⟨rfl, hn, rfl, hl, hh, hlh, rfl⟩ | ⟨rfl, rfl, rfl, rfl, rfl, hl⟩ | ⟨hop, rfl, rfl, rfl, rfl, hl⟩
    · refine ⟨fun _ _ => ?_, fun h => by simp at h, fun h => by simp at h⟩
      simp only [tokE, if_true, AtT] at ha ⊢
      have hs := name_start ha.1 (by decide +kernel)
      exact operand_gr hs.1 hs.2 (by rw [operandF, if_pos (by rw [accept_at ha.1]; simp [nameT])]; rfl)
    · refine ⟨fun _ _ => ?_, fun h => by simp at h, fun h => by simp at h⟩
      have e0 : tokE (.mk 2 ⟨#[]⟩ [] 0 0 []) = [nameT wFalse] := by simp [tokE]
      rw [e0] at ha ⊢
      simp only [AtT] at ha
      have hs := name_start ha.1 (by decide +kernel)
      exact operand_gr hs.1 hs.2 (by rw [operandF, if_neg (by rw [accept_at ha.1]; simp [nameT, (by decide +kernel : wFalse ≠ wTrue)]), if_pos (by rw [accept_at ha.1]; simp [nameT])]; rfl)
    · refine ⟨fun _ _ => ?_, fun h => by simp at h, fun h => by simp at h⟩
      have e0 : tokE (.mk 3 name [] 0 0 []) = [nameT name] := by simp [tokE]
      rw [e0] at ha ht ⊢
      simp only [AtT] at ha
      obtain ⟨n1, n2, n3, _⟩ := nameB_word hn
      have hs := name_start ha.1 n3
      refine operand_gr hs.1 hs.2 ?_
      rw [operandF, if_neg (by rw [accept_at ha.1]; simp [nameT, n1]), if_neg (by rw [accept_at ha.1]; simp [nameT, n2]), if_neg (by rw [nameTok_at ha.1]; simp [nameT, hn]), if_neg (by have := ht.1; simp at this; simp [this]), if_neg (by have := ht.2; simp at this; simp [this]), text_at ha.1]
      rfl
    · refine ⟨fun _ _ => ?_, fun h => by simp at h, fun h => by simp at h⟩
      have e0 : tokE (.mk 4 name words 0 0 []) = [nameT name, nameT wIn, markT 40] ++ (listedT words ++ [markT 41]) := by simp [tokE]
      rw [e0, AtT.append] at ha
      rw [e0] at ht ⊢
      obtain ⟨⟨a1, a2, a3, _⟩, a4⟩ := ha
      obtain ⟨n1, n2, n3, _⟩ := nameB_word hn
      have hs := name_start a1 n3
      simp only [wordsB, Bool.and_eq_true, bne_iff_ne, decide_eq_true_eq, List.all_eq_true] at hw
      have hlist : listF toks (k + 2) = (words, 0, k + ([nameT name, nameT wIn, markT 40] ++ (listedT words ++ [markT 41])).length) := by
        rw [listF, if_pos (by rw [accept_at a3]; simp [markT]), list_read words (fun e => hw.1.1.1 (by rw [e]; rfl)) (k + 3) 14 [] a4 (by simpa using hw.1.1.2) hw.1.2 (by simpa using hw.2) (by have := hw.1.1.2; omega)]
        simp
        omega
      refine operand_gr hs.1 hs.2 ?_
      rw [operandF, if_neg (by rw [accept_at a1]; simp [nameT, n1]), if_neg (by rw [accept_at a1]; simp [nameT, n2]), if_neg (by rw [nameTok_at a1]; simp [nameT, hn]), if_pos (by rw [accept_at a2]; simp [nameT]), hlist, text_at a1]
      rfl
    · refine ⟨fun _ _ => ?_, fun h => by simp at h, fun h => by simp at h⟩
      have e0 : tokE (.mk 5 name [] lo hi []) = [nameT name, nameT wFrom, numT lo, nameT wTo, numT hi] := by simp [tokE]
      rw [e0] at ha ht ⊢
      obtain ⟨a1, a2, ⟨p3, a3⟩, a4, ⟨p5, a5⟩, _⟩ := ha
      obtain ⟨n1, n2, n3, _⟩ := nameB_word hn
      have hs := name_start a1 n3
      have hb1 : boundF toks (k + 2) (-1000000000) = (lo, 0, k + 3) := by
        have hlo : -1000000000 ≤ lo := by simp [numberB] at hl; exact hl.1
        rw [boundF, a3]
        simp [numT, hl, hlo]
      have hb2 : boundF toks (k + 4) lo = (hi, 0, k + 5) := by
        rw [boundF, a5]
        simp [numT, hh, hlh]
      have hint : intervalF toks (k + 2) = (lo, hi, 0, k + 5) := by
        unfold intervalF
        simp only [hb1]
        rw [if_neg (by simp), if_neg (by rw [show (⟨#[116, 111]⟩ : ByteArray) = wTo from rfl, accept_at a4]; simp [nameT])]
        simp only [hb2]
      refine operand_gr hs.1 hs.2 ?_
      rw [operandF, if_neg (by rw [accept_at a1]; simp [nameT, n1]), if_neg (by rw [accept_at a1]; simp [nameT, n2]), if_neg (by rw [nameTok_at a1]; simp [nameT, hn]), if_neg (by rw [accept_at a2]; simp [nameT, (by decide +kernel : wFrom ≠ wIn)]), if_pos (by rw [accept_at a2]; simp [nameT]), hint, text_at a1]
      rfl
    · refine ⟨fun _ _ => ?_, fun h => by simp at h, fun h => by simp at h⟩
      obtain ⟨x, rfl⟩ : ∃ x, args = [x] := by
        match args, hl with
        | [x], _ => exact ⟨x, rfl⟩
      have e0 : tokE (.mk 6 ⟨#[]⟩ [] 0 0 [x]) = nameT wNot :: argT 6 x := by
        rw [tokE]; simp [tokArgs_cons, tokMore]
      rw [e0] at ha ht ⊢
      have hlen : k + (nameT wNot :: argT 6 x).length = k + 1 + (argT 6 x).length := by simp; omega
      rw [hlen] at ht ⊢
      exact Gr.notOk (by rw [accept_at ha.1]; simp [nameT]) ((hargs x (by simp)).argNeg (by decide) ha.2 ht)
    · obtain ⟨a, b, r, rfl⟩ : ∃ a b r, args = a :: b :: r := by
        match args, hl with
        | a :: b :: r, _ => exact ⟨a, b, r, rfl⟩
      rcases hop with rfl | rfl
      · have e0 : tokE (.mk 7 ⟨#[]⟩ [] 0 0 (a :: b :: r)) = argT 7 a ++ tokMore 7 (b :: r) := by rw [tokE]; simp [tokArgs_cons]
        rw [e0] at ha ht ⊢
        exact ⟨fun h => absurd rfl h, fun _ h1 => ands_read (b :: r) a hargs [] k ha ht h1, fun h => by simp at h⟩
      · have e0 : tokE (.mk 8 ⟨#[]⟩ [] 0 0 (a :: b :: r)) = argT 8 a ++ tokMore 8 (b :: r) := by rw [tokE]; simp [tokArgs_cons]
        rw [e0] at ha ht ⊢
        exact ⟨fun _ h => absurd rfl h, fun h => by simp at h, fun _ h1 h2 => ors_read (b :: r) a hargs [] k ha ht h1 h2⟩
/-- The tokens of an expression at the end of a list are read as the expression. -/
theorem run_ok {toks : List Tok} {e : Ex} {k : Nat} (hok : okTree e) (ha : AtT toks k (tokE e)) (hend : toks.length ≤ k + (tokE e).length) : run toks true k [] lvl0 = (partOf e, 0, k + (tokE e).length) := by
  have hno : ∀ kind text, acceptB toks (k + (tokE e).length) kind text = false := fun kind text => by rw [acceptB, List.getElem?_eq_none hend]
  have := Gr.run ((reads_ok toks e.size e (Nat.le_refl _) hok).ors ha ⟨hno _ _, hno _ _⟩ (hno _ _) (hno _ _))
  simpa using this
end Go.Proofs.YtaepiiediblleaaDoor

namespace Go.Proofs.YtaepiiediblleaaDoor
open Go.RowKit

theorem nameToken_calls (s : ByteArray) (w : World) : Calls Tryd.prog 48 #[.string s] w (GivesE (tokV (nameT s)) w) := by
  go_enter Tryd.func48, Tryd.ntmps48
  go_wp2_with fail
  refine bodyPost_ret (v := tokV (nameT s)) (by simp [results, Tryd.results48, go_sem, tokV, nameT]) rfl ⟨rfl, ?_⟩
  exact (Ext.refl w).alloc _
theorem markToken_calls (c : UInt8) (w : World) : Calls Tryd.prog 50 #[.string ⟨#[c]⟩] w (GivesE (tokV (markT c)) w) := by
  go_enter Tryd.func50, Tryd.ntmps50
  go_wp2_with fail
  exact bodyPost_ret (v := tokV (markT c)) (by simp [results, Tryd.results50, go_sem, tokV, markT]) rfl ⟨rfl, (Ext.refl w).alloc _⟩
theorem numberToken_calls (n : Int) (w : World) : Calls Tryd.prog 51 #[.int .i64 n] w (GivesE (tokV (numT n)) w) := by
  go_enter Tryd.func51, Tryd.ntmps51
  go_wp2_with fail
  exact bodyPost_ret (v := tokV (numT n)) (by simp [results, Tryd.results51, go_sem, tokV, numT]) rfl ⟨rfl, (Ext.refl w).alloc _⟩

theorem mask_in {w : World} {M : List Nat} {p : Addr} {v : Value} (h : (mask w M).cell? p = some v) : w.cell? p = some v := by
  rw [mask_cell] at h
  split at h
  · cases h
  · exact h
/-- A row of tokens that the call owns. -/
def OwnT (w : World) (base : Nat) (l : List Tok) (v : Value) : Prop := w.ownsRow base 61 4 v l.length (l.flatMap tokCells)
/-- The row v has become v': the old one, or a new one; nothing else has changed. -/
def Grew (w : World) (v : Value) (w' : World) (v' : Value) : Prop := Chg (rowOf v) w w' ∧ ∀ k, v'.ownBlock = some k → v.ownBlock = some k ∨ w.heap.size ≤ k
theorem Grew.refl (w : World) (v : Value) : Grew w v w v := ⟨Chg.refl _ _, fun _ h => Or.inl h⟩
theorem Grew.trans {a b c : World} {u v x : Value} (h : Grew a u b v) (k : Grew b v c x) : Grew a u c x := by
  have hz := h.1.size
  refine ⟨h.1.trans k.1 fun y hy => ?_, fun y hy => ?_⟩
  · rcases h.2 y (mem_rowOf.1 hy) with h1 | h1
    · exact Or.inl (mem_rowOf.2 h1)
    · exact Or.inr h1
  · rcases k.2 y hy with h1 | h1
    · exact h.2 y h1
    · exact Or.inr (by omega)
theorem Ext.grew {w w' : World} (h : Ext w w') (v : Value) : Grew w v w' v := ⟨h.chg _, fun _ h => Or.inl h⟩
theorem Grew.sub {w w' : World} {v v' : Value} (h : Grew w v w' v') : Sub (mask w (rowOf v)) (mask w' (rowOf v')) := mask_sub_mask fun k hk hn => ⟨fun hm => by
    rcases h.2 k (mem_rowOf.1 hm) with h1 | h1
    · exact hn (mem_rowOf.2 h1)
    · omega, h.1.block k hk hn⟩
theorem OwnT.ext {w w' : World} {base : Nat} {l : List Tok} {v : Value} (h : OwnT w base l v) (he : Ext w w') : OwnT w' base l v := owns_ext h he
theorem OwnT.lt {w : World} {base : Nat} {l : List Tok} {v : Value} (h : OwnT w base l v) {k : Nat} (hk : k ∈ rowOf v) : base ≤ k ∧ k < w.heap.size := World.ownsRow.lt h k (mem_rowOf.1 hk)
def TokQ (base : Nat) (l : List Tok) (v : Value) (w : World) (e : Ending) (w' : World) : Prop := ∃ v', e = .returned v' ∧ OwnT w' base l v' ∧ Grew w v w' v'

/-- append of tokens that were just laid into a block of their own. -/
theorem wpList_append_tok {ops : Array Oper} {rest : List Oper} {o : Oper} {a : Act} {Q : Exit → Act → World → Prop} {X : World} {arr : Array Value} {tt : TypeId}
    (hgd : o.guard = none) (s x : Operand) (ho : o.op = .call { callee := .builtin .append, args := #[s, x], argTypes := #[54, 54] }) (base : Nat) (v : Value) (l ts : List Tok) (hs : a.eval s = v) (hown : OwnT X base l v)
    (B m c : Nat) (hx : a.eval x = .slice (some ⟨B, 0, none⟩) m c) (hB : B = X.heap.size) (harr : arr.toList = ts.flatMap tokCells) (hm : m = ts.length) (hm0 : 0 < m) (hn : l.length + m ≤ 100000000) (hbase : base ≤ X.heap.size)
    (h : ∀ v' w', OwnT w' base (l ++ ts) v' → Grew X v w' v' → wpList Tryd.prog ops Q rest (a.put o.dst v') w') : wpList Tryd.prog ops Q (o :: rest) a (X.alloc (.cells arr tt)) := by
  subst hB hm
  obtain ⟨i, hi, hz, hsz, hby⟩ := info_parts elemTok.info
  refine wpList_append_lies (X.alloc (.cells arr tt)) hgd s x 54 ho base 61 i _ 4 40 elemTok.ht hi hz hsz hby elemTok.hzs elemTok.hsz v l.length _ hs (World.ownsRow.alloc hown _) ⟨X.heap.size, 0, none⟩ ts.length c arr.toList hx ?_ ?_ ?_ hm0 (by simp only [maxLen]; omega) (by omega) (by simp; omega) _ rfl ?_
  · rw [harr, length_flatMap_of tokCells 4 (fun _ => rfl)]
  · intro j u hu
    have : (⟨X.heap.size, 0, none⟩ : Addr).add j = ⟨X.heap.size, j, none⟩ := by unfold Addr.add; split <;> simp_all
    rw [this, World.cell?_alloc_at _ _ _ _ rfl]
    simpa using hu
  · rw [harr]
    intro u hu
    obtain ⟨t, _, ht⟩ := List.mem_flatMap.1 hu
    simp only [tokCells, List.mem_cons, List.not_mem_nil, or_false] at ht
    rcases ht with rfl | rfl | rfl | rfl <;> rfl
  · intro g cap w' h2 h3 h4 h5
    refine h _ _ ?_ ⟨⟨h3.os, h3.tape, h3.output, ?_, fun k hk hne => ?_⟩, fun k hk => ?_⟩
    · unfold OwnT
      rw [List.length_append, List.flatMap_append, ← harr]
      exact h2
    · have := h3.size; simp at this; omega
    · rw [h3.block k (by simp; omega) (fun e => hne (mem_rowOf.2 e.symm))]
      exact Below.heap_alloc _ _ _ hk
    · simp only [Value.ownBlock] at hk
      injection hk with hk
      subst hk
      rcases h4 with h4 | h4
      · exact Or.inl h4
      · exact Or.inr (by simp at h4; omega)

theorem listedT_snoc (x : ByteArray) : (l : List ByteArray) → listedT (l ++ [x]) = listedT l ++ ((if l.length = 0 then [] else [markT 44]) ++ [nameT x])
  | [] => by simp [listedT]
  | [a] => by simp [listedT]
  | a :: b :: r => by
    have := listedT_snoc x (b :: r)
    simp only [List.cons_append, List.length_cons] at this ⊢
    simp only [listedT, this]
    simp
theorem listedT_len : (l : List ByteArray) → (listedT l).length ≤ 2 * l.length
  | [] => by simp [listedT]
  | [a] => by simp [listedT]
  | a :: b :: r => by have := listedT_len (b :: r); simp only [listedT, List.length_cons] at this ⊢; omega

set_option maxRecDepth 100000 in
set_option maxHeartbeats 1000000 in
theorem listed_calls (ws : List ByteArray) (l : List Tok) (v : Value) (base : Nat) (a : Option Addr) (n c : Nat) (w : World) (ho : OwnT w base l v) (hs : IsStrs (mask w (rowOf v)) ws a n c) (hb : base ≤ w.heap.size) (hl : l.length ≤ 10000) (hn : n ≤ 10000) :
    Calls Tryd.prog 49 #[v, .slice a n c] w (TokQ base (l ++ listedT ws) v w) := by
  have HO := Lib.hid ho
  have HS := Lib.hid hs
  have HN := Lib.hid hs.1
  clear ho hs
  go_enter Tryd.func49, Tryd.ntmps49
  go_wp2_with fail
  go_loopw [0, 5] (fun u i wr => ∃ k : Nat, k ≤ n ∧ i = .int .i64 k ∧ OwnT wr base (l ++ listedT (ws.take k)) u ∧ Grew w v wr u) (fun _ i _ => n - (intOf i).toNat)
  case atStart => exact ⟨0, by omega, rfl, by simpa [listedT] using HO.out, Grew.refl _ _⟩
  case round =>
    obtain ⟨k, hk, rfl, ho, hg⟩ := hrel
    have HO1 := Lib.hid ho
    have HG1 := Lib.hid hg
    clear ho hg
    by_cases hlt : k < n
    · have hlt' : k < ws.length := by have := HN.out; omega
      have t1 : decide ((k : Int) < (n : Int)) = true := by simp; omega
      obtain ⟨b, off, rfl, hcell⟩ := HS.out.2.2.2 k hlt'
      have hcell := HG1.out.sub _ _ hcell
      have HC := Lib.hid hcell
      have HL := Lib.hid (listedT_snoc ws[k] (ws.take k))
      have HT := Lib.hid (show ws.take (k + 1) = ws.take k ++ [ws[k]] by simp)
      have hlen := listedT_len (ws.take k)
      have hlen2 : (listedT (ws.take k)).length ≤ 20000 := by rw [List.length_take] at hlen; omega
      have hz1 := HG1.out.1.size
      clear hcell hlen
      by_cases hk0 : k = 0
      case' pos =>
        have HL1 := Lib.hid (show l ++ listedT (ws.take (k + 1)) = l ++ listedT (ws.take k) ++ [nameT ws[k]] by rw [HT.out, HL.out, List.length_take, if_pos (by omega)]; simp)
        have hLL : (l ++ listedT (ws.take k)).length ≤ 30001 := by rw [List.length_append]; omega
        have t2 : decide (0 < (k : Int)) = false := by simp; omega
        have t3 : decide (0 < k) = false := by simp; omega
        have HO2 := Lib.hid HO1.out
        have HG2 := Lib.hid HG1.out
        generalize l ++ listedT (ws.take k) = L2 at *
        clear HO1 HG1 HL HT hk0
      case' neg =>
        have HL1 := Lib.hid (show l ++ listedT (ws.take (k + 1)) = l ++ listedT (ws.take k) ++ [markT 44] ++ [nameT ws[k]] by rw [HT.out, HL.out, List.length_take, if_neg (by omega)]; simp)
        have hLL : (l ++ listedT (ws.take k) ++ [markT 44]).length ≤ 30001 := by rw [List.length_append, List.length_append]; simp; omega
        have t2 : decide (0 < (k : Int)) = true := by simp; omega
        have t3 : decide (0 < k) = true := by simp; omega
        generalize l ++ listedT (ws.take k) = L at *
        clear HL HT hk0
        go_wp2_with fail
        refine (markToken_calls 44 _).mono ?_
        rintro r w1 ⟨rfl, hx1⟩
        have HOW := Lib.hid (HO1.out.ext hx1)
        have HGW := Lib.hid (HG1.out.trans (hx1.grew _))
        have hz := hx1.size
        have HX1 := Lib.hid hx1
        simp only [tokV, markT]
        clear hx1
        go_wp2_with (at_builtin; refine wpList_append_tok rfl _ _ rfl base _ _ [markT 44] rfl HOW.out _ 1 1 rfl ?c0 ?c1 rfl ?c2 ?c3 ?c4 ?_)
        case c0 => rfl
        case c1 => rfl
        case c2 => omega
        case c3 => have := hLL; rw [List.length_append] at this; simp at this; omega
        case c4 => omega
        intro v2 w2 hown2 hgrow2
        have HO2 := Lib.hid hown2
        have HG2 := Lib.hid (HGW.out.trans hgrow2)
        have HC := Lib.hid (hgrow2.sub _ _ ((HX1.out.grew _).sub _ _ HC.out))
        clear hown2 hgrow2 HOW HGW HX1 HO1 HG1
        generalize L ++ [markT 44] = L2 at *
      all_goals
        have hcell := mask_in HC.out
        have hz2 := HG2.out.1.size
        clear HC
        go_wp2_with fail
        refine (nameToken_calls _ _).mono ?_
        rintro r w3 ⟨rfl, hx3⟩
        have HOW := Lib.hid (HO2.out.ext hx3)
        have HGW := Lib.hid (HG2.out.trans (hx3.grew _))
        have hz3 := hx3.size
        simp only [tokV, nameT]
        clear hx3 hcell
        go_wp2_with (at_builtin; refine wpList_append_tok rfl _ _ rfl base _ _ [nameT ws[k]] rfl HOW.out _ 1 1 rfl ?c0 ?c1 rfl ?c2 ?c3 ?c4 ?_)
        case c0 => rfl
        case c1 => rfl
        case c2 => omega
        case c3 => omega
        case c4 => omega
        intro v4 w4 hown4 hgrow4
        have HO4 := Lib.hid hown4
        have HG4 := Lib.hid (HGW.out.trans hgrow4)
        clear hown4 hgrow4 HOW HGW
        go_wp2_with fail
        go_round
        case rel => exact ⟨k + 1, by omega, rfl, by rw [HL1.out]; exact HO4.out, HG4.out⟩
        case measure => simp [intOf]; omega
    · have hkn : k = n := by omega
      subst hkn
      have t1 : decide ((k : Int) < (k : Int)) = false := by simp
      have HE := Lib.hid (show ws.take k = ws by rw [HN.out, List.take_length])
      go_wp2_with fail
      go_ret
      exact ⟨_, rfl, by rw [← HE.out]; exact HO1.out, HG1.out⟩
end Go.Proofs.YtaepiiediblleaaDoor

namespace Go.Proofs.YtaepiiediblleaaDoor
open Go.RowKit

/-- What an operation of a region that appends tokens leaves: a plain value; a block with tokens; the row, grown to l. -/
inductive What where
  | val (u : Value)
  | blk (ts : List Tok)
  | own (l : List Tok)
def What.plain : What → Bool
  | .val _ => true
  | _ => false
def TokR (base : Nat) (w0 : World) (v : Value) (f : Nat → What) (i : Nat) (u : Value) (W : World) : Prop := match f i with
  | .val x => u = x
  | .blk ts => ∃ x0, u = .slice (some ⟨x0, 0, none⟩) ts.length ts.length ∧ W.heap[x0]? = some (.cells (ts.flatMap tokCells).toArray 61 (0, 0))
  | .own l => OwnT W base l u ∧ Grew w0 v W u
def TokE (gs : List Nat) (k : Nat) (W W' : World) : Prop := k ∈ gs ∨ Ext W W'
def TokG (gs : List Nat) (w0 : World) (v : Value) (L : List Nat) (W : World) : Prop := Chg (rowOf v) w0 W ∧ ((∀ g ∈ gs, g ∉ L) → Ext w0 W)
/-- The rows and blocks outlast no operation that grows the row. -/
def tokApart (ops : Array Oper) (m : Nat) (Kp gs : List Nat) (f : Nat → What) : Bool := (List.range m).all fun i => gs.all fun k => i == k || (f i).plain || !outlasts ops m Kp i k
theorem tokR_keeps {ops : Array Oper} {m : Nat} {Kp gs : List Nat} {f : Nat → What} (hap : tokApart ops m Kp gs f = true) {base : Nat} {w0 : World} {v : Value} :
    ∀ i k u W W', i < m → k < m → i ≠ k → outlasts ops m Kp i k = true → TokR base w0 v f i u W → TokE gs k W W' → TokR base w0 v f i u W' := by
  intro i k u W W' hi _ hik ho hR hE
  unfold TokR at *
  split at hR
  · exact hR
  all_goals
    rcases hE with hE | hE
    · have := List.all_eq_true.1 (List.all_eq_true.1 hap i (by simpa using hi)) k hE
      rename_i hf
      simp [hik, hf, What.plain, ho] at this
  · obtain ⟨x0, h1, h2⟩ := hR
    exact ⟨x0, h1, hE.blk h2⟩
  · exact ⟨hR.1.ext hE, hR.2.trans (hE.grew _)⟩
/-- Before the first append none has been done. -/
theorem tok_before {ops : Array Oper} {m : Nat} {gs L : List Nat} {i : Nat} (hg : (gs.all fun g => g == i || comesAfter ops m g i) = true) (hi : i ∉ L) (hL : ∀ j ∈ L, comesAfter ops m j i = false) : ∀ g ∈ gs, g ∉ L := by
  intro g hgs hgL
  have := List.all_eq_true.1 hg g hgs
  rw [hL g hgL] at this
  simp only [Bool.or_false, beq_iff_eq] at this
  exact hi (this ▸ hgL)
theorem TokG.ext {gs : List Nat} {w0 : World} {v : Value} {L : List Nat} {W W' : World} (h : TokG gs w0 v L W) (hx : Ext W W') (i : Nat) : TokG gs w0 v (L ++ [i]) W' :=
  ⟨h.1.then (hx.chg _), fun hn => (h.2 fun g hg hl => hn g hg (List.mem_append_left _ hl)).trans hx⟩
theorem TokG.grow {gs : List Nat} {w0 : World} {v : Value} {L : List Nat} {W W' : World} {u u' : Value} (h : Grew w0 v W u) (hg : Grew W u W' u') {i : Nat} (hi : i ∈ gs) : TokG gs w0 v (L ++ [i]) W' :=
  ⟨(h.trans hg).1, fun hn => absurd (by simp) (hn i hi)⟩

/-- append of tokens, as a step of such a region. -/
theorem gives_append_tok {ρ : Operand → Value} {W : World} {T : Value → World → Prop} {dst : Option Tmp} {ty : TypeId} {pos : String} {after : Array Edge} {guard : Option (Nat × Bool)}
    (s x : Operand) (base : Nat) (u : Value) (l ts : List Tok) (hs : ρ s = u) (hown : OwnT W base l u) (x0 : Nat) (hx : ρ x = .slice (some ⟨x0, 0, none⟩) ts.length ts.length) (hx0 : W.heap[x0]? = some (.cells (ts.flatMap tokCells).toArray 61 (0, 0)))
    (hm : 0 < ts.length) (hn : l.length + ts.length ≤ 100000000) (hbase : base ≤ W.heap.size)
    (h : ∀ u' w', OwnT w' base (l ++ ts) u' → Grew W u w' u' → T u' w') :
    GivesOp Tryd.prog { dst := dst, op := .call { callee := .builtin .append, args := #[s, x], argTypes := #[54, 54] }, type := ty, pos := pos, after := after, guard := guard } ρ W T := by
  refine gives_append elemTok _ _ base u l.length _ hs x0 ts.length ts.length (ts.flatMap tokCells) hx (length_flatMap_of tokCells 4 (fun _ => rfl) ts) ?_ hm hn (by omega) hown ?_ hbase ?_
  · intro q hq
    obtain ⟨t, _, ht⟩ := List.mem_flatMap.1 hq
    simp only [tokCells, List.mem_cons, List.not_mem_nil, or_false] at ht
    rcases ht with rfl | rfl | rfl | rfl <;> rfl
  · intro j hj
    rw [blk_cell hx0]
    simp
  · intro g cap w' ho hg hl _
    refine h _ _ ?_ ⟨grown_chg hg, fun k hk => ?_⟩
    · unfold OwnT
      rw [List.length_append, List.flatMap_append]
      exact ho
    · simp only [Value.ownBlock] at hk
      injection hk with hk
      subst hk
      rcases hl with hl | hl
      · exact Or.inl hl
      · exact Or.inr (by omega)

theorem tokMore_snoc (op : Int) (a : Ex) : (r : List Ex) → tokMore op (r ++ [a]) = tokMore op r ++ ([nameT (if op = 7 then wAnd else wOr)] ++ argT op a)
  | [] => by simp [tokMore_cons, tokMore]
  | b :: r => by
    have := tokMore_snoc op a r
    simp only [List.cons_append, tokMore_cons, this]
    simp
theorem tokArgs_snoc (op : Int) (a : Ex) (r : List Ex) : tokArgs op (r ++ [a]) = tokArgs op r ++ ((if r.length = 0 then [] else [nameT (if op = 7 then wAnd else wOr)]) ++ argT op a) := by
  cases r with
  | nil => simp [tokArgs_cons, tokArgs, tokMore]
  | cons b r => simp only [List.cons_append, tokArgs_cons, tokMore_snoc]; simp
theorem tokMore_take (op : Int) : (r : List Ex) → (k : Nat) → (tokMore op (r.take k)).length ≤ (tokMore op r).length
  | [], k => by simp
  | b :: r, 0 => by simp [tokMore]
  | b :: r, k + 1 => by have := tokMore_take op r k; simp only [List.take_succ_cons, tokMore_cons, List.length_cons, List.length_append]; omega
theorem tokArgs_take (op : Int) (r : List Ex) (k : Nat) : (tokArgs op (r.take k)).length ≤ (tokArgs op r).length := by
  cases r with
  | nil => simp
  | cons b r =>
    cases k with
    | zero => simp [tokArgs]
    | succ k => have := tokMore_take op r k; simp only [List.take_succ_cons, tokArgs_cons, List.length_append]; omega
theorem listedT_ge : (l : List ByteArray) → l.length ≤ (listedT l).length
  | [] => by simp [listedT]
  | [a] => by simp [listedT]
  | a :: b :: r => by have := listedT_ge (b :: r); simp only [listedT, List.length_cons] at this ⊢; omega
end Go.Proofs.YtaepiiediblleaaDoor

namespace Go.Proofs.YtaepiiediblleaaDoor
open Go.RowKit

/-- One token more. -/
theorem tokQ1 {base : Nat} {l L : List Tok} {v : Value} {w w0 w1 w2 : World} {v2 : Value} {t : Tok} (hL : L = [t]) (h0 : Ext w w0) (h1 : Ext w0 w1) (h2 : OwnT w2 base (l ++ [t]) v2) (h3 : Grew w1 v w2 v2) : TokQ base (l ++ L) v w (.returned v2) w2 := by subst hL; exact ⟨_, rfl, h2, ((h0.trans h1).grew v).trans h3⟩

set_option maxRecDepth 100000 in
set_option maxHeartbeats 1000000 in
theorem tokens_true (e : Ex) (l : List Tok) (v : Value) (base : Nat) (w : World) (ev : Value) (he : IsEx (mask w (rowOf v)) e ev) (ho : OwnT w base l v) (hb : base ≤ w.heap.size) (hl : l.length + (tokE e).length ≤ 10000) (hop : e.op = 1) :
    Calls Tryd.prog 31 #[v, ev] w (TokQ base (l ++ tokE e) v w) := by
  obtain ⟨aw, nw, cw, aa, na, ca, rfl, hw, hna, hca, ha, hx⟩ := he.parts
  have HE := Lib.hid (show tokE e = [nameT wTrue] by cases e; simp only [Ex.op] at hop; subst hop; simp [tokE])
  have hl1 : l.length ≤ 10000 := by omega
  have HO := Lib.hid (ho.ext ((Ext.refl w).alloc (.cells #[.int .i64 e.op, .string e.name, .slice aw nw cw, .int .i64 e.lo, .int .i64 e.hi, .slice aa na ca] 26)))
  have HX := Lib.hid ((Ext.refl w).alloc (.cells #[.int .i64 e.op, .string e.name, .slice aw nw cw, .int .i64 e.lo, .int .i64 e.hi, .slice aa na ca] 26))
  have t1 : (e.op == 1) = true := by simp [hop]
  clear hw hna hca ha hx he ho hl hop
  unfold exV
  go_enter Tryd.func31, Tryd.ntmps31
  go_wp2_with fail
  generalize w.alloc (.cells #[.int .i64 e.op, .string e.name, .slice aw nw cw, .int .i64 e.lo, .int .i64 e.hi, .slice aa na ca] 26) = wb at *
  refine (nameToken_calls _ _).mono ?_
  rintro r w1 ⟨rfl, hx1⟩
  have HX1 := Lib.hid hx1
  have HO1 := Lib.hid (HO.out.ext hx1)
  have hz1 := hx1.size
  have hz0 := HX.out.size
  clear hx1
  simp only [tokV, nameT]
  go_wp2_with (at_builtin; refine wpList_append_tok rfl _ _ rfl base _ _ [nameT wTrue] rfl HO1.out _ 1 1 rfl ?c0 ?c1 rfl ?c2 ?c3 ?c4 ?_)
  case c0 => rfl
  case c1 => rfl
  case c2 => omega
  case c3 => omega
  case c4 => omega
  intro v2 w2 hown2 hgrow2
  have HO2 := Lib.hid hown2
  have HG2 := Lib.hid hgrow2
  clear hown2 hgrow2
  go_wp2_with fail
  go_ret
  exact tokQ1 HE.out HX.out HX1.out HO2.out HG2.out

set_option maxRecDepth 100000 in
set_option maxHeartbeats 1000000 in
theorem tokens_false (e : Ex) (l : List Tok) (v : Value) (base : Nat) (w : World) (ev : Value) (he : IsEx (mask w (rowOf v)) e ev) (ho : OwnT w base l v) (hb : base ≤ w.heap.size) (hl : l.length + (tokE e).length ≤ 10000) (hop : e.op = 2) :
    Calls Tryd.prog 31 #[v, ev] w (TokQ base (l ++ tokE e) v w) := by
  obtain ⟨aw, nw, cw, aa, na, ca, rfl, hw, hna, hca, ha, hx⟩ := he.parts
  have HE := Lib.hid (show tokE e = [nameT wFalse] by cases e; simp only [Ex.op] at hop; subst hop; simp [tokE])
  have hl1 : l.length ≤ 10000 := by omega
  have HO := Lib.hid (ho.ext ((Ext.refl w).alloc (.cells #[.int .i64 e.op, .string e.name, .slice aw nw cw, .int .i64 e.lo, .int .i64 e.hi, .slice aa na ca] 26)))
  have HX := Lib.hid ((Ext.refl w).alloc (.cells #[.int .i64 e.op, .string e.name, .slice aw nw cw, .int .i64 e.lo, .int .i64 e.hi, .slice aa na ca] 26))
  have t1 : (e.op == 1) = false := by simp [hop]
  have t2 : (e.op == 2) = true := by simp [hop]
  clear hw hna hca ha hx he ho hl hop
  unfold exV
  go_enter Tryd.func31, Tryd.ntmps31
  go_wp2_with fail
  generalize w.alloc (.cells #[.int .i64 e.op, .string e.name, .slice aw nw cw, .int .i64 e.lo, .int .i64 e.hi, .slice aa na ca] 26) = wb at *
  refine (nameToken_calls _ _).mono ?_
  rintro r w1 ⟨rfl, hx1⟩
  have HX1 := Lib.hid hx1
  have HO1 := Lib.hid (HO.out.ext hx1)
  have hz1 := hx1.size
  have hz0 := HX.out.size
  clear hx1
  simp only [tokV, nameT]
  go_wp2_with (at_builtin; refine wpList_append_tok rfl _ _ rfl base _ _ [nameT wFalse] rfl HO1.out _ 1 1 rfl ?c0 ?c1 rfl ?c2 ?c3 ?c4 ?_)
  case c0 => rfl
  case c1 => rfl
  case c2 => omega
  case c3 => omega
  case c4 => omega
  intro v2 w2 hown2 hgrow2
  have HO2 := Lib.hid hown2
  have HG2 := Lib.hid hgrow2
  clear hown2 hgrow2
  go_wp2_with fail
  go_ret
  exact tokQ1 HE.out HX.out HX1.out HO2.out HG2.out

set_option maxRecDepth 100000 in
set_option maxHeartbeats 1000000 in
theorem tokens_name (e : Ex) (l : List Tok) (v : Value) (base : Nat) (w : World) (ev : Value) (he : IsEx (mask w (rowOf v)) e ev) (ho : OwnT w base l v) (hb : base ≤ w.heap.size) (hl : l.length + (tokE e).length ≤ 10000) (hop : e.op = 3) :
    Calls Tryd.prog 31 #[v, ev] w (TokQ base (l ++ tokE e) v w) := by
  obtain ⟨aw, nw, cw, aa, na, ca, rfl, hw, hna, hca, ha, hx⟩ := he.parts
  have HE := Lib.hid (show tokE e = [nameT e.name] by cases e; simp only [Ex.op] at hop; subst hop; simp [tokE, Ex.name])
  have hl1 : l.length ≤ 10000 := by omega
  have HO := Lib.hid (ho.ext ((Ext.refl w).alloc (.cells #[.int .i64 e.op, .string e.name, .slice aw nw cw, .int .i64 e.lo, .int .i64 e.hi, .slice aa na ca] 26)))
  have HX := Lib.hid ((Ext.refl w).alloc (.cells #[.int .i64 e.op, .string e.name, .slice aw nw cw, .int .i64 e.lo, .int .i64 e.hi, .slice aa na ca] 26))
  have t1 : (e.op == 1) = false := by simp [hop]
  have t2 : (e.op == 2) = false := by simp [hop]
  have t3 : (e.op == 3) = true := by simp [hop]
  clear hw hna hca ha hx he ho hl hop
  unfold exV
  go_enter Tryd.func31, Tryd.ntmps31
  go_wp2_with fail
  generalize w.alloc (.cells #[.int .i64 e.op, .string e.name, .slice aw nw cw, .int .i64 e.lo, .int .i64 e.hi, .slice aa na ca] 26) = wb at *
  refine (nameToken_calls _ _).mono ?_
  rintro r w1 ⟨rfl, hx1⟩
  have HX1 := Lib.hid hx1
  have HO1 := Lib.hid (HO.out.ext hx1)
  have hz1 := hx1.size
  have hz0 := HX.out.size
  clear hx1
  simp only [tokV, nameT]
  go_wp2_with (at_builtin; refine wpList_append_tok rfl _ _ rfl base _ _ [nameT e.name] rfl HO1.out _ 1 1 rfl ?c0 ?c1 rfl ?c2 ?c3 ?c4 ?_)
  case c0 => rfl
  case c1 => rfl
  case c2 => omega
  case c3 => omega
  case c4 => omega
  intro v2 w2 hown2 hgrow2
  have HO2 := Lib.hid hown2
  have HG2 := Lib.hid hgrow2
  clear hown2 hgrow2
  go_wp2_with fail
  go_ret
  exact tokQ1 HE.out HX.out HX1.out HO2.out HG2.out
end Go.Proofs.YtaepiiediblleaaDoor
