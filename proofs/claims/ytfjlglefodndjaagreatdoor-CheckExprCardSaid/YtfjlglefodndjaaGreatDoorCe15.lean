/-
  Texts of the claim, joined: SWb, Fmt, OkTree, Fmt2, Text1, Parse5.
-/
import Derived.Test.YtfjlglefodndjaaGreatDoorCe08
import Derived.Test.YtfjlglefodndjaaGreatDoorCe14
import Derived.Test.YtfjlglefodndjaaGreatDoorCe09
import Derived.Test.YtfjlglefodndjaaGreatDoorCe06
namespace Go.Proofs.YtfjlglefodndjaaGreatDoor
open Go.RowKit

/-! wording.writeBacks: checks and counts. -/
theorem wbN_take_succ : (l : List Wb) → (k : Nat) → (hk : k < l.length) → wbN (l.take (k + 1)) = wbN (l.take k) + 1 + wbN l[k].unl
  | [], k, hk => by simp at hk
  | .mk n c u :: r, 0, _ => by simp [wbN, Wb.unl]
  | .mk n c u :: r, k + 1, hk => by
    have := wbN_take_succ r k (by simpa using hk)
    simp [wbN] at this ⊢
    omega
theorem wbN_take_le : (l : List Wb) → (k : Nat) → wbN (l.take k) ≤ wbN l
  | [], k => by simp [wbN]
  | .mk n c u :: r, 0 => by simp [wbN]
  | .mk n c u :: r, k + 1 => by have := wbN_take_le r k; simp [wbN]; omega
def WbQ (R : Bool) (T : Nat) (bc : Nat) (w : World) (e : Ending) (w' : World) : Prop := ∃ m : Nat, e = .returned (.bool R) ∧ w'.heap[bc]? = some (.cells #[.int .i64 ((m : Nat) : Int)] 3 (0, 0)) ∧ m ≤ 41 ∧ (R = true → m = T) ∧ Chg [bc] w w'
def WbRel (w : World) (bc d n : Nat) (l : List Wb) (nl : Nat) (t : Value) (wr : World) : Prop := ∃ k m : Nat, t = .int .i64 ((k : Nat) : Int) ∧ k ≤ nl ∧ (∀ j (h : j < l.length), j < k → itemB (17 - d) l[j] = true) ∧ m = n + wbN (l.take k) ∧ m ≤ 40 ∧ (k = 0 ∨ d ≠ 17) ∧
  wr.heap[bc]? = some (.cells #[.int .i64 ((m : Nat) : Int)] 3 (0, 0)) ∧ Chg [bc] w wr
set_option maxRecDepth 100000 in
set_option maxHeartbeats 8000000 in
theorem writeBacks_calls {w0 : World} (ho : HasOps w0) (fm : Nat) : ∀ (l : List Wb) (a : Option Addr) (nl c d n bc : Nat) (w : World), wbN l < fm → nl ≤ 1000000000000000 → wbFits l → 1 ≤ d → d ≤ 17 → n ≤ 40 → nl = l.length → WbsD (mask w [bc]) l a → Ext w0 w → w0.heap.size ≤ bc →
    w.heap[bc]? = some (.cells #[.int .i64 ((n : Nat) : Int)] 3 (0, 0)) →
    Calls Tryz.prog 112 #[.slice a nl c, .int .i64 ((d : Nat) : Int), .pointer (some ⟨bc, 0, none⟩)] w (WbQ (backsB (17 - d) l && decide (n + wbN l ≤ 40)) (n + wbN l) bc w) := by
  induction fm with
  | zero => intro l a nl c d n bc w h; omega
  | succ fm ih =>
    intro l a nl c d n bc w hfm hnl hfit hd1 hd2 hn hln hdat hx0 hbc hcell
    have HD := Lib.hid hdat
    have HN := Lib.hid hln
    have HFT := Lib.hid hfit
    have HX0 := Lib.hid hx0
    have HO := Lib.hid ho
    have IH := Lib.hid ih
    have HBC := Lib.hid hbc
    have HCELL := Lib.hid hcell
    have HQ := Lib.hid (backsB_eq (17 - d) l)
    obtain ⟨R, hR⟩ : ∃ R, R = (backsB (17 - d) l && decide (n + wbN l ≤ 40)) := ⟨_, rfl⟩
    rw [← hR]
    have HR := Lib.hid hR
    obtain ⟨T, hT⟩ : ∃ T, T = n + wbN l := ⟨_, rfl⟩
    rw [← hT]
    have HT := Lib.hid hT
    clear hdat hln hfit hx0 ih hcell hR hT ho
    go_enter Tryz.func112, Tryz.ntmps112
    go_wp2_with fail
    go_loopw [11] (WbRel w bc d n l nl) (fun t _ => nl - (intOf t).toNat)
    case atStart => exact ⟨0, n, rfl, by omega, fun j _ h => by omega, by simp [wbN], hn, Or.inl rfl, HCELL.out, Chg.refl _ _⟩
    case round =>
      obtain ⟨k, m, rfl, hk, hall, hm, hm40, hk17, hcb, hch⟩ := hrel
      have HK17 := Lib.hid hk17
      have HALL := Lib.hid hall
      have HM := Lib.hid hm
      have HCB := Lib.hid hcb
      have HCH := Lib.hid hch
      obtain ⟨cc0, ccf⟩ := blk1 hcb
      have hbcl := blk_lt hcb
      clear hall hm hcb hch hk17
      by_cases hkn : k < nl
      case neg =>
        have t1 : decide ((k : Int) < (nl : Int)) = false := decide_eq_false (by omega)
        have HE := Lib.hid (show m = T ∧ R = true by
          have h1 := HM.out
          have h2 := HN.out
          rw [List.take_of_length_le (by omega)] at h1
          refine ⟨by rw [HT.out, h1], ?_⟩
          rw [HR.out, Bool.and_eq_true]
          refine ⟨?_, by simp; omega⟩
          rw [HQ.out, Bool.and_eq_true]
          refine ⟨?_, ?_⟩
          · by_cases h0 : l.length = 0
            · simp [h0]
            · have hd17 : 17 - d ≠ 0 := by
                have := HK17.out
                omega
              simp [hd17]
          · rw [List.all_eq_true]
            intro x hx
            obtain ⟨j, hj, rfl⟩ := List.mem_iff_getElem.1 hx
            exact HALL.out j hj (by omega))
        go_wp2_with fail
        go_ret
        exact ⟨m, by rw [HE.out.2]; rfl, HCB.out, by omega, fun _ => HE.out.1, HCH.out⟩
      have hkl : k < l.length := by have := HN.out; omega
      have t1 : decide ((k : Int) < (nl : Int)) = true := decide_eq_true (by omega)
      obtain ⟨b, off, rfl, v, hv0, hrow, hv2, hv3, hv4, hv5, hv6⟩ := WbsD.at l _ (WbsD.mono HCH.out.sub _ _ HD.out) k hkl
      obtain ⟨c0, c1, c2, c3, c4, c5, c6, c7⟩ := (hrow.mono (mask_sub _ _)).eight
      obtain ⟨ho1, ho2, ho3, ho4, hou, ho5⟩ := wbFits_at l HFT.out k hkl
      have hvn : v.nu ≤ 1000000000000000 := by rw [hv3]; exact hou
      have hwn := wbN_at l k hkl
      have HU := Lib.hid hv6
      have HUN := Lib.hid hv3
      have HEX := Lib.hid hv2
      have HO2 := Lib.hid ho2
      have HO5 := Lib.hid ho5
      have HIT := Lib.hid (show itemB (17 - d) l[k] = (nameB l[k].name && refExprB l[k].cond && backsB (17 - d - 1) l[k].unl) from rfl)
      have HTS := Lib.hid (wbN_take_succ l k hkl)
      have htl := wbN_take_le l (k + 1)
      have HTL := Lib.hid htl
      have hblt := block_lt c0
      rw [hv0] at c0
      simp only at hblt
      clear hrow hv0 hv2 hv3 hv4 hv5 hv6 ho2 ho3 ho4 hou ho5 htl
      obtain ⟨wx, hwx⟩ : ∃ wx, wx = (wr.setCell ⟨bc, 0, none⟩ (.int .i64 ((m : Int) + 1))).alloc (.cells #[.string l[k].name, .int .i64 v.x.op, .string v.x.name, .slice v.x.aw v.x.nw v.x.cw, .int .i64 v.x.lo, .int .i64 v.x.hi, .slice v.x.aa v.x.na v.x.ca, .slice v.au v.nu v.cu] 77) := ⟨_, rfl⟩
      have HBX := Lib.hid (show wx.heap[wr.heap.size]? = some (.cells #[.string l[k].name, .int .i64 v.x.op, .string v.x.name, .slice v.x.aw v.x.nw v.x.cw, .int .i64 v.x.lo, .int .i64 v.x.hi, .slice v.x.aa v.x.na v.x.ca, .slice v.au v.nu v.cu] 77 (0, 0)) by
        rw [hwx]
        exact alloc_atR (by simp))
      have HCX := Lib.hid (show wx.heap[bc]? = some (.cells #[.int .i64 (((m + 1 : Nat)) : Int)] 3 (0, 0)) by
        rw [hwx]
        have := heap_setCell_same wr bc 0 _ _ (.int .i64 ((m : Int) + 1)) HCB.out
        exact blk_alloc this)
      have HHX := Lib.hid (show Chg [bc] wr wx by rw [hwx]; exact ((Chg.refl [bc] wr).setCell (Or.inl (by simp)) _).alloc _)
      go_upto_region 5 with fail
      rw [← hwx]
      have HXX := Lib.hid ((HCH.out.then HHX.out).ext HX0.out (by simpa using HBC.out))
      clear hwx cc0 ccf c0 c1 c2 c3 c4 c5 c6 c7
      obtain ⟨cc0, ccf⟩ := blk1 HCX.out
      have HFAL := Lib.hid (fun (h : itemB (17 - d) l[k] = false) => show R = false by
        rw [HR.out, HQ.out]
        have : l.all (itemB (17 - d)) = false := by
          rw [List.all_eq_false]
          exact ⟨l[k], List.getElem_mem hkl, by rw [h]; simp⟩
        rw [this]; simp)
      have HCNT := Lib.hid (fun (h : 40 < n + wbN l) => show R = false by
        rw [HR.out]
        have : decide (n + wbN l ≤ 40) = false := decide_eq_false (by omega)
        rw [this]; simp)
      by_cases h17 : d = 17
      · have t2 : decide ((16 : Int) < (d : Int)) = true := decide_eq_true (by omega)
        have HF := Lib.hid (show R = false by
          rw [HR.out, HQ.out, h17]
          have : ¬ l.length = 0 := by omega
          simp [this])
        go_wp2_with fail
        go_ret
        exact ⟨m + 1, by rw [HF.out]; rfl, HCX.out, by omega, fun h => (by rw [HF.out] at h; cases h), HCH.out.then HHX.out⟩
      have t2 : decide ((16 : Int) < (d : Int)) = false := decide_eq_false (by omega)
      by_cases h40 : 40 < m + 1
      · have t3 : decide ((40 : Int) < ((m + 1 : Nat) : Int)) = true := decide_eq_true (by omega)
        have HF := Lib.hid (HCNT.out (by have h1 := HM.out; have h2 := HTS.out; have h3 := HTL.out; omega))
        go_wp2_with fail
        go_ret
        exact ⟨m + 1, by rw [HF.out]; rfl, HCX.out, by omega, fun h => (by rw [HF.out] at h; cases h), HCH.out.then HHX.out⟩
      have t3 : decide ((40 : Int) < ((m + 1 : Nat) : Int)) = false := decide_eq_false (by omega)
      obtain ⟨c0, c1, c2, c3, c4, c5, c6, c7, cf⟩ := blk8 HBX.out
      have hltx := blk_lt HBX.out
      cases hnb : nameB l[k].name
      · have HNB := Lib.hid hnb
        have HF := Lib.hid (HFAL.out (by rw [HIT.out, hnb]; rfl))
        clear hnb
        go_wp2_with fail
        refine (name_calls _ _ ho1).mono ?_
        rintro r w1 ⟨rfl, rfl⟩
        rw [HNB.out]
        go_wp2_with fail
        go_ret
        exact ⟨m + 1, by rw [HF.out]; rfl, HCX.out, by omega, fun h => (by rw [HF.out] at h; cases h), HCH.out.then HHX.out⟩
      have HNB := Lib.hid hnb
      rw [hnb, Bool.true_and] at HIT
      clear hnb
      go_wp2_with fail
      refine (name_calls _ _ ho1).mono ?_
      rintro r w1 ⟨rfl, rfl⟩
      rw [HNB.out]
      go_wp2_with fail
      refine (Valid_calls l[k].cond _ wx (HEX.out.mono (HHX.out.sub.trans (mask_sub _ _))) (HO.out.ext HXX.out) HO2.out).mono ?_
      rintro r w2 ⟨rfl, hx2⟩
      rw [validB_ref]
      have HX2 := Lib.hid (HXX.out.trans hx2)
      have HC2 := Lib.hid (hx2.blk HCX.out)
      have HB2 := Lib.hid (hx2.blk HBX.out)
      have HCH2 := Lib.hid ((HCH.out.then HHX.out).then (hx2.chg [bc]))
      have HU2 := Lib.hid (WbsD.mono ((HHX.out.then (hx2.chg [bc])).sub) _ _ HU.out)
      clear hx2 c0 c1 c2 c3 c4 c5 c6 c7 cf cc0 ccf hltx
      obtain ⟨c0, c1, c2, c3, c4, c5, c6, c7, cf⟩ := blk8 HB2.out
      have hltx := blk_lt HB2.out
      cases hxb : refExprB l[k].cond
      · have HF := Lib.hid (HFAL.out (by rw [HIT.out, hxb]; rfl))
        go_wp2_with fail
        go_ret
        exact ⟨m + 1, by rw [HF.out]; rfl, HC2.out, by omega, fun h => (by rw [HF.out] at h; cases h), HCH2.out⟩
      rw [hxb, Bool.true_and] at HIT
      clear hxb
      have Q1 := Lib.hid (show (d : Int) + 1 = ((d + 1 : Nat) : Int) by omega)
      have HWF := Lib.hid (IH.out l[k].unl v.au v.nu v.cu (d + 1) (m + 1) bc w2 (by omega) hvn HO5.out (by omega) (by omega) (by omega) HUN.out HU2.out HX2.out HBC.out HC2.out)
      have e1 : 17 - (d + 1) = 17 - d - 1 := by omega
      rw [e1, ← HIT.out] at HWF
      clear e1
      go_wp2_with fail
      rw [Q1.out]
      refine HWF.out.mono ?_
      rintro r w3 ⟨m3, rfl, hc3, hm3, hT3, hch3⟩
      have HC3 := Lib.hid hc3
      have HT3 := Lib.hid hT3
      have HCH3 := Lib.hid (HCH2.out.then hch3)
      clear hc3 hT3 hch3 c0 c1 c2 c3 c4 c5 c6 c7 cf hltx
      cases hib : itemB (17 - d) l[k]
      · have HF := Lib.hid (HFAL.out hib)
        simp only [Bool.false_and]
        clear hib
        go_wp2_with fail
        go_ret
        exact ⟨m3, by rw [HF.out]; rfl, HC3.out, hm3, fun h => (by rw [HF.out] at h; cases h), HCH3.out⟩
      have HIB := Lib.hid hib
      rw [hib] at HT3
      clear hib
      simp only [Bool.true_and]
      by_cases hs40 : m + 1 + wbN l[k].unl ≤ 40
      case neg =>
        have t4 : decide (m + 1 + wbN l[k].unl ≤ 40) = false := decide_eq_false hs40
        rw [t4]
        have HF := Lib.hid (HCNT.out (by have h1 := HM.out; have h2 := HTS.out; have h3 := HTL.out; omega))
        clear t4
        go_wp2_with fail
        go_ret
        exact ⟨m3, by rw [HF.out]; rfl, HC3.out, hm3, fun h => (by rw [HF.out] at h; cases h), HCH3.out⟩
      have t4 : decide (m + 1 + wbN l[k].unl ≤ 40) = true := decide_eq_true hs40
      rw [t4]
      have HMM := Lib.hid (HT3.out (by rw [t4]; rfl))
      clear t4
      go_wp2_with fail
      go_roundw
      case rel =>
        refine ⟨k + 1, m3, by go_num, by omega, fun j hj hjk => ?_, ?_, ?_, ?_, HC3.out, HCH3.out⟩
        · by_cases e : j = k
          · subst e; exact HIB.out
          · exact HALL.out j hj (by omega)
        · rw [HTS.out, HMM.out, HM.out]; omega
        · rw [HMM.out]; exact hs40
        · exact Or.inr h17
      case measure => simp [intOf]; omega
end Go.Proofs.YtfjlglefodndjaaGreatDoor

namespace Go.Proofs.YtfjlglefodndjaaGreatDoor

def nameT (s : ByteArray) : Tok := ⟨1, s, 0, 0⟩
def markT (c : UInt8) : Tok := ⟨4, ⟨#[c]⟩, 0, 0⟩
def numT (n : Int) : Tok := ⟨2, ⟨#[]⟩, n, 0⟩
def wTo : ByteArray := ⟨#[116, 111]⟩

/-- Names with commas between them. -/
def listedT : List ByteArray → List Tok
  | [] => []
  | [s] => [nameT s]
  | s :: r => nameT s :: markT 44 :: listedT r

def paren (op aop : Int) : Bool := aop == 8 || (aop == 7 && op != 8)
mutual
/-- The tokens of an expression. -/
def tokE : Ex → List Tok
  | .mk op name words lo hi args =>
    if op = 1 then [nameT wTrue] else if op = 2 then [nameT wFalse] else if op = 3 then [nameT name] else
    if op = 4 then [nameT name, nameT wIn, markT 40] ++ listedT words ++ [markT 41] else
    if op = 5 then [nameT name, nameT wFrom, numT lo, nameT wTo, numT hi] else
    (if op = 6 then [nameT wNot] else []) ++ tokArgs op args
def tokArgs (op : Int) : List Ex → List Tok
  | [] => []
  | a :: r => (if paren op a.op then [markT 40] ++ tokE a ++ [markT 41] else tokE a) ++ tokMore op r
def tokMore (op : Int) : List Ex → List Tok
  | [] => []
  | a :: r => [nameT (if op = 7 then wAnd else wOr)] ++ (if paren op a.op then [markT 40] ++ tokE a ++ [markT 41] else tokE a) ++ tokMore op r
end

/-- From the k-th token on these tokens stand in the list, wherever in the text. -/
def AtT (toks : List Tok) : Nat → List Tok → Prop
  | _, [] => True
  | k, x :: r => (∃ p, toks[k]? = some ⟨x.kind, x.text, x.num, p⟩) ∧ AtT toks (k + 1) r
theorem AtT.append {toks : List Tok} : (l m : List Tok) → (k : Nat) → AtT toks k (l ++ m) ↔ AtT toks k l ∧ AtT toks (k + l.length) m
  | [], m, k => by simp [AtT]
  | x :: r, m, k => by
    simp only [List.cons_append, AtT, AtT.append r m (k + 1), List.length_cons]
    rw [show k + 1 + r.length = k + (r.length + 1) by omega]
    exact and_assoc.symm

theorem accept_at {toks : List Tok} {k : Nat} {kind : Int} {text : ByteArray} {x : Tok} (h : ∃ p, toks[k]? = some ⟨x.kind, x.text, x.num, p⟩) : acceptB toks k kind text = ((x.kind == kind) && decide (x.text = text)) := by
  obtain ⟨p, h⟩ := h; rw [acceptB, h]
theorem nameTok_at {toks : List Tok} {k : Nat} {x : Tok} (h : ∃ p, toks[k]? = some ⟨x.kind, x.text, x.num, p⟩) : nameTokB toks k = ((x.kind == 1) && nameB x.text) := by
  obtain ⟨p, h⟩ := h; rw [nameTokB, h]
theorem text_at {toks : List Tok} {k : Nat} {x : Tok} (h : ∃ p, toks[k]? = some ⟨x.kind, x.text, x.num, p⟩) : textAt toks k = x.text := by
  obtain ⟨p, h⟩ := h; rw [textAt, h]

/-- The fields of a node are those of its operator. -/
def okNode (e : Ex) : Prop :=
  (e.op = 1 ∧ e.name = ⟨#[]⟩ ∧ e.words = [] ∧ e.lo = 0 ∧ e.hi = 0 ∧ e.args = []) ∨ (e.op = 2 ∧ e.name = ⟨#[]⟩ ∧ e.words = [] ∧ e.lo = 0 ∧ e.hi = 0 ∧ e.args = []) ∨
  (e.op = 3 ∧ nameB e.name = true ∧ e.words = [] ∧ e.lo = 0 ∧ e.hi = 0 ∧ e.args = []) ∨ (e.op = 4 ∧ nameB e.name = true ∧ wordsB e.words = true ∧ e.lo = 0 ∧ e.hi = 0 ∧ e.args = []) ∨
  (e.op = 5 ∧ nameB e.name = true ∧ e.words = [] ∧ numberB e.lo = true ∧ numberB e.hi = true ∧ e.lo ≤ e.hi ∧ e.args = []) ∨
  (e.op = 6 ∧ e.name = ⟨#[]⟩ ∧ e.words = [] ∧ e.lo = 0 ∧ e.hi = 0 ∧ e.args.length = 1) ∨
  ((e.op = 7 ∨ e.op = 8) ∧ e.name = ⟨#[]⟩ ∧ e.words = [] ∧ e.lo = 0 ∧ e.hi = 0 ∧ 2 ≤ e.args.length)
mutual
def okTree : Ex → Prop
  | .mk op name words lo hi args => okNode (.mk op name words lo hi args) ∧ okTrees args
def okTrees : List Ex → Prop
  | [] => True
  | e :: r => okTree e ∧ okTrees r
end

theorem nameB_word {s : ByteArray} (h : nameB s = true) : s ≠ wTrue ∧ s ≠ wFalse ∧ s ≠ wNot ∧ s ≠ wIn ∧ s ≠ wFrom ∧ s ≠ wAnd ∧ s ≠ wOr ∧ s ≠ wTo := by
  simp only [nameB, Bool.and_eq_true, Bool.not_eq_true'] at h
  have h := h.2
  refine ⟨?_, ?_, ?_, ?_, ?_, ?_, ?_, ?_⟩ <;> (rintro rfl; revert h; decide +kernel)

/-- What follows: no and, no or (no list, no range either). -/
def Ends (toks : List Tok) (k : Nat) : Prop := acceptB toks k 1 wAnd = false ∧ acceptB toks k 1 wOr = false ∧ acceptB toks k 1 wIn = false ∧ acceptB toks k 1 wFrom = false

theorem list_read {toks : List Tok} : (ws : List ByteArray) → ws ≠ [] → (k f : Nat) → (acc : List ByteArray) → AtT toks k (listedT ws ++ [markT 41]) → (acc ++ ws).length ≤ 12 → (∀ x ∈ ws, nameB x = true) → (acc ++ ws).Nodup → ws.length ≤ f →
    listLoop toks f k acc = (acc ++ ws, 0, k + (listedT ws).length + 1)
  | [], h, _, _, _, _, _, _, _, _ => absurd rfl h
  | [s], _, k, f, acc, hat, hl, hn, hd, hf => by
    obtain ⟨f, rfl⟩ : ∃ g, f = g + 1 := ⟨f - 1, by simp at hf; omega⟩
    simp only [listedT, List.cons_append, List.nil_append, AtT] at hat
    obtain ⟨h1, h2, _⟩ := hat
    have hs := hn s (by simp)
    have hm : s ∉ acc := by
      rw [List.nodup_append] at hd
      exact fun h => hd.2.2 s h s (by simp) rfl
    rw [listLoop, if_neg (by rw [nameTok_at h1]; simp [nameT, hs]), if_neg (by simp at hl; omega), if_neg (by rw [text_at h1]; exact hm), if_neg (by rw [accept_at h2]; simp [markT]), if_pos (by rw [accept_at h2]; simp [markT]), text_at h1]
    simp [listedT, nameT]
  | s :: s2 :: r, _, k, f, acc, hat, hl, hn, hd, hf => by
    obtain ⟨f, rfl⟩ : ∃ g, f = g + 1 := ⟨f - 1, by simp at hf; omega⟩
    simp only [listedT, List.cons_append, AtT] at hat
    obtain ⟨h1, h2, h3⟩ := hat
    have hs := hn s (by simp)
    have hm : s ∉ acc := by
      rw [List.nodup_append] at hd
      exact fun h => hd.2.2 s h s (by simp) rfl
    rw [listLoop, if_neg (by rw [nameTok_at h1]; simp [nameT, hs]), if_neg (by simp at hl; omega), if_neg (by rw [text_at h1]; exact hm), if_pos (by rw [accept_at h2]; simp [markT]), text_at h1]
    have e : acc ++ [(nameT s).text] ++ (s2 :: r) = acc ++ s :: s2 :: r := by simp [nameT]
    rw [list_read (s2 :: r) (by simp) (k + 2) f (acc ++ [(nameT s).text]) h3 (by rw [e]; exact hl) (fun x hx => hn x (List.mem_cons_of_mem _ hx)) (by rw [e]; exact hd) (by simp at hf ⊢; omega), e]
    simp [listedT]
    omega
end Go.Proofs.YtfjlglefodndjaaGreatDoor

namespace Go.Proofs.YtfjlglefodndjaaGreatDoor

/-- What the reference asks of a node is what okNode says. -/
theorem refNode_ok (e : Ex) : refNodeB e = true ↔ okNode e := by
  obtain ⟨op, name, words, lo, hi, args⟩ := e
  have hw : words = [] ↔ words.length = 0 := by cases words <;> simp
  have ha : args = [] ↔ args.length = 0 := by cases args <;> simp
  have hnm : name = ⟨#[]⟩ ↔ name.toList.isEmpty = true := by
    rw [List.isEmpty_iff, ByteArray.toList_eq]
    constructor
    · rintro rfl; rfl
    · intro h
      apply ByteArray.ext
      simpa using h
  simp only [refNodeB, refNode, okNode, Ex.op, Ex.name, Ex.words, Ex.lo, Ex.hi, Ex.args, wordsB, hw, ha, hnm]
  by_cases h1 : 1 ≤ op ∧ op ≤ 8
  · have hk : op = 1 ∨ op = 2 ∨ op = 3 ∨ op = 4 ∨ op = 5 ∨ op = 6 ∨ op = 7 ∨ op = 8 := by omega
    rcases hk with rfl | rfl | rfl | rfl | rfl | rfl | rfl | rfl
    all_goals
      simp
      try grind
  · simp [h1]
    omega
mutual
theorem nodes_ok : (e : Ex) → (nodesB e = true ↔ okTree e)
  | .mk op name words lo hi args => by
    rw [nodesB, okTree, Bool.and_eq_true, refNode_ok, nodesAll_ok args]
theorem nodesAll_ok : (l : List Ex) → (nodesAll l = true ↔ okTrees l)
  | [] => by simp [nodesAll, okTrees]
  | e :: r => by rw [nodesAll, okTrees, Bool.and_eq_true, nodes_ok e, nodesAll_ok r]
end
theorem valid_ok (e : Ex) : validB e = true ↔ (okTree e ∧ e.depth ≤ 16 ∧ e.size ≤ 300) := by
  rw [validB_ref, refExprB, Bool.and_eq_true, Bool.and_eq_true, nodes_ok]
  have e1 : refSize e ≤ 300 ↔ e.size ≤ 300 := by unfold refSize; omega
  simp only [Bool.not_eq_true', decide_eq_false_iff_not, decide_eq_true_eq, e1]
  constructor
  · rintro ⟨⟨a, b⟩, c⟩; exact ⟨c, by omega, b⟩
  · rintro ⟨a, b, c⟩; exact ⟨⟨by omega, c⟩, a⟩
end Go.Proofs.YtfjlglefodndjaaGreatDoor

namespace Go.Proofs.YtfjlglefodndjaaGreatDoor

/-- The tokens of an argument. -/
def argT (op : Int) (a : Ex) : List Tok := if paren op a.op then [markT 40] ++ tokE a ++ [markT 41] else tokE a
theorem tokArgs_cons (op : Int) (a : Ex) (r : List Ex) : tokArgs op (a :: r) = argT op a ++ tokMore op r := by rw [tokArgs]; rfl
theorem tokMore_cons (op : Int) (a : Ex) (r : List Ex) : tokMore op (a :: r) = nameT (if op = 7 then wAnd else wOr) :: (argT op a ++ tokMore op r) := by rw [tokMore]; simp [argT]

/-- What follows is no word that goes on with an atom. -/
def NoTail (toks : List Tok) (k : Nat) : Prop := acceptB toks k 1 wIn = false ∧ acceptB toks k 1 wFrom = false
theorem noTail_name {toks : List Tok} {k : Nat} {s : ByteArray} (h : ∃ p, toks[k]? = some ⟨(nameT s).kind, (nameT s).text, (nameT s).num, p⟩) (h1 : s ≠ wIn) (h2 : s ≠ wFrom) : NoTail toks k := by
  constructor <;> (rw [accept_at h]; simp [nameT, h1, h2])
theorem noTail_mark {toks : List Tok} {k : Nat} {c : UInt8} (h : ∃ p, toks[k]? = some ⟨(markT c).kind, (markT c).text, (markT c).num, p⟩) : NoTail toks k := by
  constructor <;> (rw [accept_at h]; simp [markT])
theorem wAnd_ne : wAnd ≠ wIn ∧ wAnd ≠ wFrom ∧ wOr ≠ wIn ∧ wOr ≠ wFrom ∧ wOr ≠ wAnd ∧ wNot ≠ wTrue ∧ wNot ≠ wFalse := by decide +kernel
theorem ends_mark {toks : List Tok} {k : Nat} {c : UInt8} (h : ∃ p, toks[k]? = some ⟨(markT c).kind, (markT c).text, (markT c).num, p⟩) : acceptB toks k 1 wAnd = false ∧ acceptB toks k 1 wOr = false := by
  constructor <;> (rw [accept_at h]; simp [markT])

/-- What the tokens of an expression are read as. -/
def Reads (toks : List Tok) (e : Ex) : Prop := ∀ k, AtT toks k (tokE e) → NoTail toks (k + (tokE e).length) →
  (e.op ≠ 7 → e.op ≠ 8 → Gr toks .neg k [] e 0 (k + (tokE e).length)) ∧ (e.op = 7 → acceptB toks (k + (tokE e).length) 1 wAnd = false → Gr toks .ands k [] e 0 (k + (tokE e).length)) ∧
  (e.op = 8 → acceptB toks (k + (tokE e).length) 1 wAnd = false → acceptB toks (k + (tokE e).length) 1 wOr = false → Gr toks .ors k [] e 0 (k + (tokE e).length))

theorem Reads.ands {toks : List Tok} {e : Ex} (h : Reads toks e) (h8 : e.op ≠ 8) {k : Nat} (ha : AtT toks k (tokE e)) (ht : NoTail toks (k + (tokE e).length)) (h1 : acceptB toks (k + (tokE e).length) 1 wAnd = false) : Gr toks .ands k [] e 0 (k + (tokE e).length) := by
  by_cases h7 : e.op = 7
  · exact (h k ha ht).2.1 h7 h1
  · exact Gr.andStop (acc := []) ((h k ha ht).1 h7 h8) h1
theorem Reads.ors {toks : List Tok} {e : Ex} (h : Reads toks e) {k : Nat} (ha : AtT toks k (tokE e)) (ht : NoTail toks (k + (tokE e).length)) (h1 : acceptB toks (k + (tokE e).length) 1 wAnd = false) (h2 : acceptB toks (k + (tokE e).length) 1 wOr = false) : Gr toks .ors k [] e 0 (k + (tokE e).length) := by
  by_cases h8 : e.op = 8
  · exact (h k ha ht).2.2 h8 h1 h2
  · exact Gr.orStop (acc := []) (h.ands h8 ha ht h1) h2
theorem not_mark {toks : List Tok} {k : Nat} {c : UInt8} (h : ∃ p, toks[k]? = some ⟨(markT c).kind, (markT c).text, (markT c).num, p⟩) : acceptB toks k 1 wNot = false := by rw [accept_at h]; simp [markT]
/-- An expression in parentheses. -/
theorem Reads.parens {toks : List Tok} {e : Ex} (h : Reads toks e) {k : Nat} (ha : AtT toks k ([markT 40] ++ tokE e ++ [markT 41])) : Gr toks .neg k [] e 0 (k + ([markT 40] ++ tokE e ++ [markT 41]).length) := by
  rw [AtT.append, AtT.append] at ha
  obtain ⟨⟨h1, h2⟩, h3⟩ := ha
  have ho : ∃ p, toks[k]? = some ⟨(markT 40).kind, (markT 40).text, (markT 40).num, p⟩ := h1.1
  simp only [List.length_singleton] at h2
  have hl : k + ([markT 40] ++ tokE e).length = k + 1 + (tokE e).length := by simp; omega
  rw [hl] at h3
  have hc : ∃ p, toks[k + 1 + (tokE e).length]? = some ⟨(markT 41).kind, (markT 41).text, (markT 41).num, p⟩ := h3.1
  have hg := h.ors h2 (noTail_mark hc) (ends_mark hc).1 (ends_mark hc).2
  have := Gr.negAtom (not_mark ho) (Gr.parenOk (by rw [accept_at ho]; simp [markT]) hg (by rw [accept_at hc]; simp [markT]))
  rw [show k + ([markT 40] ++ tokE e ++ [markT 41]).length = k + 1 + (tokE e).length + 1 by simp; omega]
  exact this
/-- An argument of not, or of and. -/
theorem Reads.argNeg {toks : List Tok} {e : Ex} (h : Reads toks e) {op : Int} (hop : op ≠ 8) {k : Nat} (ha : AtT toks k (argT op e)) (ht : NoTail toks (k + (argT op e).length)) : Gr toks .neg k [] e 0 (k + (argT op e).length) := by
  unfold argT at *
  by_cases hp : paren op e.op = true
  · rw [if_pos hp] at *
    exact h.parens ha
  · rw [if_neg hp] at *
    simp only [paren, Bool.or_eq_true, Bool.and_eq_true, beq_iff_eq, bne_iff_ne, not_or, not_and] at hp
    exact (h k ha ht).1 (fun e7 => hp.2 e7 hop) hp.1
/-- An argument of or. -/
theorem Reads.argAnds {toks : List Tok} {e : Ex} (h : Reads toks e) {k : Nat} (ha : AtT toks k (argT 8 e)) (ht : NoTail toks (k + (argT 8 e).length)) (h1 : acceptB toks (k + (argT 8 e).length) 1 wAnd = false) : Gr toks .ands k [] e 0 (k + (argT 8 e).length) := by
  unfold argT at *
  by_cases hp : paren 8 e.op = true
  · rw [if_pos hp] at *
    exact Gr.andStop (acc := []) (h.parens ha) h1
  · rw [if_neg hp] at *
    simp only [paren, Bool.or_eq_true, Bool.and_eq_true, beq_iff_eq, bne_iff_ne, not_or, not_and] at hp
    exact h.ands hp.1 ha ht h1

/-- Arguments of and. -/
theorem ands_read {toks : List Tok} : (r : List Ex) → (a : Ex) → (∀ x ∈ a :: r, Reads toks x) → (acc : List Ex) → (k : Nat) → AtT toks k (argT 7 a ++ tokMore 7 r) → NoTail toks (k + (argT 7 a ++ tokMore 7 r).length) → acceptB toks (k + (argT 7 a ++ tokMore 7 r).length) 1 wAnd = false →
    Gr toks .ands k acc (joinE 7 (acc ++ a :: r)) 0 (k + (argT 7 a ++ tokMore 7 r).length)
  | [], a, hr, acc, k, ha, ht, h1 => by
    simp only [tokMore, List.append_nil] at *
    exact Gr.andStop ((hr a (by simp)).argNeg (by decide) ha ht) h1
  | b :: r, a, hr, acc, k, ha, ht, h1 => by
    rw [tokMore_cons, if_pos rfl, AtT.append] at ha
    obtain ⟨ha1, hw, ha2⟩ := ha
    have hlen : k + (argT 7 a ++ tokMore 7 (b :: r)).length = k + (argT 7 a).length + 1 + (argT 7 b ++ tokMore 7 r).length := by rw [tokMore_cons]; simp; omega
    rw [hlen] at ht h1 ⊢
    have hg := (hr a (by simp)).argNeg (op := 7) (by decide) ha1 (noTail_name hw wAnd_ne.1 wAnd_ne.2.1)
    have ih := ands_read r b (fun x hx => hr x (List.mem_cons_of_mem _ hx)) (acc ++ [a]) (k + (argT 7 a).length + 1) ha2 ht h1
    refine Gr.andStep hg (by rw [accept_at hw]; simp [nameT]) ?_
    simpa using ih
/-- Arguments of or. -/
theorem ors_read {toks : List Tok} : (r : List Ex) → (a : Ex) → (∀ x ∈ a :: r, Reads toks x) → (acc : List Ex) → (k : Nat) → AtT toks k (argT 8 a ++ tokMore 8 r) → NoTail toks (k + (argT 8 a ++ tokMore 8 r).length) → acceptB toks (k + (argT 8 a ++ tokMore 8 r).length) 1 wAnd = false → acceptB toks (k + (argT 8 a ++ tokMore 8 r).length) 1 wOr = false →
    Gr toks .ors k acc (joinE 8 (acc ++ a :: r)) 0 (k + (argT 8 a ++ tokMore 8 r).length)
  | [], a, hr, acc, k, ha, ht, h1, h2 => by
    simp only [tokMore, List.append_nil] at *
    exact Gr.orStop ((hr a (by simp)).argAnds ha ht h1) h2
  | b :: r, a, hr, acc, k, ha, ht, h1, h2 => by
    rw [tokMore_cons, if_neg (by decide), AtT.append] at ha
    obtain ⟨ha1, hw, ha2⟩ := ha
    have hlen : k + (argT 8 a ++ tokMore 8 (b :: r)).length = k + (argT 8 a).length + 1 + (argT 8 b ++ tokMore 8 r).length := by rw [tokMore_cons]; simp; omega
    rw [hlen] at ht h1 h2 ⊢
    have hg := (hr a (by simp)).argAnds ha1 (noTail_name hw wAnd_ne.2.2.1 wAnd_ne.2.2.2.1) (by rw [accept_at hw]; simp [nameT, wAnd_ne.2.2.2.2.1])
    have ih := ors_read r b (fun x hx => hr x (List.mem_cons_of_mem _ hx)) (acc ++ [a]) (k + (argT 8 a).length + 1) ha2 ht h1 h2
    refine Gr.orStep hg (by rw [accept_at hw]; simp [nameT]) ?_
    simpa using ih
theorem okTrees_mem {l : List Ex} (h : okTrees l) : ∀ x ∈ l, okTree x := by
  induction l with
  | nil => intro x hx; simp at hx
  | cons e r ih =>
    unfold okTrees at h
    intro x hx
    rcases List.mem_cons.1 hx with rfl | hx
    · exact h.1
    · exact ih h.2 x hx
theorem operand_gr {toks : List Tok} {k : Nat} {e : Ex} {n : Nat} (h1 : acceptB toks k 4 ⟨#[40]⟩ = false) (h2 : acceptB toks k 1 wNot = false) (h3 : operandF toks k = (⟨e, 1, 1⟩, 0, n)) : Gr toks .neg k [] e 0 n := by
  have := Gr.negAtom h2 (Gr.operand h1)
  rw [h3] at this
  exact this
theorem name_start {toks : List Tok} {k : Nat} {s : ByteArray} (h : ∃ p, toks[k]? = some ⟨(nameT s).kind, (nameT s).text, (nameT s).num, p⟩) (hs : s ≠ wNot) : acceptB toks k 4 ⟨#[40]⟩ = false ∧ acceptB toks k 1 wNot = false := by
  constructor <;> (rw [accept_at h]; simp [nameT, hs])
theorem reads_ok (toks : List Tok) (m : Nat) : ∀ e : Ex, e.size ≤ m → okTree e → Reads toks e := by
  induction m with
  | zero => intro e h; have := e.size_eq; omega
  | succ m ih =>
    intro e hm hok k ha ht
    have hsz := e.size_eq
    have hargs : ∀ x ∈ e.args, Reads toks x := fun x hx => ih x (by have := sizes_mem hx; omega) (by
      cases e; unfold okTree at hok; exact okTrees_mem hok.2 x hx)
    have hnode : okNode e := by cases e; unfold okTree at hok; exact hok.1
    obtain ⟨op, name, words, lo, hi, args⟩ := e
    simp only [Ex.op, Ex.name, Ex.words, Ex.lo, Ex.hi, Ex.args, okNode] at hnode hargs ⊢
    rcases hnode with ⟨rfl, rfl, rfl, rfl, rfl, rfl⟩ | ⟨rfl, rfl, rfl, rfl, rfl, rfl⟩ | ⟨rfl, hn, rfl, rfl, rfl, rfl⟩ | ⟨rfl, hn, hw, rfl, rfl, rfl⟩ | ⟨rfl, hn, rfl, hl, hh, hlh, rfl⟩ | ⟨rfl, rfl, rfl, rfl, rfl, hl⟩ | ⟨hop, rfl, rfl, rfl, rfl, hl⟩
    · refine ⟨fun _ _ => ?_, fun h => by simp at h, fun h => by simp at h⟩
      simp only [tokE, if_true, AtT] at ha ⊢
      have hs := name_start ha.1 (by decide +kernel)
      exact operand_gr hs.1 hs.2 (by rw [operandF, if_pos (by rw [accept_at ha.1]; simp [nameT])]; rfl)
    · refine ⟨fun _ _ => ?_, fun h => by simp at h, fun h => by simp at h⟩
      have e0 : tokE (.mk 2 ⟨#[]⟩ [] 0 0 []) = [nameT wFalse] := by simp [tokE]
      rw [e0] at ha ⊢
      simp only [AtT] at ha
      have hs := name_start ha.1 (by decide +kernel)
      exact operand_gr hs.1 hs.2 (by rw [operandF, if_neg (by rw [accept_at ha.1]; simp [nameT, (by decide +kernel : wFalse ≠ wTrue)]), if_pos (by rw [accept_at ha.1]; simp [nameT])]; rfl)
    · refine ⟨fun _ _ => ?_, fun h => by simp at h, fun h => by simp at h⟩
      have e0 : tokE (.mk 3 name [] 0 0 []) = [nameT name] := by simp [tokE]
      rw [e0] at ha ht ⊢
      simp only [AtT] at ha
      obtain ⟨n1, n2, n3, _⟩ := nameB_word hn
      have hs := name_start ha.1 n3
      refine operand_gr hs.1 hs.2 ?_
      rw [operandF, if_neg (by rw [accept_at ha.1]; simp [nameT, n1]), if_neg (by rw [accept_at ha.1]; simp [nameT, n2]), if_neg (by rw [nameTok_at ha.1]; simp [nameT, hn]), if_neg (by have := ht.1; simp at this; simp [this]), if_neg (by have := ht.2; simp at this; simp [this]), text_at ha.1]
      rfl
    · refine ⟨fun _ _ => ?_, fun h => by simp at h, fun h => by simp at h⟩
      have e0 : tokE (.mk 4 name words 0 0 []) = [nameT name, nameT wIn, markT 40] ++ (listedT words ++ [markT 41]) := by simp [tokE]
      rw [e0, AtT.append] at ha
      rw [e0] at ht ⊢
      obtain ⟨⟨a1, a2, a3, _⟩, a4⟩ := ha
      obtain ⟨n1, n2, n3, _⟩ := nameB_word hn
      have hs := name_start a1 n3
      simp only [wordsB, Bool.and_eq_true, bne_iff_ne, decide_eq_true_eq, List.all_eq_true] at hw
      have hlist : listF toks (k + 2) = (words, 0, k + ([nameT name, nameT wIn, markT 40] ++ (listedT words ++ [markT 41])).length) := by
        rw [listF, if_pos (by rw [accept_at a3]; simp [markT]), list_read words (fun e => hw.1.1.1 (by rw [e]; rfl)) (k + 3) 14 [] a4 (by simpa using hw.1.1.2) hw.1.2 (by simpa using hw.2) (by have := hw.1.1.2; omega)]
        simp
        omega
      refine operand_gr hs.1 hs.2 ?_
      rw [operandF, if_neg (by rw [accept_at a1]; simp [nameT, n1]), if_neg (by rw [accept_at a1]; simp [nameT, n2]), if_neg (by rw [nameTok_at a1]; simp [nameT, hn]), if_pos (by rw [accept_at a2]; simp [nameT]), hlist, text_at a1]
      rfl
    · refine ⟨fun _ _ => ?_, fun h => by simp at h, fun h => by simp at h⟩
      have e0 : tokE (.mk 5 name [] lo hi []) = [nameT name, nameT wFrom, numT lo, nameT wTo, numT hi] := by simp [tokE]
      rw [e0] at ha ht ⊢
      obtain ⟨a1, a2, ⟨p3, a3⟩, a4, ⟨p5, a5⟩, _⟩ := ha
      obtain ⟨n1, n2, n3, _⟩ := nameB_word hn
      have hs := name_start a1 n3
      have hb1 : boundF toks (k + 2) (-1000000000) = (lo, 0, k + 3) := by
        have hlo : -1000000000 ≤ lo := by simp [numberB] at hl; exact hl.1
        rw [boundF, a3]
        simp [numT, hl, hlo]
      have hb2 : boundF toks (k + 4) lo = (hi, 0, k + 5) := by
        rw [boundF, a5]
        simp [numT, hh, hlh]
      have hint : intervalF toks (k + 2) = (lo, hi, 0, k + 5) := by
        unfold intervalF
        simp only [hb1]
        rw [if_neg (by simp), if_neg (by rw [show (⟨#[116, 111]⟩ : ByteArray) = wTo from rfl, accept_at a4]; simp [nameT])]
        simp only [hb2]
      refine operand_gr hs.1 hs.2 ?_
      rw [operandF, if_neg (by rw [accept_at a1]; simp [nameT, n1]), if_neg (by rw [accept_at a1]; simp [nameT, n2]), if_neg (by rw [nameTok_at a1]; simp [nameT, hn]), if_neg (by rw [accept_at a2]; simp [nameT, (by decide +kernel : wFrom ≠ wIn)]), if_pos (by rw [accept_at a2]; simp [nameT]), hint, text_at a1]
      rfl
    · refine ⟨fun _ _ => ?_, fun h => by simp at h, fun h => by simp at h⟩
      obtain ⟨x, rfl⟩ : ∃ x, args = [x] := by
        match args, hl with
        | [x], _ => exact ⟨x, rfl⟩
      have e0 : tokE (.mk 6 ⟨#[]⟩ [] 0 0 [x]) = nameT wNot :: argT 6 x := by
        rw [tokE]; simp [tokArgs_cons, tokMore]
      rw [e0] at ha ht ⊢
      have hlen : k + (nameT wNot :: argT 6 x).length = k + 1 + (argT 6 x).length := by simp; omega
      rw [hlen] at ht ⊢
      exact Gr.notOk (by rw [accept_at ha.1]; simp [nameT]) ((hargs x (by simp)).argNeg (by decide) ha.2 ht)
    · obtain ⟨a, b, r, rfl⟩ : ∃ a b r, args = a :: b :: r := by
        match args, hl with
        | a :: b :: r, _ => exact ⟨a, b, r, rfl⟩
      rcases hop with rfl | rfl
      · have e0 : tokE (.mk 7 ⟨#[]⟩ [] 0 0 (a :: b :: r)) = argT 7 a ++ tokMore 7 (b :: r) := by rw [tokE]; simp [tokArgs_cons]
        rw [e0] at ha ht ⊢
        exact ⟨fun h => absurd rfl h, fun _ h1 => ands_read (b :: r) a hargs [] k ha ht h1, fun h => by simp at h⟩
      · have e0 : tokE (.mk 8 ⟨#[]⟩ [] 0 0 (a :: b :: r)) = argT 8 a ++ tokMore 8 (b :: r) := by rw [tokE]; simp [tokArgs_cons]
        rw [e0] at ha ht ⊢
        exact ⟨fun _ h => absurd rfl h, fun h => by simp at h, fun _ h1 h2 => ors_read (b :: r) a hargs [] k ha ht h1 h2⟩
/-- The tokens of an expression at the end of a list are read as the expression. -/
theorem run_ok {toks : List Tok} {e : Ex} {k : Nat} (hok : okTree e) (ha : AtT toks k (tokE e)) (hend : toks.length ≤ k + (tokE e).length) : run toks true k [] lvl0 = (partOf e, 0, k + (tokE e).length) := by
  have hno : ∀ kind text, acceptB toks (k + (tokE e).length) kind text = false := fun kind text => by rw [acceptB, List.getElem?_eq_none hend]
  have := Gr.run ((reads_ok toks e.size e (Nat.le_refl _) hok).ors ha ⟨hno _ _, hno _ _⟩ (hno _ _) (hno _ _))
  simpa using this
end Go.Proofs.YtfjlglefodndjaaGreatDoor

namespace Go.Proofs.YtfjlglefodndjaaGreatDoor

/-- These bytes stand in a text from an offset on. -/
def AtB (s : ByteArray) : Nat → List UInt8 → Prop
  | _, [] => True
  | i, c :: r => (∃ h : i < s.size, s[i] = c) ∧ AtB s (i + 1) r
theorem AtB.append {s : ByteArray} : (a b : List UInt8) → (i : Nat) → AtB s i (a ++ b) ↔ AtB s i a ∧ AtB s (i + a.length) b
  | [], b, i => by simp [AtB]
  | c :: r, b, i => by
    simp only [List.cons_append, AtB, AtB.append r b (i + 1), List.length_cons]
    rw [show i + 1 + r.length = i + (r.length + 1) by omega]
    exact and_assoc.symm
theorem AtB.get {s : ByteArray} : (b : List UInt8) → (i : Nat) → AtB s i b → ∀ j (hj : j < b.length), ∃ h : i + j < s.size, s[i + j] = b[j]
  | [], i, _, j, hj => by simp at hj
  | c :: r, i, h, 0, _ => by simpa using h.1
  | c :: r, i, h, j + 1, hj => by
    obtain ⟨h1, h2⟩ := AtB.get r (i + 1) h.2 j (by simpa using hj)
    have e : i + 1 + j = i + (j + 1) := by omega
    simp only [e] at h2
    exact ⟨by omega, by simpa using h2⟩
theorem AtB.of_get {s : ByteArray} : (b : List UInt8) → (i : Nat) → (∀ j (hj : j < b.length), ∃ h : i + j < s.size, s[i + j] = b[j]) → AtB s i b
  | [], i, _ => trivial
  | c :: r, i, h => by
    obtain ⟨g1, g2⟩ := h 0 (by simp)
    refine ⟨⟨by simpa using g1, by simpa using g2⟩, AtB.of_get r (i + 1) fun j hj => ?_⟩
    obtain ⟨h1, h2⟩ := h (j + 1) (by simpa using hj)
    have e : i + (j + 1) = i + 1 + j := by omega
    simp only [e] at h2
    exact ⟨by omega, by simpa using h2⟩
theorem AtB.le {s : ByteArray} : (b : List UInt8) → (i : Nat) → i ≤ s.size → AtB s i b → i + b.length ≤ s.size
  | [], i, hi, _ => by simpa using hi
  | c :: r, i, _, h => by
    obtain ⟨h1, _⟩ := h.1
    have := AtB.le r (i + 1) h1 h.2
    simp; omega
theorem atB_self (b : List UInt8) : AtB ⟨b.toArray⟩ 0 b := AtB.of_get b 0 fun j hj => by
  have h : 0 + j < (⟨b.toArray⟩ : ByteArray).size := by simp [ByteArray.size]; omega
  refine ⟨h, ?_⟩
  simp [ByteArray.getElem_eq_getElem_data]
theorem AtB.extract {s : ByteArray} {b : List UInt8} {i : Nat} (h : AtB s i b) (hi : i ≤ s.size) : s.extract i (i + b.length) = ⟨b.toArray⟩ := by
  have hle := AtB.le b i hi h
  apply ByteArray.ext
  apply Array.ext
  · rw [ByteArray.data_extract]
    simp only [Array.size_extract, List.size_toArray]
    have : s.data.size = s.size := rfl
    omega
  · intro j h1 h2
    obtain ⟨h3, h4⟩ := AtB.get b i h j (by simpa using h2)
    simp only [ByteArray.data_extract, Array.getElem_extract, List.getElem_toArray]
    rw [← h4]; rfl
theorem AtB.byte {s : ByteArray} {c : UInt8} {r : List UInt8} {i : Nat} (h : AtB s i (c :: r)) : byteAt s i = (c.toNat : Int) := by
  obtain ⟨h1, h2⟩ := h.1
  rw [byteAt_lt h1, h2]
theorem AtB.span {p : Int → Bool} {s : ByteArray} : (b : List UInt8) → (i : Nat) → AtB s i b → (∀ c ∈ b, p (c.toNat : Int) = true) → p (byteAt s (i + b.length)) = false → spanF p s (s.size - i) i = i + b.length
  | [], i, _, _, h => by
    simp only [List.length_nil, Nat.add_zero] at *
    by_cases hi : i < s.size
    · rw [byteAt_lt hi] at h; exact spanF_stop hi h
    · exact spanF_end hi
  | c :: r, i, h, hall, hend => by
    obtain ⟨⟨h1, h2⟩, h3⟩ := h
    have e : i + (c :: r).length = i + 1 + r.length := by simp; omega
    rw [e] at hend ⊢
    rw [spanF_step h1 (by rw [h2]; exact hall c (by simp)), AtB.span r (i + 1) h3 (fun x hx => hall x (List.mem_cons_of_mem _ hx)) hend]

/-- A word is read as one. -/
theorem tokenF_word {s t : ByteArray} {i : Nat} (hw : wordB t = true) (ha : AtB s i t.data.toList) (hi : i ≤ s.size) (hn : inWordB (byteAt s (i + t.data.toList.length)) = false) : tokenF s i = (⟨1, t, 0, i⟩, ((i + t.data.toList.length : Nat) : Int), 0) := by
  have hsp := AtB.span (p := inWordB) t.data.toList i ha (fun c hc => by
    simp only [wordB, Bool.and_eq_true, beq_iff_eq] at hw
    obtain ⟨j, hj, rfl⟩ := List.getElem_of_mem hc
    have hj' : j < t.size := by simpa using hj
    have := spanF_all inWordB t t.size 0 j hj' (by omega) (by rw [hw.2]; exact hj')
    simpa [ByteArray.getElem_eq_getElem_data] using this) hn
  have hex := ha.extract hi
  have et : (⟨t.data.toList.toArray⟩ : ByteArray) = t := by cases t; simp
  rw [et] at hex
  have hl : letterB (byteAt s i) = true := by
    have hw' := hw
    simp only [wordB, Bool.and_eq_true, bne_iff_ne] at hw'
    obtain ⟨⟨⟨⟨h0, _⟩, h1⟩, _⟩, _⟩ := hw'
    have h0' : 0 < t.size := by omega
    obtain ⟨h3, h4⟩ := AtB.get _ i ha 0 (by simpa using h0')
    rw [byteAt_lt h0'] at h1
    have h3' : i < s.size := by simpa using h3
    have h4' : s[i] = t[0] := by simpa [ByteArray.getElem_eq_getElem_data] using h4
    rw [byteAt_lt h3', h4']; exact h1
  rw [tokenF, if_pos hl, hsp, hex, if_pos hw]

/-- The digits of a number. -/
def digs : Nat → Nat → List UInt8
  | 0, _ => []
  | f + 1, n => if n < 10 then [UInt8.ofNat (48 + n)] else digs f (n / 10) ++ [UInt8.ofNat (48 + n % 10)]
/-- A number in decimal. -/
def decB (n : Int) : List UInt8 := if n < 0 then 45 :: digs 20 n.natAbs else digs 20 n.natAbs
def isDig (c : UInt8) : Prop := 48 ≤ c.toNat ∧ c.toNat ≤ 57
theorem isDig_of {n : Nat} (h : n < 10) : isDig (UInt8.ofNat (48 + n)) := by
  have : (UInt8.ofNat (48 + n)).toNat = 48 + n := by rw [UInt8.toNat_ofNat']; omega
  unfold isDig; omega
theorem digs_all : (f n : Nat) → ∀ c ∈ digs f n, isDig c
  | 0, n, c, h => by simp [digs] at h
  | f + 1, n, c, h => by
    rw [digs] at h
    split at h
    · rename_i hn; rw [List.mem_singleton.1 h]; exact isDig_of hn
    · rcases List.mem_append.1 h with h | h
      · exact digs_all f _ c h
      · rw [List.mem_singleton.1 h]; exact isDig_of (by omega)
def valD (n : Int) (b : List UInt8) : Int := b.foldl (fun a c => a * 10 + ((c.toNat : Int) - 48)) n
theorem valD_digs : (f n : Nat) → n < 10 ^ f → valD 0 (digs f n) = n
  | 0, n, h => by simp at h; simp [digs, valD, h]
  | f + 1, n, h => by
    rw [digs]
    split
    · rename_i hn
      have : (UInt8.ofNat (48 + n)).toNat = 48 + n := by rw [UInt8.toNat_ofNat']; omega
      simp only [valD, List.foldl_cons, List.foldl_nil, this]; omega
    · have h1 : n / 10 < 10 ^ f := by rw [Nat.pow_succ] at h; omega
      have ih := valD_digs f (n / 10) h1
      have : (UInt8.ofNat (48 + n % 10)).toNat = 48 + n % 10 := by rw [UInt8.toNat_ofNat']; omega
      unfold valD at *
      rw [List.foldl_append, ih]
      simp only [List.foldl_cons, List.foldl_nil, this]; omega
theorem valD_ge : (b : List UInt8) → (n : Int) → 0 ≤ n → (∀ c ∈ b, isDig c) → n ≤ valD n b
  | [], n, _, _ => by simp [valD]
  | c :: r, n, h, hall => by
    have hc := hall c (by simp)
    unfold isDig at hc
    have := valD_ge r (n * 10 + ((c.toNat : Int) - 48)) (by omega) (fun x hx => hall x (List.mem_cons_of_mem _ hx))
    simp only [valD, List.foldl_cons] at this ⊢
    omega
theorem digs_ne (f n : Nat) : digs (f + 1) n ≠ [] := by
  rw [digs]; split <;> simp
theorem digs_head : (f n : Nat) → 0 < n → n < 10 ^ f → ∃ c r, digs f n = c :: r ∧ c.toNat ≠ 48
  | 0, n, h, h2 => by simp at h2; omega
  | f + 1, n, h, h2 => by
    rw [digs]
    split
    · rename_i hn
      have : (UInt8.ofNat (48 + n)).toNat = 48 + n := by rw [UInt8.toNat_ofNat']; omega
      exact ⟨_, _, rfl, by omega⟩
    · obtain ⟨c, r, h3, h4⟩ := digs_head f (n / 10) (by omega) (by rw [Nat.pow_succ] at h2; omega)
      exact ⟨c, r ++ _, by rw [h3]; rfl, h4⟩
theorem decF_digits {s : ByteArray} : (b : List UInt8) → (k : Nat) → (n : Int) → AtB s k b → k + b.length = s.size → 0 ≤ n → (∀ c ∈ b, isDig c) → valD n b ≤ 17592186044416 → decF s (s.size - k) k n = some (valD n b)
  | [], k, n, _, hk, _, _, _ => by rw [decF_end (by simp at hk; omega)]; simp [valD]
  | c :: r, k, n, h, hk, hn, hall, hv => by
    obtain ⟨⟨h1, h2⟩, h3⟩ := h
    have hc := hall c (by simp)
    unfold isDig at hc
    have hr : ∀ x ∈ r, isDig x := fun x hx => hall x (List.mem_cons_of_mem _ hx)
    have hge := valD_ge r (n * 10 + ((c.toNat : Int) - 48)) (by omega) hr
    have e : valD n (c :: r) = valD (n * 10 + ((c.toNat : Int) - 48)) r := rfl
    rw [e] at hv ⊢
    rw [decF_step h1 (by rw [h2]; omega), h2]
    exact decF_digits r (k + 1) _ h3 (by simp at hk; omega) (by omega) hr hv
theorem numOf_digits (neg : Bool) {m : Nat} (hm : m ≤ 17592186044416) (h0 : neg = true → 0 < m) : numOf neg ⟨(digs 20 m).toArray⟩ = (if neg then -(m : Int) else m, 0) := by
  have hp : m < 10 ^ 20 := by omega
  have hat := atB_self (digs 20 m)
  have hsz : (⟨(digs 20 m).toArray⟩ : ByteArray).size = (digs 20 m).length := by simp [ByteArray.size]
  have hne : (digs 20 m).length ≠ 0 := fun h => digs_ne 19 m (List.eq_nil_of_length_eq_zero h)
  have hd := decF_digits (digs 20 m) 0 0 hat (by rw [hsz]; omega) (by omega) (digs_all 20 m) (by rw [valD_digs 20 m hp]; omega)
  rw [valD_digs 20 m hp] at hd
  rw [numOf, if_neg, hd]
  rintro (h | ⟨h1, h2⟩)
  · omega
  · rcases Nat.eq_zero_or_pos m with rfl | hpos
    · rcases h2 with h2 | h2
      · have := h0 h2; omega
      · rw [hsz] at h2; revert h2; decide
    · obtain ⟨c, r, h3, h4⟩ := digs_head 20 m hpos hp
      rw [h3] at hat h1
      rw [hat.byte] at h1
      exact h4 (by omega)
theorem toNat_inj {a b : UInt8} (h : a.toNat = b.toNat) : a = b := UInt8.toNat_inj.1 h
/-- A number is read as one. -/
theorem tokenF_number {s : ByteArray} {n : Int} {i : Nat} (h1 : -17592186044416 ≤ n) (h2 : n ≤ 17592186044416) (ha : AtB s i (decB n)) (hi : i ≤ s.size) (hn : inWordB (byteAt s (i + (decB n).length)) = false) : tokenF s i = (⟨2, ⟨#[]⟩, n, i⟩, ((i + (decB n).length : Nat) : Int), 0) := by
  have hnd : digitB (byteAt s (i + (decB n).length)) = false := by simp [inWordB] at hn; simp [hn]
  have hdig : ∀ c ∈ digs 20 n.natAbs, digitB (c.toNat : Int) = true := fun c hc => by have := digs_all _ _ c hc; unfold isDig at this; simp [digitB]; omega
  have hex := ha.extract hi
  obtain ⟨c, r, hcr⟩ : ∃ c r, digs 20 n.natAbs = c :: r := by
    cases h : digs 20 n.natAbs with
    | nil => exact absurd h (digs_ne 19 _)
    | cons c r => exact ⟨c, r, rfl⟩
  have hc : isDig c := digs_all 20 n.natAbs c (by rw [hcr]; simp)
  unfold isDig at hc
  by_cases hneg : n < 0
  · have e : decB n = 45 :: digs 20 n.natAbs := by rw [decB, if_pos hneg]
    rw [e] at ha hex hnd ⊢
    have hb := ha.byte
    have hsp := AtB.span (p := digitB) (digs 20 n.natAbs) (i + 1) ha.2 hdig (by simpa [Nat.add_assoc, Nat.add_comm 1] using hnd)
    have e2 : i + (45 :: digs 20 n.natAbs).length = i + 1 + (digs 20 n.natAbs).length := by simp; omega
    rw [e2] at hex ⊢
    have hnum : numberF (⟨(45 :: digs 20 n.natAbs).toArray⟩ : ByteArray) = (n, 0) := by
      have ha2 := atB_self (45 :: digs 20 n.natAbs)
      rw [numberF, if_pos (by rw [ha2.byte]; rfl)]
      have h3 := AtB.extract (s := ⟨(45 :: digs 20 n.natAbs).toArray⟩) (i := 1) ha2.2 (by simp [ByteArray.size])
      rw [show (⟨(45 :: digs 20 n.natAbs).toArray⟩ : ByteArray).size = 1 + (digs 20 n.natAbs).length by simp [ByteArray.size]; omega, h3, numOf_digits true (by omega) (by omega)]
      simp; omega
    rw [tokenF, if_neg (by rw [hb]; decide), if_pos (by rw [hb]; decide), hsp, hex, hnum, if_pos rfl]
  · have e : decB n = digs 20 n.natAbs := by rw [decB, if_neg hneg]
    rw [e] at ha hex hnd ⊢
    have ha' := ha
    rw [hcr] at ha'
    have hb := ha'.byte
    have hsp := AtB.span (p := digitB) r (i + 1) ha'.2 (fun x hx => hdig x (by rw [hcr]; exact List.mem_cons_of_mem _ hx)) (by rw [hcr] at hnd; simpa [Nat.add_assoc, Nat.add_comm 1] using hnd)
    have e2 : i + (digs 20 n.natAbs).length = i + 1 + r.length := by rw [hcr]; simp; omega
    rw [e2] at hex ⊢
    have hnum : numberF (⟨(digs 20 n.natAbs).toArray⟩ : ByteArray) = (n, 0) := by
      have ha2 := atB_self (digs 20 n.natAbs)
      rw [hcr] at ha2
      rw [numberF, if_neg (by rw [hcr, ha2.byte]; omega), numOf_digits false (by omega) (by simp)]
      simp; omega
    have hdg : digitB (byteAt s i) = true := by rw [hb]; simp [digitB]; omega
    have hlt : letterB (byteAt s i) = false := by rw [hb]; simp [letterB]; omega
    rw [tokenF, if_neg (by rw [hlt]; simp), if_pos (by rw [hdg]; rfl), hsp, hex, hnum, if_pos rfl]
/-- A mark is read as one. -/
theorem tokenF_mark {s : ByteArray} {c : UInt8} {i : Nat} (hm : markB (c.toNat : Int) = true) (ha : AtB s i [c]) (hi : i ≤ s.size) : tokenF s i = (⟨4, ⟨#[c]⟩, 0, i⟩, ((i + 1 : Nat) : Int), 0) := by
  have hex := ha.extract hi
  have hb := ha.byte
  simp only [List.length_singleton] at hex
  have hc : c.toNat = 59 ∨ c.toNat = 58 ∨ c.toNat = 44 ∨ c.toNat = 40 ∨ c.toNat = 41 := by simp [markB] at hm; omega
  rw [tokenF, if_neg (by rw [hb]; simp [letterB]; omega), if_neg (by rw [hb]; simp [digitB]; omega), if_pos (by rw [hb]; exact hm), hex]
end Go.Proofs.YtfjlglefodndjaaGreatDoor

namespace Go.Proofs.YtfjlglefodndjaaGreatDoor
open Go.RowKit

/-- What the scanner makes of a text. -/
def scanAll (s : ByteArray) : List Tok × Int × Int := if 16384 < s.size then ([], 0, 4) else scanF s s.size 0 []
def ParseQ (e : Ex) (er : Int) (M : List Nat) (w : World) (r : Ending) (w' : World) : Prop := ∃ (x : ExV) (off : Int), r = .returned (.tuple #[x.val, .int .i64 off, .int .i64 er]) ∧ IsEx (mask w' M) e x.val ∧ (er = 0 → off = 0) ∧ Ext w w'

end Go.Proofs.YtfjlglefodndjaaGreatDoor
