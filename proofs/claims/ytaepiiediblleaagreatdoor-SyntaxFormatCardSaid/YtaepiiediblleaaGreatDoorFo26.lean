/-
  Texts of the claim, joined: SFormat.
-/
import Derived.Test.YtaepiiediblleaaGreatDoorFo18
import Derived.Test.YtaepiiediblleaaGreatDoorFo24
import Derived.Test.YtaepiiediblleaaGreatDoorFo25
namespace Go.Proofs.YtaepiiediblleaaGreatDoor
open Go.RowKit

theorem listed_len : (l : List ByteArray) → (listedT l).length ≤ 2 * l.length
  | [] => by simp [listedT]
  | [s] => by simp [listedT]
  | s :: t :: r => by
    have := listed_len (t :: r)
    simp only [listedT, List.length_cons] at *
    omega
theorem words_len {l : List ByteArray} (h : wordsB l = true) : l.length ≤ 12 := by
  simp only [wordsB, Bool.and_eq_true, decide_eq_true_eq] at h
  exact h.1.1.2
mutual
theorem tokE_len : (e : Ex) → okTree e → (tokE e).length + 3 ≤ 31 * e.size
  | .mk op name words lo hi args, h => by
    rw [okTree] at h
    obtain ⟨hn, ha⟩ := h
    have hs : (Ex.mk op name words lo hi args).size = 1 + sizes args := by simp [Ex.size]
    have h1 := tokArgs_len op args ha
    have h2 := listed_len words
    rw [tokE, hs]
    unfold okNode at hn
    simp only [Ex.op, Ex.name, Ex.words, Ex.lo, Ex.hi, Ex.args] at hn
    split
    · simp; omega
    split
    · simp; omega
    split
    · simp; omega
    split
    · have h3 : words.length ≤ 12 := by
        rcases hn with h | h | h | h | h | h | h
        · omega
        · omega
        · omega
        · exact words_len h.2.2.1
        · omega
        · omega
        · omega
      simp only [List.length_append, List.length_cons, List.length_nil]; omega
    split
    · simp; omega
    split
    · simp only [List.length_append, List.length_cons, List.length_nil]; omega
    · simp only [List.length_append, List.length_nil]; omega
theorem tokArgs_len (op : Int) : (l : List Ex) → okTrees l → (tokArgs op l).length ≤ 31 * sizes l
  | [], _ => by simp [tokArgs]
  | a :: r, h => by
    rw [okTrees] at h
    have h1 := tokE_len a h.1
    have h2 := tokMore_len op r h.2
    rw [tokArgs, sizes]
    split <;> simp only [List.length_append, List.length_cons, List.length_nil] <;> omega
theorem tokMore_len (op : Int) : (l : List Ex) → okTrees l → (tokMore op l).length ≤ 31 * sizes l
  | [], _ => by simp [tokMore]
  | a :: r, h => by
    rw [okTrees] at h
    have h1 := tokE_len a h.1
    have h2 := tokMore_len op r h.2
    rw [tokMore, sizes]
    cases hp : paren op a.op <;> simp only [Bool.false_eq_true, if_false, if_true, List.length_append, List.length_cons, List.length_nil] <;> omega
end
/-- What the program's Format gives. -/
def fmtR (e : Ex) : List UInt8 × Int := if validB e then joinR (tokE e) else ([], 5)

set_option maxRecDepth 100000 in
set_option maxHeartbeats 2000000 in
theorem sformat_calls (e : Ex) (ev : Value) (w : World) (he : IsEx w e ev) (hf : e.fits) (ho : HasOps w) (htab : HasTab w) : Calls Tryz.prog 15 #[ev] w (JoinQ (fmtR e).1 (fmtR e).2 w) := by
  obtain ⟨aw, nw, cw, aa, na, ca, rfl, hw, hna, hca, ha, hx⟩ := he.parts
  have HX := Lib.hid ((Ext.refl w).alloc (.cells #[.int .i64 e.op, .string e.name, .slice aw nw cw, .int .i64 e.lo, .int .i64 e.hi, .slice aa na ca] 28))
  have HBX := Lib.hid (alloc_new w (.cells #[.int .i64 e.op, .string e.name, .slice aw nw cw, .int .i64 e.lo, .int .i64 e.hi, .slice aa na ca] 28))
  have HE := Lib.hid (he.ext HX.out)
  have HF := Lib.hid hf
  have HO := Lib.hid ho
  have HTB := Lib.hid htab
  have HR := Lib.hid (show fmtR e = if validB e then joinR (tokE e) else ([], 5) from rfl)
  clear hw hna hca ha hx he hf ho htab
  unfold exV at *
  go_enter Tryz.func15, Tryz.ntmps15
  go_wp2_with fail
  generalize w.alloc (.cells #[.int .i64 e.op, .string e.name, .slice aw nw cw, .int .i64 e.lo, .int .i64 e.hi, .slice aa na ca] 28) = wb at *
  refine (Valid_calls e _ _ HE.out (HO.out.ext HX.out) HF.out).mono ?_
  rintro r w1 ⟨rfl, hx1⟩
  have hb1 := hx1.blk HBX.out
  have hlt := blk_lt hb1
  obtain ⟨b0, b1, b2, b3, b4, b5, bf⟩ := blk6 hb1
  have HX1 := Lib.hid (HX.out.trans hx1)
  have HE1 := Lib.hid (HE.out.ext hx1)
  clear hx1 hb1
  cases hv : validB e with
  | false =>
    rw [hv] at HR
    go_wp2_with fail
    go_ret2
    rw [HR.out]
    exact ⟨rfl, HX1.out⟩
  | true =>
    rw [hv] at HR
    obtain ⟨hok, hdp, hsz⟩ := (valid_ok e).1 hv
    have HGD := Lib.hid (good_tokE e.size e (Nat.le_refl _) hok)
    have HOK := Lib.hid hok
    have hlen := tokE_len e hok
    clear hok hv
    go_wp2_with fail
    refine (app_calls (HO.out.ext HX1.out) 300 (by omega) e [] (.slice none 0 0) w1.heap.size w1 _ hsz HOK.out (Ext.refl w1) (Nat.le_refl _) (HE1.out.mono (sub_mask_nil w1)) (World.ownsRow_nil _ _ _ _) (by omega) (by simp; omega)).mono ?_
    rintro r w2 ⟨v', rfl, ho, hg⟩
    rw [List.nil_append] at ho
    obtain ⟨a, c, rfl, hrows⟩ := IsRows.of_owns (f := tokCells) (fun _ => rfl) ho
    have HX2 := Lib.hid (hg.1.ext HX1.out (by intro q hq; simp [rowOf, Value.ownBlock] at hq))
    have HRW := Lib.hid hrows
    clear ho hg hrows b0 b1 b2 b3 b4 b5 bf
    go_wp2_with fail
    refine (sjoin_calls _ a _ c w2 HRW.out HGD.out (HTB.out.ext HX2.out)).mono ?_
    rintro r w3 ⟨rfl, hx3⟩
    have HX3 := Lib.hid (HX2.out.trans hx3)
    clear hx3
    have HR2 := Lib.hid (show fmtR e = joinR (tokE e) from HR.out)
    clear HR
    generalize joinR (tokE e) = J at *
    unfold bstr
    go_wp2_with fail
    refine bodyPost_ret (v := .tuple #[bstr J.1, .int .i64 J.2]) (by simp [results, Tryz.results15, go_sem, bstr]) rfl ⟨by rw [HR2.out], HX3.out⟩
theorem fmtR_ok {e : Ex} (hf : Fine 4 e) : fmtR e = (fmtB e, 0) := by
  have b := bound4
  have h1 := hf.size; have h2 := hf.depth; have h3 := hf.len; have h4 := hf.wt
  have h5 := pcsB_joinPc_le (tokE e) true
  have hv : validB e = true := (valid_ok e).2 ⟨hf.ok, by omega, by omega⟩
  have h6 : (pcsB (joinPc true (tokE e))).length ≤ 16384 := by omega
  rw [fmtR, if_pos hv, joinR, if_neg (by omega), if_neg (by omega)]
  rfl
end Go.Proofs.YtaepiiediblleaaGreatDoor
