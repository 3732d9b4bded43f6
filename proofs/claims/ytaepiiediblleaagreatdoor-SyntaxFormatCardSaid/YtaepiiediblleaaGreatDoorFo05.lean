/-
  Texts of the claim, joined: Parse4, Deck.
-/
import Derived.Test.YtaepiiediblleaaGreatDoorFo04
import Derived.IntWalk
namespace Go.Proofs.YtaepiiediblleaaGreatDoor
open Go.RowKit

def wTrue : ByteArray := ⟨#[116, 114, 117, 101]⟩
def wFalse : ByteArray := ⟨#[102, 97, 108, 115, 101]⟩
def wIn : ByteArray := ⟨#[105, 110]⟩
def wFrom : ByteArray := ⟨#[102, 114, 111, 109]⟩
def wNot : ByteArray := ⟨#[110, 111, 116]⟩
def wAnd : ByteArray := ⟨#[97, 110, 100]⟩
def wOr : ByteArray := ⟨#[111, 114]⟩

/-- The words of the operators, where the program reads them. -/
theorem opsAt {w0 w : World} (h : HasOps w0) (hx : Ext w0 w) : w.cell? ⟨0, 5, none⟩ = some (.string wTrue) ∧ w.cell? ⟨0, 10, none⟩ = some (.string wFalse) ∧ w.cell? ⟨0, 20, none⟩ = some (.string wIn) ∧
    w.cell? ⟨0, 25, none⟩ = some (.string wFrom) ∧ w.cell? ⟨0, 30, none⟩ = some (.string wNot) ∧ w.cell? ⟨0, 35, none⟩ = some (.string wAnd) ∧ w.cell? ⟨0, 40, none⟩ = some (.string wOr) ∧ 0 < w.heap.size :=
  ⟨hx.cell (h 1 (by omega)).1, hx.cell (h 2 (by omega)).1, hx.cell (h 4 (by omega)).1, hx.cell (h 5 (by omega)).1, hx.cell (h 6 (by omega)).1, hx.cell (h 7 (by omega)).1, hx.cell (h 8 (by omega)).1, block_lt (hx.cell (h 1 (by omega)).1)⟩

theorem PC.acceptY {toks : List Tok} {ta : Option Addr} {tn tc : Nat} {w0 w : World} {bp k : Nat} {vl : Value} (h : PC toks ta tn tc w0 w bp k vl) {kind : Int} {text : ByteArray} (ha : acceptB toks k kind text = true) :
    Calls Tryz.prog 43 #[.pointer (some ⟨bp, 0, none⟩), .int .i64 kind, .string text] w (fun e w' => e = .returned (.bool true) ∧ Chg [bp] w w' ∧ PC toks ta tn tc w0 w' bp (k + 1) vl) := by
  have := h.accept kind text
  rw [ha] at this
  simpa using this
theorem PC.acceptN {toks : List Tok} {ta : Option Addr} {tn tc : Nat} {w0 w : World} {bp k : Nat} {vl : Value} (h : PC toks ta tn tc w0 w bp k vl) {kind : Int} {text : ByteArray} (ha : acceptB toks k kind text = false) :
    Calls Tryz.prog 43 #[.pointer (some ⟨bp, 0, none⟩), .int .i64 kind, .string text] w (fun e w' => e = .returned (.bool false) ∧ Chg [bp] w w' ∧ PC toks ta tn tc w0 w' bp k vl) := by
  have := h.accept kind text
  rw [ha] at this
  simpa using this

/-- The operand at the k-th token, the error, and the place after it. -/
def operandF (toks : List Tok) (k : Nat) : Part × Int × Nat :=
  if acceptB toks k 1 wTrue = true then (⟨.mk 1 ⟨#[]⟩ [] 0 0 [], 1, 1⟩, 0, k + 1) else
  if acceptB toks k 1 wFalse = true then (⟨.mk 2 ⟨#[]⟩ [] 0 0 [], 1, 1⟩, 0, k + 1) else
  if nameTokB toks k = false then (⟨ex0, 0, 0⟩, 5, k) else
  if acceptB toks (k + 1) 1 wIn = true then (⟨.mk 4 (textAt toks k) (listF toks (k + 2)).1 0 0 [], 1, 1⟩, (listF toks (k + 2)).2.1, (listF toks (k + 2)).2.2) else
  if acceptB toks (k + 1) 1 wFrom = true then (⟨.mk 5 (textAt toks k) [] (intervalF toks (k + 2)).1 (intervalF toks (k + 2)).2.1 [], 1, 1⟩, (intervalF toks (k + 2)).2.2.1, (intervalF toks (k + 2)).2.2.2) else
  (⟨.mk 3 (textAt toks k) [] 0 0 [], 1, 1⟩, 0, k + 1)

def OperandQ (R : Part × Int × Nat) (toks : List Tok) (ta : Option Addr) (tn tc : Nat) (w0 w : World) (bp : Nat) (vl : Value) (e : Ending) (w' : World) : Prop :=
  ∃ v : PartV, e = .returned (.tuple #[v.val, .int .i64 R.2.1]) ∧ (∀ M : List Nat, (∀ x ∈ M, x < w.heap.size) → PartR (mask w' M) R.1 v) ∧ Chg [bp] w w' ∧ PC toks ta tn tc w0 w' bp R.2.2 vl

theorem isEx_plain (w : World) (op lo hi : Int) (name : ByteArray) : IsEx w (.mk op name [] lo hi []) (exV op name none 0 0 lo hi none 0 0) := by
  refine IsEx.mk ⟨rfl, by omega, Or.inl ⟨rfl, rfl⟩, fun i hi => by simp at hi⟩ rfl (by omega) (Or.inl ⟨rfl, rfl⟩) ?_
  unfold ExsD
  trivial
theorem isEx_words {w : World} {words : List ByteArray} {a : Option Addr} {n c : Nat} (h : IsStrs w words a n c) (op lo hi : Int) (name : ByteArray) : IsEx w (.mk op name words lo hi []) (exV op name a n c lo hi none 0 0) := by
  refine IsEx.mk h rfl (by omega) (Or.inl ⟨rfl, rfl⟩) ?_
  unfold ExsD
  trivial

/-- The two blocks of operand: its result and its expression. -/
theorem blk6 {w : World} {b : Nat} {v0 v1 v2 v3 v4 v5 : Value} {t : TypeId} (h : w.heap[b]? = some (.cells #[v0, v1, v2, v3, v4, v5] t (0, 0))) :
    w.cell? ⟨b, 0, none⟩ = some v0 ∧ w.cell? ⟨b, 1, none⟩ = some v1 ∧ w.cell? ⟨b, 2, none⟩ = some v2 ∧ w.cell? ⟨b, 3, none⟩ = some v3 ∧ w.cell? ⟨b, 4, none⟩ = some v4 ∧ w.cell? ⟨b, 5, none⟩ = some v5 ∧ (∀ j, w.frozen? ⟨b, j, none⟩ = false) :=
  ⟨blk_cell h 0, blk_cell h 1, blk_cell h 2, blk_cell h 3, blk_cell h 4, blk_cell h 5, fun j => blk_free h j⟩
theorem Chg.blk {N : List Nat} {w w' : World} (h : Chg N w w') {b : Nat} {o : Obj} (hb : w.heap[b]? = some o) (hn : b ∉ N) : w'.heap[b]? = some o := (h.block b (blk_lt hb) hn).trans hb

theorem mask_sub2 {x y : Nat} {w w' : World} (M : List Nat) (h : Chg [x, y] w w') : Sub (mask w (x :: y :: M)) (mask w' M) :=
  mask_sub_mask fun k hk hn => by
    simp only [List.mem_cons, not_or] at hn
    exact ⟨hn.2.2, h.block k hk (by simp; exact ⟨hn.1, hn.2.1⟩)⟩

set_option maxRecDepth 100000 in
set_option maxHeartbeats 4000000 in
theorem operand_calls {toks : List Tok} {ta : Option Addr} {tn tc : Nat} {w0 w : World} {bp k : Nat} {vl : Value} (h : PC toks ta tn tc w0 w bp k vl) (ho : HasOps w0) :
    Calls Tryz.prog 39 #[.pointer (some ⟨bp, 0, none⟩)] w (OperandQ (operandF toks k) toks ta tn tc w0 w bp vl) := by
  have HP := Lib.hid h
  have HO := Lib.hid ho
  have hbw := h.cells.2.2.2.2
  have hw0 := h.hx.size
  have hbp := h.hbp
  obtain ⟨o1, o2, o4, o5, o6, o7, o8, olt⟩ := opsAt ho h.hx
  clear ho
  -- the world after the two blocks
  have HX2 : Hid (∀ a b, Ext w ((w.alloc a).alloc b)) := fun a b => ((Ext.refl w).alloc _).alloc _
  cases h1 : acceptB toks k 1 wTrue
  · cases h2 : acceptB toks k 1 wFalse
    · cases h3 : nameTokB toks k
      · have H := Lib.hid (show operandF toks k = (⟨ex0, 0, 0⟩, 5, k) by rw [operandF, if_neg (by simp [h1]), if_neg (by simp [h2]), if_pos h3])
        have H1 := Lib.hid h1
        have H2 := Lib.hid h2
        have H3 := Lib.hid h3
        generalize operandF toks k = R at *
        clear h h1 h2 h3
        go_enter Tryz.func39, Tryz.ntmps39
        go_wp2_with fail
        have hq0 := Lib.hid (HP.out.ext (HX2.out (.cells #[.int .i64 0, .string ⟨#[]⟩, .slice none 0 0, .int .i64 0, .int .i64 0, .slice none 0 0, .int .i64 0, .int .i64 0] 56 (0, 0)) (.cells #[.int .i64 0, .string ⟨#[]⟩, .slice none 0 0, .int .i64 0, .int .i64 0, .slice none 0 0] 28 (0, 0))))
        have hk0 := Lib.hid ((HX2.out (.cells #[.int .i64 0, .string ⟨#[]⟩, .slice none 0 0, .int .i64 0, .int .i64 0, .slice none 0 0, .int .i64 0, .int .i64 0] 56 (0, 0)) (.cells #[.int .i64 0, .string ⟨#[]⟩, .slice none 0 0, .int .i64 0, .int .i64 0, .slice none 0 0] 28 (0, 0))).chg [bp])
        have hA0 := Lib.hid (show ((w.alloc (.cells #[.int .i64 0, .string ⟨#[]⟩, .slice none 0 0, .int .i64 0, .int .i64 0, .slice none 0 0, .int .i64 0, .int .i64 0] 56 (0, 0))).alloc (.cells #[.int .i64 0, .string ⟨#[]⟩, .slice none 0 0, .int .i64 0, .int .i64 0, .slice none 0 0] 28 (0, 0))).heap[w.heap.size]? = some (.cells #[.int .i64 0, .string ⟨#[]⟩, .slice none 0 0, .int .i64 0, .int .i64 0, .slice none 0 0, .int .i64 0, .int .i64 0] 56 (0, 0)) from blk_alloc (alloc_new w _))
        have hE0 := Lib.hid (show ((w.alloc (.cells #[.int .i64 0, .string ⟨#[]⟩, .slice none 0 0, .int .i64 0, .int .i64 0, .slice none 0 0, .int .i64 0, .int .i64 0] 56 (0, 0))).alloc (.cells #[.int .i64 0, .string ⟨#[]⟩, .slice none 0 0, .int .i64 0, .int .i64 0, .slice none 0 0] 28 (0, 0))).heap[w.heap.size + 1]? = some (.cells #[.int .i64 0, .string ⟨#[]⟩, .slice none 0 0, .int .i64 0, .int .i64 0, .slice none 0 0] 28 (0, 0)) by have := alloc_new (w.alloc (.cells #[.int .i64 0, .string ⟨#[]⟩, .slice none 0 0, .int .i64 0, .int .i64 0, .slice none 0 0, .int .i64 0, .int .i64 0] 56 (0, 0))) (.cells #[.int .i64 0, .string ⟨#[]⟩, .slice none 0 0, .int .i64 0, .int .i64 0, .slice none 0 0] 28 (0, 0)); simpa using this)
        refine (hq0.out.acceptN H1.out).mono ?_
        rintro r w1 ⟨rfl, hc, hp⟩
        have hA1 := Lib.hid (hc.blk hA0.out (by simp; omega))
        have hE1 := Lib.hid (hc.blk hE0.out (by simp; omega))
        have hq1 := Lib.hid hp
        have hk1 := Lib.hid (hk0.out.then hc)
        clear hp hc hA0 hE0 hq0 hk0
        obtain ⟨p0, p1, p2, p3, p4, p5, p6, p7, pf⟩ := blk8 hA1.out
        obtain ⟨q0, q1, q2, q3, q4, q5, qf⟩ := blk6 hE1.out
        obtain ⟨o1, o2, o4, o5, o6, o7, o8, olt⟩ := opsAt HO.out hq1.out.hx
        have hlt0 := blk_lt hA1.out
        have hlt1 := blk_lt hE1.out
        go_wp2_with fail
        clear p0 p1 p2 p3 p4 p5 p6 p7 pf q0 q1 q2 q3 q4 q5 qf o1 o2 o4 o5 o6 o7 o8 olt hlt0 hlt1
        refine (hq1.out.acceptN H2.out).mono ?_
        rintro r w2 ⟨rfl, hc, hp⟩
        have hA2 := Lib.hid (hc.blk hA1.out (by simp; omega))
        have hE2 := Lib.hid (hc.blk hE1.out (by simp; omega))
        have hq2 := Lib.hid hp
        have hk2 := Lib.hid (hk1.out.then hc)
        clear hp hc hA1 hE1 hq1 hk1
        obtain ⟨p0, p1, p2, p3, p4, p5, p6, p7, pf⟩ := blk8 hA2.out
        obtain ⟨q0, q1, q2, q3, q4, q5, qf⟩ := blk6 hE2.out
        obtain ⟨o1, o2, o4, o5, o6, o7, o8, olt⟩ := opsAt HO.out hq2.out.hx
        have hlt0 := blk_lt hA2.out
        have hlt1 := blk_lt hE2.out
        go_wp2_with fail
        clear p0 p1 p2 p3 p4 p5 p6 p7 pf q0 q1 q2 q3 q4 q5 qf o1 o2 o4 o5 o6 o7 o8 olt hlt0 hlt1
        refine (isName_calls hq2.out).mono ?_
        rintro r w3 ⟨rfl, hx1⟩
        rw [H3.out]
        have hc := hx1.chg [bp]
        have hp := hq2.out.ext hx1
        clear hx1
        have hA3 := Lib.hid (hc.blk hA2.out (by simp; omega))
        have hE3 := Lib.hid (hc.blk hE2.out (by simp; omega))
        have hq3 := Lib.hid hp
        have hk3 := Lib.hid (hk2.out.then hc)
        clear hp hc hA2 hE2 hq2 hk2
        obtain ⟨p0, p1, p2, p3, p4, p5, p6, p7, pf⟩ := blk8 hA3.out
        obtain ⟨q0, q1, q2, q3, q4, q5, qf⟩ := blk6 hE3.out
        obtain ⟨o1, o2, o4, o5, o6, o7, o8, olt⟩ := opsAt HO.out hq3.out.hx
        have hlt0 := blk_lt hA3.out
        have hlt1 := blk_lt hE3.out
        go_wp2_with fail
        refine bodyPost_ret (v := .tuple #[(PartV.mk ⟨0, ⟨#[]⟩, none, 0, 0, 0, 0, none, 0, 0⟩ 0 0).val, .int .i64 5]) (by simp [results, Tryz.results39, go_sem, PartV.val, p0, p1, p2, p3, p4, p5, p6, p7]) rfl ⟨_, by rw [H.out], fun M hM => ?_, ?_, ?_⟩
        · rw [H.out]
          exact ⟨rfl, rfl, isEx0 _⟩
        · repeat (with_reducible (refine Chg.setCell ?_ ?_ _))
          exact hk3.out
          all_goals (refine Or.inr ?_; simp)
        · rw [H.out]
          refine hq3.out.chg (N := [w.heap.size, w.heap.size + 1]) ?_ (by simp; omega) (by simp; omega)
          repeat (with_reducible (refine Chg.setCell ?_ ?_ _))
          exact Chg.refl _ _
          all_goals (refine Or.inl ?_; simp)
      · have hlt := nameTok_lt h h3
        have htn := h.htn
        obtain ⟨T, b, off, hT, hTs, rfl, hbw0, -, -, -⟩ := h.tok hlt
        have HT := Lib.hid (show textAt toks k = T.text by rw [textAt, hT])
        have HTT := Lib.hid hT
        clear hT
        cases h4 : acceptB toks (k + 1) 1 wIn
        · cases h5 : acceptB toks (k + 1) 1 wFrom
          · have H := Lib.hid (show operandF toks k = (⟨.mk 3 T.text [] 0 0 [], 1, 1⟩, 0, k + 1) by rw [operandF, if_neg (by simp [h1]), if_neg (by simp [h2]), if_neg (by simp [h3]), if_neg (by simp [h4]), if_neg (by simp [h5]), HT.out])
            have H1 := Lib.hid h1
            have H2 := Lib.hid h2
            have H3 := Lib.hid h3
            have H4 := Lib.hid h4
            have H5 := Lib.hid h5
            generalize operandF toks k = R at *
            clear h h1 h2 h3 h4 h5
            go_enter Tryz.func39, Tryz.ntmps39
            go_wp2_with fail
            have hq0 := Lib.hid (HP.out.ext (HX2.out (.cells #[.int .i64 0, .string ⟨#[]⟩, .slice none 0 0, .int .i64 0, .int .i64 0, .slice none 0 0, .int .i64 0, .int .i64 0] 56 (0, 0)) (.cells #[.int .i64 0, .string ⟨#[]⟩, .slice none 0 0, .int .i64 0, .int .i64 0, .slice none 0 0] 28 (0, 0))))
            have hk0 := Lib.hid ((HX2.out (.cells #[.int .i64 0, .string ⟨#[]⟩, .slice none 0 0, .int .i64 0, .int .i64 0, .slice none 0 0, .int .i64 0, .int .i64 0] 56 (0, 0)) (.cells #[.int .i64 0, .string ⟨#[]⟩, .slice none 0 0, .int .i64 0, .int .i64 0, .slice none 0 0] 28 (0, 0))).chg [bp])
            have hA0 := Lib.hid (show ((w.alloc (.cells #[.int .i64 0, .string ⟨#[]⟩, .slice none 0 0, .int .i64 0, .int .i64 0, .slice none 0 0, .int .i64 0, .int .i64 0] 56 (0, 0))).alloc (.cells #[.int .i64 0, .string ⟨#[]⟩, .slice none 0 0, .int .i64 0, .int .i64 0, .slice none 0 0] 28 (0, 0))).heap[w.heap.size]? = some (.cells #[.int .i64 0, .string ⟨#[]⟩, .slice none 0 0, .int .i64 0, .int .i64 0, .slice none 0 0, .int .i64 0, .int .i64 0] 56 (0, 0)) from blk_alloc (alloc_new w _))
            have hE0 := Lib.hid (show ((w.alloc (.cells #[.int .i64 0, .string ⟨#[]⟩, .slice none 0 0, .int .i64 0, .int .i64 0, .slice none 0 0, .int .i64 0, .int .i64 0] 56 (0, 0))).alloc (.cells #[.int .i64 0, .string ⟨#[]⟩, .slice none 0 0, .int .i64 0, .int .i64 0, .slice none 0 0] 28 (0, 0))).heap[w.heap.size + 1]? = some (.cells #[.int .i64 0, .string ⟨#[]⟩, .slice none 0 0, .int .i64 0, .int .i64 0, .slice none 0 0] 28 (0, 0)) by have := alloc_new (w.alloc (.cells #[.int .i64 0, .string ⟨#[]⟩, .slice none 0 0, .int .i64 0, .int .i64 0, .slice none 0 0, .int .i64 0, .int .i64 0] 56 (0, 0))) (.cells #[.int .i64 0, .string ⟨#[]⟩, .slice none 0 0, .int .i64 0, .int .i64 0, .slice none 0 0] 28 (0, 0)); simpa using this)
            refine (hq0.out.acceptN H1.out).mono ?_
            rintro r w1 ⟨rfl, hc, hp⟩
            have hA1 := Lib.hid (hc.blk hA0.out (by simp; omega))
            have hE1 := Lib.hid (hc.blk hE0.out (by simp; omega))
            have hq1 := Lib.hid hp
            have hk1 := Lib.hid (hk0.out.then hc)
            clear hp hc hA0 hE0 hq0 hk0
            obtain ⟨p0, p1, p2, p3, p4, p5, p6, p7, pf⟩ := blk8 hA1.out
            obtain ⟨q0, q1, q2, q3, q4, q5, qf⟩ := blk6 hE1.out
            obtain ⟨o1, o2, o4, o5, o6, o7, o8, olt⟩ := opsAt HO.out hq1.out.hx
            have hlt0 := blk_lt hA1.out
            have hlt1 := blk_lt hE1.out
            go_wp2_with fail
            clear p0 p1 p2 p3 p4 p5 p6 p7 pf q0 q1 q2 q3 q4 q5 qf o1 o2 o4 o5 o6 o7 o8 olt hlt0 hlt1
            refine (hq1.out.acceptN H2.out).mono ?_
            rintro r w2 ⟨rfl, hc, hp⟩
            have hA2 := Lib.hid (hc.blk hA1.out (by simp; omega))
            have hE2 := Lib.hid (hc.blk hE1.out (by simp; omega))
            have hq2 := Lib.hid hp
            have hk2 := Lib.hid (hk1.out.then hc)
            clear hp hc hA1 hE1 hq1 hk1
            obtain ⟨p0, p1, p2, p3, p4, p5, p6, p7, pf⟩ := blk8 hA2.out
            obtain ⟨q0, q1, q2, q3, q4, q5, qf⟩ := blk6 hE2.out
            obtain ⟨o1, o2, o4, o5, o6, o7, o8, olt⟩ := opsAt HO.out hq2.out.hx
            have hlt0 := blk_lt hA2.out
            have hlt1 := blk_lt hE2.out
            go_wp2_with fail
            clear p0 p1 p2 p3 p4 p5 p6 p7 pf q0 q1 q2 q3 q4 q5 qf o1 o2 o4 o5 o6 o7 o8 olt hlt0 hlt1
            refine (isName_calls hq2.out).mono ?_
            rintro r w3 ⟨rfl, hx1⟩
            rw [H3.out]
            have hc := hx1.chg [bp]
            have hp := hq2.out.ext hx1
            clear hx1
            have hA3 := Lib.hid (hc.blk hA2.out (by simp; omega))
            have hE3 := Lib.hid (hc.blk hE2.out (by simp; omega))
            have hq3 := Lib.hid hp
            have hk3 := Lib.hid (hk2.out.then hc)
            clear hp hc hA2 hE2 hq2 hk2
            obtain ⟨p0, p1, p2, p3, p4, p5, p6, p7, pf⟩ := blk8 hA3.out
            obtain ⟨q0, q1, q2, q3, q4, q5, qf⟩ := blk6 hE3.out
            obtain ⟨o1, o2, o4, o5, o6, o7, o8, olt⟩ := opsAt HO.out hq3.out.hx
            have hlt0 := blk_lt hA3.out
            have hlt1 := blk_lt hE3.out
            obtain ⟨c0, c1, c2, cf, hb2⟩ := hq3.out.cells
            obtain ⟨T', b', off', hT', -, e0, -, g0, g1, g2⟩ := hq3.out.tok hlt
            obtain rfl : T = T' := Option.some.inj (HTT.out.symm.trans hT')
            simp only [Option.some.injEq, Addr.mk.injEq, and_true] at e0
            obtain ⟨rfl, rfl⟩ := e0
            clear hT'
            have ti : (k : Int) < (tn : Int) := by omega
            have ti0 : (0 : Int) ≤ (k : Int) := by omega
            go_wp2_with fail
            go_region
            go_wp2_with fail
            clear p0 p1 p2 p3 p4 p5 p6 p7 pf q0 q1 q2 q3 q4 q5 qf o1 o2 o4 o5 o6 o7 o8 olt hlt0 hlt1
            clear c0 c1 c2 cf hb2 g0 g1 g2 ti ti0
            have hq4 := Lib.hid (show PC toks (some ⟨b, off, none⟩) tn tc w0 (((w3.setCell ⟨w.heap.size + 1, 1, none⟩ (.string T.text)).setCell ⟨bp, 1, none⟩ (.int .i64 ((k : Int) + 1))).drew) bp (k + 1) vl from ((hq3.out.chg (N := [w.heap.size + 1]) ((Chg.refl _ _).setCell (Or.inl (by simp)) _) (by simp; omega) (by simp; omega)).next hlt).ext (Ext.drew (Ext.refl _)))
            have hk4 := Lib.hid (show Chg [bp] w (((w3.setCell ⟨w.heap.size + 1, 1, none⟩ (.string T.text)).setCell ⟨bp, 1, none⟩ (.int .i64 ((k : Int) + 1))).drew) from ((hk3.out.setCell (Or.inr (by simp)) _).setCell (Or.inl (by simp)) _).drew)
            have hA4 := Lib.hid (show (((w3.setCell ⟨w.heap.size + 1, 1, none⟩ (.string T.text)).setCell ⟨bp, 1, none⟩ (.int .i64 ((k : Int) + 1))).drew).heap[w.heap.size]? = some (.cells #[.int .i64 0, .string ⟨#[]⟩, .slice none 0 0, .int .i64 0, .int .i64 0, .slice none 0 0, .int .i64 0, .int .i64 0] 56 (0, 0)) from ((heap_setCell_other _ _ _ _ (by simp; omega)).trans (heap_setCell_other _ _ _ _ (by simp))).trans hA3.out)
            have hE4 := Lib.hid (show (((w3.setCell ⟨w.heap.size + 1, 1, none⟩ (.string T.text)).setCell ⟨bp, 1, none⟩ (.int .i64 ((k : Int) + 1))).drew).heap[w.heap.size + 1]? = some (.cells #[.int .i64 0, .string T.text, .slice none 0 0, .int .i64 0, .int .i64 0, .slice none 0 0] 28 (0, 0)) from (heap_setCell_other _ _ _ _ (by simp; omega)).trans (heap_setCell_same _ _ _ _ _ _ hE3.out))
            clear hA3 hE3 hq3 hk3
            generalize ((w3.setCell ⟨w.heap.size + 1, 1, none⟩ (.string T.text)).setCell ⟨bp, 1, none⟩ (.int .i64 ((k : Int) + 1))).drew = w4 at *
            refine (hq4.out.acceptN H4.out).mono ?_
            rintro r w5 ⟨rfl, hc, hp⟩
            have hA5 := Lib.hid (hc.blk hA4.out (by simp; omega))
            have hE5 := Lib.hid (hc.blk hE4.out (by simp; omega))
            have hq5 := Lib.hid hp
            have hk5 := Lib.hid (hk4.out.then hc)
            clear hp hc hA4 hE4 hq4 hk4
            obtain ⟨p0, p1, p2, p3, p4, p5, p6, p7, pf⟩ := blk8 hA5.out
            obtain ⟨q0, q1, q2, q3, q4, q5, qf⟩ := blk6 hE5.out
            obtain ⟨o1, o2, o4, o5, o6, o7, o8, olt⟩ := opsAt HO.out hq5.out.hx
            have hlt0 := blk_lt hA5.out
            have hlt1 := blk_lt hE5.out
            go_wp2_with fail
            clear p0 p1 p2 p3 p4 p5 p6 p7 pf q0 q1 q2 q3 q4 q5 qf o1 o2 o4 o5 o6 o7 o8 olt hlt0 hlt1
            refine (hq5.out.acceptN H5.out).mono ?_
            rintro r w6 ⟨rfl, hc, hp⟩
            have hA6 := Lib.hid (hc.blk hA5.out (by simp; omega))
            have hE6 := Lib.hid (hc.blk hE5.out (by simp; omega))
            have hq6 := Lib.hid hp
            have hk6 := Lib.hid (hk5.out.then hc)
            clear hp hc hA5 hE5 hq5 hk5
            obtain ⟨p0, p1, p2, p3, p4, p5, p6, p7, pf⟩ := blk8 hA6.out
            obtain ⟨q0, q1, q2, q3, q4, q5, qf⟩ := blk6 hE6.out
            obtain ⟨o1, o2, o4, o5, o6, o7, o8, olt⟩ := opsAt HO.out hq6.out.hx
            have hlt0 := blk_lt hA6.out
            have hlt1 := blk_lt hE6.out
            go_wp2_with fail
            refine bodyPost_ret (v := .tuple #[(PartV.mk ⟨3, T.text, none, 0, 0, 0, 0, none, 0, 0⟩ 1 1).val, .int .i64 0]) (by simp [results, Tryz.results39, go_sem, PartV.val, p0, p1, p2, p3, p4, p5, p6, p7]) rfl ⟨_, by rw [H.out], fun M hM => ?_, ?_, ?_⟩
            · rw [H.out]
              exact ⟨rfl, rfl, isEx_plain _ _ _ _ _⟩
            · repeat (with_reducible (refine Chg.setCell ?_ ?_ _))
              exact hk6.out
              all_goals (refine Or.inr ?_; simp)
            · rw [H.out]
              refine hq6.out.chg (N := [w.heap.size, w.heap.size + 1]) ?_ (by simp; omega) (by simp; omega)
              repeat (with_reducible (refine Chg.setCell ?_ ?_ _))
              exact Chg.refl _ _
              all_goals (refine Or.inl ?_; simp)
          · have H := Lib.hid (show operandF toks k = (⟨.mk 5 T.text [] (intervalF toks (k + 2)).1 (intervalF toks (k + 2)).2.1 [], 1, 1⟩, (intervalF toks (k + 2)).2.2.1, (intervalF toks (k + 2)).2.2.2) by rw [operandF, if_neg (by simp [h1]), if_neg (by simp [h2]), if_neg (by simp [h3]), if_neg (by simp [h4]), if_pos h5, HT.out])
            have H1 := Lib.hid h1
            have H2 := Lib.hid h2
            have H3 := Lib.hid h3
            have H4 := Lib.hid h4
            have H5 := Lib.hid h5
            generalize operandF toks k = R at *
            clear h h1 h2 h3 h4 h5
            go_enter Tryz.func39, Tryz.ntmps39
            go_wp2_with fail
            have hq0 := Lib.hid (HP.out.ext (HX2.out (.cells #[.int .i64 0, .string ⟨#[]⟩, .slice none 0 0, .int .i64 0, .int .i64 0, .slice none 0 0, .int .i64 0, .int .i64 0] 56 (0, 0)) (.cells #[.int .i64 0, .string ⟨#[]⟩, .slice none 0 0, .int .i64 0, .int .i64 0, .slice none 0 0] 28 (0, 0))))
            have hk0 := Lib.hid ((HX2.out (.cells #[.int .i64 0, .string ⟨#[]⟩, .slice none 0 0, .int .i64 0, .int .i64 0, .slice none 0 0, .int .i64 0, .int .i64 0] 56 (0, 0)) (.cells #[.int .i64 0, .string ⟨#[]⟩, .slice none 0 0, .int .i64 0, .int .i64 0, .slice none 0 0] 28 (0, 0))).chg [bp])
            have hA0 := Lib.hid (show ((w.alloc (.cells #[.int .i64 0, .string ⟨#[]⟩, .slice none 0 0, .int .i64 0, .int .i64 0, .slice none 0 0, .int .i64 0, .int .i64 0] 56 (0, 0))).alloc (.cells #[.int .i64 0, .string ⟨#[]⟩, .slice none 0 0, .int .i64 0, .int .i64 0, .slice none 0 0] 28 (0, 0))).heap[w.heap.size]? = some (.cells #[.int .i64 0, .string ⟨#[]⟩, .slice none 0 0, .int .i64 0, .int .i64 0, .slice none 0 0, .int .i64 0, .int .i64 0] 56 (0, 0)) from blk_alloc (alloc_new w _))
            have hE0 := Lib.hid (show ((w.alloc (.cells #[.int .i64 0, .string ⟨#[]⟩, .slice none 0 0, .int .i64 0, .int .i64 0, .slice none 0 0, .int .i64 0, .int .i64 0] 56 (0, 0))).alloc (.cells #[.int .i64 0, .string ⟨#[]⟩, .slice none 0 0, .int .i64 0, .int .i64 0, .slice none 0 0] 28 (0, 0))).heap[w.heap.size + 1]? = some (.cells #[.int .i64 0, .string ⟨#[]⟩, .slice none 0 0, .int .i64 0, .int .i64 0, .slice none 0 0] 28 (0, 0)) by have := alloc_new (w.alloc (.cells #[.int .i64 0, .string ⟨#[]⟩, .slice none 0 0, .int .i64 0, .int .i64 0, .slice none 0 0, .int .i64 0, .int .i64 0] 56 (0, 0))) (.cells #[.int .i64 0, .string ⟨#[]⟩, .slice none 0 0, .int .i64 0, .int .i64 0, .slice none 0 0] 28 (0, 0)); simpa using this)
            refine (hq0.out.acceptN H1.out).mono ?_
            rintro r w1 ⟨rfl, hc, hp⟩
            have hA1 := Lib.hid (hc.blk hA0.out (by simp; omega))
            have hE1 := Lib.hid (hc.blk hE0.out (by simp; omega))
            have hq1 := Lib.hid hp
            have hk1 := Lib.hid (hk0.out.then hc)
            clear hp hc hA0 hE0 hq0 hk0
            obtain ⟨p0, p1, p2, p3, p4, p5, p6, p7, pf⟩ := blk8 hA1.out
            obtain ⟨q0, q1, q2, q3, q4, q5, qf⟩ := blk6 hE1.out
            obtain ⟨o1, o2, o4, o5, o6, o7, o8, olt⟩ := opsAt HO.out hq1.out.hx
            have hlt0 := blk_lt hA1.out
            have hlt1 := blk_lt hE1.out
            go_wp2_with fail
            clear p0 p1 p2 p3 p4 p5 p6 p7 pf q0 q1 q2 q3 q4 q5 qf o1 o2 o4 o5 o6 o7 o8 olt hlt0 hlt1
            refine (hq1.out.acceptN H2.out).mono ?_
            rintro r w2 ⟨rfl, hc, hp⟩
            have hA2 := Lib.hid (hc.blk hA1.out (by simp; omega))
            have hE2 := Lib.hid (hc.blk hE1.out (by simp; omega))
            have hq2 := Lib.hid hp
            have hk2 := Lib.hid (hk1.out.then hc)
            clear hp hc hA1 hE1 hq1 hk1
            obtain ⟨p0, p1, p2, p3, p4, p5, p6, p7, pf⟩ := blk8 hA2.out
            obtain ⟨q0, q1, q2, q3, q4, q5, qf⟩ := blk6 hE2.out
            obtain ⟨o1, o2, o4, o5, o6, o7, o8, olt⟩ := opsAt HO.out hq2.out.hx
            have hlt0 := blk_lt hA2.out
            have hlt1 := blk_lt hE2.out
            go_wp2_with fail
            clear p0 p1 p2 p3 p4 p5 p6 p7 pf q0 q1 q2 q3 q4 q5 qf o1 o2 o4 o5 o6 o7 o8 olt hlt0 hlt1
            refine (isName_calls hq2.out).mono ?_
            rintro r w3 ⟨rfl, hx1⟩
            rw [H3.out]
            have hc := hx1.chg [bp]
            have hp := hq2.out.ext hx1
            clear hx1
            have hA3 := Lib.hid (hc.blk hA2.out (by simp; omega))
            have hE3 := Lib.hid (hc.blk hE2.out (by simp; omega))
            have hq3 := Lib.hid hp
            have hk3 := Lib.hid (hk2.out.then hc)
            clear hp hc hA2 hE2 hq2 hk2
            obtain ⟨p0, p1, p2, p3, p4, p5, p6, p7, pf⟩ := blk8 hA3.out
            obtain ⟨q0, q1, q2, q3, q4, q5, qf⟩ := blk6 hE3.out
            obtain ⟨o1, o2, o4, o5, o6, o7, o8, olt⟩ := opsAt HO.out hq3.out.hx
            have hlt0 := blk_lt hA3.out
            have hlt1 := blk_lt hE3.out
            obtain ⟨c0, c1, c2, cf, hb2⟩ := hq3.out.cells
            obtain ⟨T', b', off', hT', -, e0, -, g0, g1, g2⟩ := hq3.out.tok hlt
            obtain rfl : T = T' := Option.some.inj (HTT.out.symm.trans hT')
            simp only [Option.some.injEq, Addr.mk.injEq, and_true] at e0
            obtain ⟨rfl, rfl⟩ := e0
            clear hT'
            have ti : (k : Int) < (tn : Int) := by omega
            have ti0 : (0 : Int) ≤ (k : Int) := by omega
            go_wp2_with fail
            go_region
            go_wp2_with fail
            clear p0 p1 p2 p3 p4 p5 p6 p7 pf q0 q1 q2 q3 q4 q5 qf o1 o2 o4 o5 o6 o7 o8 olt hlt0 hlt1
            clear c0 c1 c2 cf hb2 g0 g1 g2 ti ti0
            have hq4 := Lib.hid (show PC toks (some ⟨b, off, none⟩) tn tc w0 (((w3.setCell ⟨w.heap.size + 1, 1, none⟩ (.string T.text)).setCell ⟨bp, 1, none⟩ (.int .i64 ((k : Int) + 1))).drew) bp (k + 1) vl from ((hq3.out.chg (N := [w.heap.size + 1]) ((Chg.refl _ _).setCell (Or.inl (by simp)) _) (by simp; omega) (by simp; omega)).next hlt).ext (Ext.drew (Ext.refl _)))
            have hk4 := Lib.hid (show Chg [bp] w (((w3.setCell ⟨w.heap.size + 1, 1, none⟩ (.string T.text)).setCell ⟨bp, 1, none⟩ (.int .i64 ((k : Int) + 1))).drew) from ((hk3.out.setCell (Or.inr (by simp)) _).setCell (Or.inl (by simp)) _).drew)
            have hA4 := Lib.hid (show (((w3.setCell ⟨w.heap.size + 1, 1, none⟩ (.string T.text)).setCell ⟨bp, 1, none⟩ (.int .i64 ((k : Int) + 1))).drew).heap[w.heap.size]? = some (.cells #[.int .i64 0, .string ⟨#[]⟩, .slice none 0 0, .int .i64 0, .int .i64 0, .slice none 0 0, .int .i64 0, .int .i64 0] 56 (0, 0)) from ((heap_setCell_other _ _ _ _ (by simp; omega)).trans (heap_setCell_other _ _ _ _ (by simp))).trans hA3.out)
            have hE4 := Lib.hid (show (((w3.setCell ⟨w.heap.size + 1, 1, none⟩ (.string T.text)).setCell ⟨bp, 1, none⟩ (.int .i64 ((k : Int) + 1))).drew).heap[w.heap.size + 1]? = some (.cells #[.int .i64 0, .string T.text, .slice none 0 0, .int .i64 0, .int .i64 0, .slice none 0 0] 28 (0, 0)) from (heap_setCell_other _ _ _ _ (by simp; omega)).trans (heap_setCell_same _ _ _ _ _ _ hE3.out))
            clear hA3 hE3 hq3 hk3
            generalize ((w3.setCell ⟨w.heap.size + 1, 1, none⟩ (.string T.text)).setCell ⟨bp, 1, none⟩ (.int .i64 ((k : Int) + 1))).drew = w4 at *
            refine (hq4.out.acceptN H4.out).mono ?_
            rintro r w5 ⟨rfl, hc, hp⟩
            have hA5 := Lib.hid (hc.blk hA4.out (by simp; omega))
            have hE5 := Lib.hid (hc.blk hE4.out (by simp; omega))
            have hq5 := Lib.hid hp
            have hk5 := Lib.hid (hk4.out.then hc)
            clear hp hc hA4 hE4 hq4 hk4
            obtain ⟨p0, p1, p2, p3, p4, p5, p6, p7, pf⟩ := blk8 hA5.out
            obtain ⟨q0, q1, q2, q3, q4, q5, qf⟩ := blk6 hE5.out
            obtain ⟨o1, o2, o4, o5, o6, o7, o8, olt⟩ := opsAt HO.out hq5.out.hx
            have hlt0 := blk_lt hA5.out
            have hlt1 := blk_lt hE5.out
            go_wp2_with fail
            clear p0 p1 p2 p3 p4 p5 p6 p7 pf q0 q1 q2 q3 q4 q5 qf o1 o2 o4 o5 o6 o7 o8 olt hlt0 hlt1
            refine (hq5.out.acceptY H5.out).mono ?_
            rintro r w6 ⟨rfl, hc, hp⟩
            have hA6 := Lib.hid (hc.blk hA5.out (by simp; omega))
            have hE6 := Lib.hid (hc.blk hE5.out (by simp; omega))
            have hq6 := Lib.hid hp
            have hk6 := Lib.hid (hk5.out.then hc)
            clear hp hc hA5 hE5 hq5 hk5
            obtain ⟨p0, p1, p2, p3, p4, p5, p6, p7, pf⟩ := blk8 hA6.out
            obtain ⟨q0, q1, q2, q3, q4, q5, qf⟩ := blk6 hE6.out
            obtain ⟨o1, o2, o4, o5, o6, o7, o8, olt⟩ := opsAt HO.out hq6.out.hx
            have hlt0 := blk_lt hA6.out
            have hlt1 := blk_lt hE6.out
            go_wp2_with fail
            clear p0 p1 p2 p3 p4 p5 p6 p7 pf q0 q1 q2 q3 q4 q5 qf o1 o2 o4 o5 o6 o7 o8 olt hlt0 hlt1
            have hq7 := Lib.hid (show PC toks (some ⟨b, off, none⟩) tn tc w0 (w6.setCell ⟨w.heap.size + 1, 0, none⟩ (.int .i64 5)) bp (k + 2) vl from hq6.out.chg (N := [w.heap.size + 1]) ((Chg.refl _ _).setCell (Or.inl (by simp)) _) (by simp; omega) (by simp; omega))
            have hk7 := Lib.hid (show Chg [bp] w (w6.setCell ⟨w.heap.size + 1, 0, none⟩ (.int .i64 5)) from hk6.out.setCell (Or.inr (by simp)) _)
            have hA7 := Lib.hid (show (w6.setCell ⟨w.heap.size + 1, 0, none⟩ (.int .i64 5)).heap[w.heap.size]? = some (.cells #[.int .i64 0, .string ⟨#[]⟩, .slice none 0 0, .int .i64 0, .int .i64 0, .slice none 0 0, .int .i64 0, .int .i64 0] 56 (0, 0)) from (heap_setCell_other _ _ _ _ (by simp)).trans hA6.out)
            have hE7 := Lib.hid (show (w6.setCell ⟨w.heap.size + 1, 0, none⟩ (.int .i64 5)).heap[w.heap.size + 1]? = some (.cells #[.int .i64 5, .string T.text, .slice none 0 0, .int .i64 0, .int .i64 0, .slice none 0 0] 28 (0, 0)) from heap_setCell_same _ _ _ _ _ _ hE6.out)
            clear hA6 hE6 hq6 hk6
            generalize w6.setCell ⟨w.heap.size + 1, 0, none⟩ (.int .i64 5) = w7 at *
            refine (interval_calls hq7.out).mono ?_
            rintro r w8 ⟨rfl, hc, hp⟩
            have hA8 := Lib.hid (hc.blk hA7.out (by simp; omega))
            have hE8 := Lib.hid (hc.blk hE7.out (by simp; omega))
            have hq8 := Lib.hid hp
            have hk8 := Lib.hid (hk7.out.then hc)
            clear hp hc hA7 hE7 hq7 hk7
            obtain ⟨p0, p1, p2, p3, p4, p5, p6, p7, pf⟩ := blk8 hA8.out
            obtain ⟨q0, q1, q2, q3, q4, q5, qf⟩ := blk6 hE8.out
            obtain ⟨o1, o2, o4, o5, o6, o7, o8, olt⟩ := opsAt HO.out hq8.out.hx
            have hlt0 := blk_lt hA8.out
            have hlt1 := blk_lt hE8.out
            go_wp2_with fail
            refine bodyPost_ret (v := .tuple #[(PartV.mk ⟨5, T.text, none, 0, 0, (intervalF toks (k + 2)).1, (intervalF toks (k + 2)).2.1, none, 0, 0⟩ 1 1).val, .int .i64 (intervalF toks (k + 2)).2.2.1]) (by simp [results, Tryz.results39, go_sem, PartV.val, p0, p1, p2, p3, p4, p5, p6, p7]) rfl ⟨_, by rw [H.out], fun M hM => ?_, ?_, ?_⟩
            · rw [H.out]
              exact ⟨rfl, rfl, isEx_plain _ _ _ _ _⟩
            · repeat (with_reducible (refine Chg.setCell ?_ ?_ _))
              exact hk8.out
              all_goals (refine Or.inr ?_; simp)
            · rw [H.out]
              refine hq8.out.chg (N := [w.heap.size, w.heap.size + 1]) ?_ (by simp; omega) (by simp; omega)
              repeat (with_reducible (refine Chg.setCell ?_ ?_ _))
              exact Chg.refl _ _
              all_goals (refine Or.inl ?_; simp)
        · have H := Lib.hid (show operandF toks k = (⟨.mk 4 T.text (listF toks (k + 2)).1 0 0 [], 1, 1⟩, (listF toks (k + 2)).2.1, (listF toks (k + 2)).2.2) by rw [operandF, if_neg (by simp [h1]), if_neg (by simp [h2]), if_neg (by simp [h3]), if_pos h4, HT.out])
          have H1 := Lib.hid h1
          have H2 := Lib.hid h2
          have H3 := Lib.hid h3
          have H4 := Lib.hid h4
          generalize operandF toks k = R at *
          clear h h1 h2 h3 h4
          go_enter Tryz.func39, Tryz.ntmps39
          go_wp2_with fail
          have hq0 := Lib.hid (HP.out.ext (HX2.out (.cells #[.int .i64 0, .string ⟨#[]⟩, .slice none 0 0, .int .i64 0, .int .i64 0, .slice none 0 0, .int .i64 0, .int .i64 0] 56 (0, 0)) (.cells #[.int .i64 0, .string ⟨#[]⟩, .slice none 0 0, .int .i64 0, .int .i64 0, .slice none 0 0] 28 (0, 0))))
          have hk0 := Lib.hid ((HX2.out (.cells #[.int .i64 0, .string ⟨#[]⟩, .slice none 0 0, .int .i64 0, .int .i64 0, .slice none 0 0, .int .i64 0, .int .i64 0] 56 (0, 0)) (.cells #[.int .i64 0, .string ⟨#[]⟩, .slice none 0 0, .int .i64 0, .int .i64 0, .slice none 0 0] 28 (0, 0))).chg [bp])
          have hA0 := Lib.hid (show ((w.alloc (.cells #[.int .i64 0, .string ⟨#[]⟩, .slice none 0 0, .int .i64 0, .int .i64 0, .slice none 0 0, .int .i64 0, .int .i64 0] 56 (0, 0))).alloc (.cells #[.int .i64 0, .string ⟨#[]⟩, .slice none 0 0, .int .i64 0, .int .i64 0, .slice none 0 0] 28 (0, 0))).heap[w.heap.size]? = some (.cells #[.int .i64 0, .string ⟨#[]⟩, .slice none 0 0, .int .i64 0, .int .i64 0, .slice none 0 0, .int .i64 0, .int .i64 0] 56 (0, 0)) from blk_alloc (alloc_new w _))
          have hE0 := Lib.hid (show ((w.alloc (.cells #[.int .i64 0, .string ⟨#[]⟩, .slice none 0 0, .int .i64 0, .int .i64 0, .slice none 0 0, .int .i64 0, .int .i64 0] 56 (0, 0))).alloc (.cells #[.int .i64 0, .string ⟨#[]⟩, .slice none 0 0, .int .i64 0, .int .i64 0, .slice none 0 0] 28 (0, 0))).heap[w.heap.size + 1]? = some (.cells #[.int .i64 0, .string ⟨#[]⟩, .slice none 0 0, .int .i64 0, .int .i64 0, .slice none 0 0] 28 (0, 0)) by have := alloc_new (w.alloc (.cells #[.int .i64 0, .string ⟨#[]⟩, .slice none 0 0, .int .i64 0, .int .i64 0, .slice none 0 0, .int .i64 0, .int .i64 0] 56 (0, 0))) (.cells #[.int .i64 0, .string ⟨#[]⟩, .slice none 0 0, .int .i64 0, .int .i64 0, .slice none 0 0] 28 (0, 0)); simpa using this)
          refine (hq0.out.acceptN H1.out).mono ?_
          rintro r w1 ⟨rfl, hc, hp⟩
          have hA1 := Lib.hid (hc.blk hA0.out (by simp; omega))
          have hE1 := Lib.hid (hc.blk hE0.out (by simp; omega))
          have hq1 := Lib.hid hp
          have hk1 := Lib.hid (hk0.out.then hc)
          clear hp hc hA0 hE0 hq0 hk0
          obtain ⟨p0, p1, p2, p3, p4, p5, p6, p7, pf⟩ := blk8 hA1.out
          obtain ⟨q0, q1, q2, q3, q4, q5, qf⟩ := blk6 hE1.out
          obtain ⟨o1, o2, o4, o5, o6, o7, o8, olt⟩ := opsAt HO.out hq1.out.hx
          have hlt0 := blk_lt hA1.out
          have hlt1 := blk_lt hE1.out
          go_wp2_with fail
          clear p0 p1 p2 p3 p4 p5 p6 p7 pf q0 q1 q2 q3 q4 q5 qf o1 o2 o4 o5 o6 o7 o8 olt hlt0 hlt1
          refine (hq1.out.acceptN H2.out).mono ?_
          rintro r w2 ⟨rfl, hc, hp⟩
          have hA2 := Lib.hid (hc.blk hA1.out (by simp; omega))
          have hE2 := Lib.hid (hc.blk hE1.out (by simp; omega))
          have hq2 := Lib.hid hp
          have hk2 := Lib.hid (hk1.out.then hc)
          clear hp hc hA1 hE1 hq1 hk1
          obtain ⟨p0, p1, p2, p3, p4, p5, p6, p7, pf⟩ := blk8 hA2.out
          obtain ⟨q0, q1, q2, q3, q4, q5, qf⟩ := blk6 hE2.out
          obtain ⟨o1, o2, o4, o5, o6, o7, o8, olt⟩ := opsAt HO.out hq2.out.hx
          have hlt0 := blk_lt hA2.out
          have hlt1 := blk_lt hE2.out
          go_wp2_with fail
          clear p0 p1 p2 p3 p4 p5 p6 p7 pf q0 q1 q2 q3 q4 q5 qf o1 o2 o4 o5 o6 o7 o8 olt hlt0 hlt1
          refine (isName_calls hq2.out).mono ?_
          rintro r w3 ⟨rfl, hx1⟩
          rw [H3.out]
          have hc := hx1.chg [bp]
          have hp := hq2.out.ext hx1
          clear hx1
          have hA3 := Lib.hid (hc.blk hA2.out (by simp; omega))
          have hE3 := Lib.hid (hc.blk hE2.out (by simp; omega))
          have hq3 := Lib.hid hp
          have hk3 := Lib.hid (hk2.out.then hc)
          clear hp hc hA2 hE2 hq2 hk2
          obtain ⟨p0, p1, p2, p3, p4, p5, p6, p7, pf⟩ := blk8 hA3.out
          obtain ⟨q0, q1, q2, q3, q4, q5, qf⟩ := blk6 hE3.out
          obtain ⟨o1, o2, o4, o5, o6, o7, o8, olt⟩ := opsAt HO.out hq3.out.hx
          have hlt0 := blk_lt hA3.out
          have hlt1 := blk_lt hE3.out
          obtain ⟨c0, c1, c2, cf, hb2⟩ := hq3.out.cells
          obtain ⟨T', b', off', hT', -, e0, -, g0, g1, g2⟩ := hq3.out.tok hlt
          obtain rfl : T = T' := Option.some.inj (HTT.out.symm.trans hT')
          simp only [Option.some.injEq, Addr.mk.injEq, and_true] at e0
          obtain ⟨rfl, rfl⟩ := e0
          clear hT'
          have ti : (k : Int) < (tn : Int) := by omega
          have ti0 : (0 : Int) ≤ (k : Int) := by omega
          go_wp2_with fail
          go_region
          go_wp2_with fail
          clear p0 p1 p2 p3 p4 p5 p6 p7 pf q0 q1 q2 q3 q4 q5 qf o1 o2 o4 o5 o6 o7 o8 olt hlt0 hlt1
          clear c0 c1 c2 cf hb2 g0 g1 g2 ti ti0
          have hq4 := Lib.hid (show PC toks (some ⟨b, off, none⟩) tn tc w0 (((w3.setCell ⟨w.heap.size + 1, 1, none⟩ (.string T.text)).setCell ⟨bp, 1, none⟩ (.int .i64 ((k : Int) + 1))).drew) bp (k + 1) vl from ((hq3.out.chg (N := [w.heap.size + 1]) ((Chg.refl _ _).setCell (Or.inl (by simp)) _) (by simp; omega) (by simp; omega)).next hlt).ext (Ext.drew (Ext.refl _)))
          have hk4 := Lib.hid (show Chg [bp] w (((w3.setCell ⟨w.heap.size + 1, 1, none⟩ (.string T.text)).setCell ⟨bp, 1, none⟩ (.int .i64 ((k : Int) + 1))).drew) from ((hk3.out.setCell (Or.inr (by simp)) _).setCell (Or.inl (by simp)) _).drew)
          have hA4 := Lib.hid (show (((w3.setCell ⟨w.heap.size + 1, 1, none⟩ (.string T.text)).setCell ⟨bp, 1, none⟩ (.int .i64 ((k : Int) + 1))).drew).heap[w.heap.size]? = some (.cells #[.int .i64 0, .string ⟨#[]⟩, .slice none 0 0, .int .i64 0, .int .i64 0, .slice none 0 0, .int .i64 0, .int .i64 0] 56 (0, 0)) from ((heap_setCell_other _ _ _ _ (by simp; omega)).trans (heap_setCell_other _ _ _ _ (by simp))).trans hA3.out)
          have hE4 := Lib.hid (show (((w3.setCell ⟨w.heap.size + 1, 1, none⟩ (.string T.text)).setCell ⟨bp, 1, none⟩ (.int .i64 ((k : Int) + 1))).drew).heap[w.heap.size + 1]? = some (.cells #[.int .i64 0, .string T.text, .slice none 0 0, .int .i64 0, .int .i64 0, .slice none 0 0] 28 (0, 0)) from (heap_setCell_other _ _ _ _ (by simp; omega)).trans (heap_setCell_same _ _ _ _ _ _ hE3.out))
          clear hA3 hE3 hq3 hk3
          generalize ((w3.setCell ⟨w.heap.size + 1, 1, none⟩ (.string T.text)).setCell ⟨bp, 1, none⟩ (.int .i64 ((k : Int) + 1))).drew = w4 at *
          refine (hq4.out.acceptY H4.out).mono ?_
          rintro r w5 ⟨rfl, hc, hp⟩
          have hA5 := Lib.hid (hc.blk hA4.out (by simp; omega))
          have hE5 := Lib.hid (hc.blk hE4.out (by simp; omega))
          have hq5 := Lib.hid hp
          have hk5 := Lib.hid (hk4.out.then hc)
          clear hp hc hA4 hE4 hq4 hk4
          obtain ⟨p0, p1, p2, p3, p4, p5, p6, p7, pf⟩ := blk8 hA5.out
          obtain ⟨q0, q1, q2, q3, q4, q5, qf⟩ := blk6 hE5.out
          obtain ⟨o1, o2, o4, o5, o6, o7, o8, olt⟩ := opsAt HO.out hq5.out.hx
          have hlt0 := blk_lt hA5.out
          have hlt1 := blk_lt hE5.out
          go_wp2_with fail
          clear p0 p1 p2 p3 p4 p5 p6 p7 pf q0 q1 q2 q3 q4 q5 qf o1 o2 o4 o5 o6 o7 o8 olt hlt0 hlt1
          have hq6 := Lib.hid (show PC toks (some ⟨b, off, none⟩) tn tc w0 (w5.setCell ⟨w.heap.size + 1, 0, none⟩ (.int .i64 4)) bp (k + 2) vl from hq5.out.chg (N := [w.heap.size + 1]) ((Chg.refl _ _).setCell (Or.inl (by simp)) _) (by simp; omega) (by simp; omega))
          have hk6 := Lib.hid (show Chg [bp] w (w5.setCell ⟨w.heap.size + 1, 0, none⟩ (.int .i64 4)) from hk5.out.setCell (Or.inr (by simp)) _)
          have hA6 := Lib.hid (show (w5.setCell ⟨w.heap.size + 1, 0, none⟩ (.int .i64 4)).heap[w.heap.size]? = some (.cells #[.int .i64 0, .string ⟨#[]⟩, .slice none 0 0, .int .i64 0, .int .i64 0, .slice none 0 0, .int .i64 0, .int .i64 0] 56 (0, 0)) from (heap_setCell_other _ _ _ _ (by simp)).trans hA5.out)
          have hE6 := Lib.hid (show (w5.setCell ⟨w.heap.size + 1, 0, none⟩ (.int .i64 4)).heap[w.heap.size + 1]? = some (.cells #[.int .i64 4, .string T.text, .slice none 0 0, .int .i64 0, .int .i64 0, .slice none 0 0] 28 (0, 0)) from heap_setCell_same _ _ _ _ _ _ hE5.out)
          clear hA5 hE5 hq5 hk5
          generalize w5.setCell ⟨w.heap.size + 1, 0, none⟩ (.int .i64 4) = w6 at *
          refine (list_calls hq6.out).mono ?_
          rintro r w7 ⟨la, ln, lc, rfl, hls, hc, hp⟩
          have hl0 := blk_lt hA6.out
          have hl1 := blk_lt hE6.out
          have HLS := Lib.hid hls
          have hzz := hk6.out.size
          clear hls
          have hA7 := Lib.hid (hc.blk hA6.out (by simp; omega))
          have hE7 := Lib.hid (hc.blk hE6.out (by simp; omega))
          have hq7 := Lib.hid hp
          have hk7 := Lib.hid (hk6.out.then hc)
          clear hp hc hA6 hE6 hq6 hk6
          obtain ⟨p0, p1, p2, p3, p4, p5, p6, p7, pf⟩ := blk8 hA7.out
          obtain ⟨q0, q1, q2, q3, q4, q5, qf⟩ := blk6 hE7.out
          obtain ⟨o1, o2, o4, o5, o6, o7, o8, olt⟩ := opsAt HO.out hq7.out.hx
          have hlt0 := blk_lt hA7.out
          have hlt1 := blk_lt hE7.out
          go_wp2_with fail
          refine bodyPost_ret (v := .tuple #[(PartV.mk ⟨4, T.text, la, ln, lc, 0, 0, none, 0, 0⟩ 1 1).val, .int .i64 (listF toks (k + 2)).2.1]) (by simp [results, Tryz.results39, go_sem, PartV.val, p0, p1, p2, p3, p4, p5, p6, p7]) rfl ⟨_, by rw [H.out], fun M hM => ?_, ?_, ?_⟩
          · rw [H.out]
            refine ⟨rfl, rfl, isEx_words ((HLS.out (w.heap.size :: (w.heap.size + 1) :: M) (by
              intro x hx
              simp only [List.mem_cons] at hx
              rcases hx with rfl | rfl | hx
              · exact hl0
              · exact hl1
              · have := hM x hx; omega)).mono (mask_sub2 M ?_)) _ _ _ _⟩
            repeat (with_reducible (refine Chg.setCell ?_ ?_ _))
            exact Chg.refl _ _
            all_goals (refine Or.inl ?_; simp)
          · repeat (with_reducible (refine Chg.setCell ?_ ?_ _))
            exact hk7.out
            all_goals (refine Or.inr ?_; simp)
          · rw [H.out]
            refine hq7.out.chg (N := [w.heap.size, w.heap.size + 1]) ?_ (by simp; omega) (by simp; omega)
            repeat (with_reducible (refine Chg.setCell ?_ ?_ _))
            exact Chg.refl _ _
            all_goals (refine Or.inl ?_; simp)
    · have H := Lib.hid (show operandF toks k = (⟨.mk 2 ⟨#[]⟩ [] 0 0 [], 1, 1⟩, 0, k + 1) by rw [operandF, if_neg (by simp [h1]), if_pos h2])
      have H1 := Lib.hid h1
      have H2 := Lib.hid h2
      generalize operandF toks k = R at *
      clear h h1 h2
      go_enter Tryz.func39, Tryz.ntmps39
      go_wp2_with fail
      have hq0 := Lib.hid (HP.out.ext (HX2.out (.cells #[.int .i64 0, .string ⟨#[]⟩, .slice none 0 0, .int .i64 0, .int .i64 0, .slice none 0 0, .int .i64 0, .int .i64 0] 56 (0, 0)) (.cells #[.int .i64 0, .string ⟨#[]⟩, .slice none 0 0, .int .i64 0, .int .i64 0, .slice none 0 0] 28 (0, 0))))
      have hk0 := Lib.hid ((HX2.out (.cells #[.int .i64 0, .string ⟨#[]⟩, .slice none 0 0, .int .i64 0, .int .i64 0, .slice none 0 0, .int .i64 0, .int .i64 0] 56 (0, 0)) (.cells #[.int .i64 0, .string ⟨#[]⟩, .slice none 0 0, .int .i64 0, .int .i64 0, .slice none 0 0] 28 (0, 0))).chg [bp])
      have hA0 := Lib.hid (show ((w.alloc (.cells #[.int .i64 0, .string ⟨#[]⟩, .slice none 0 0, .int .i64 0, .int .i64 0, .slice none 0 0, .int .i64 0, .int .i64 0] 56 (0, 0))).alloc (.cells #[.int .i64 0, .string ⟨#[]⟩, .slice none 0 0, .int .i64 0, .int .i64 0, .slice none 0 0] 28 (0, 0))).heap[w.heap.size]? = some (.cells #[.int .i64 0, .string ⟨#[]⟩, .slice none 0 0, .int .i64 0, .int .i64 0, .slice none 0 0, .int .i64 0, .int .i64 0] 56 (0, 0)) from blk_alloc (alloc_new w _))
      have hE0 := Lib.hid (show ((w.alloc (.cells #[.int .i64 0, .string ⟨#[]⟩, .slice none 0 0, .int .i64 0, .int .i64 0, .slice none 0 0, .int .i64 0, .int .i64 0] 56 (0, 0))).alloc (.cells #[.int .i64 0, .string ⟨#[]⟩, .slice none 0 0, .int .i64 0, .int .i64 0, .slice none 0 0] 28 (0, 0))).heap[w.heap.size + 1]? = some (.cells #[.int .i64 0, .string ⟨#[]⟩, .slice none 0 0, .int .i64 0, .int .i64 0, .slice none 0 0] 28 (0, 0)) by have := alloc_new (w.alloc (.cells #[.int .i64 0, .string ⟨#[]⟩, .slice none 0 0, .int .i64 0, .int .i64 0, .slice none 0 0, .int .i64 0, .int .i64 0] 56 (0, 0))) (.cells #[.int .i64 0, .string ⟨#[]⟩, .slice none 0 0, .int .i64 0, .int .i64 0, .slice none 0 0] 28 (0, 0)); simpa using this)
      refine (hq0.out.acceptN H1.out).mono ?_
      rintro r w1 ⟨rfl, hc, hp⟩
      have hA1 := Lib.hid (hc.blk hA0.out (by simp; omega))
      have hE1 := Lib.hid (hc.blk hE0.out (by simp; omega))
      have hq1 := Lib.hid hp
      have hk1 := Lib.hid (hk0.out.then hc)
      clear hp hc hA0 hE0 hq0 hk0
      obtain ⟨p0, p1, p2, p3, p4, p5, p6, p7, pf⟩ := blk8 hA1.out
      obtain ⟨q0, q1, q2, q3, q4, q5, qf⟩ := blk6 hE1.out
      obtain ⟨o1, o2, o4, o5, o6, o7, o8, olt⟩ := opsAt HO.out hq1.out.hx
      have hlt0 := blk_lt hA1.out
      have hlt1 := blk_lt hE1.out
      go_wp2_with fail
      clear p0 p1 p2 p3 p4 p5 p6 p7 pf q0 q1 q2 q3 q4 q5 qf o1 o2 o4 o5 o6 o7 o8 olt hlt0 hlt1
      refine (hq1.out.acceptY H2.out).mono ?_
      rintro r w2 ⟨rfl, hc, hp⟩
      have hA2 := Lib.hid (hc.blk hA1.out (by simp; omega))
      have hE2 := Lib.hid (hc.blk hE1.out (by simp; omega))
      have hq2 := Lib.hid hp
      have hk2 := Lib.hid (hk1.out.then hc)
      clear hp hc hA1 hE1 hq1 hk1
      obtain ⟨p0, p1, p2, p3, p4, p5, p6, p7, pf⟩ := blk8 hA2.out
      obtain ⟨q0, q1, q2, q3, q4, q5, qf⟩ := blk6 hE2.out
      obtain ⟨o1, o2, o4, o5, o6, o7, o8, olt⟩ := opsAt HO.out hq2.out.hx
      have hlt0 := blk_lt hA2.out
      have hlt1 := blk_lt hE2.out
      go_wp2_with fail
      refine bodyPost_ret (v := .tuple #[(PartV.mk ⟨2, ⟨#[]⟩, none, 0, 0, 0, 0, none, 0, 0⟩ 1 1).val, .int .i64 0]) (by simp [results, Tryz.results39, go_sem, PartV.val, p0, p1, p2, p3, p4, p5, p6, p7]) rfl ⟨_, by rw [H.out], fun M hM => ?_, ?_, ?_⟩
      · rw [H.out]
        exact ⟨rfl, rfl, isEx_plain _ _ _ _ _⟩
      · repeat (with_reducible (refine Chg.setCell ?_ ?_ _))
        exact hk2.out
        all_goals (refine Or.inr ?_; simp)
      · rw [H.out]
        refine hq2.out.chg (N := [w.heap.size, w.heap.size + 1]) ?_ (by simp; omega) (by simp; omega)
        repeat (with_reducible (refine Chg.setCell ?_ ?_ _))
        exact Chg.refl _ _
        all_goals (refine Or.inl ?_; simp)
  · have H := Lib.hid (show operandF toks k = (⟨.mk 1 ⟨#[]⟩ [] 0 0 [], 1, 1⟩, 0, k + 1) by rw [operandF, if_pos h1])
    have H1 := Lib.hid h1
    generalize operandF toks k = R at *
    clear h h1
    go_enter Tryz.func39, Tryz.ntmps39
    go_wp2_with fail
    have hq0 := Lib.hid (HP.out.ext (HX2.out (.cells #[.int .i64 0, .string ⟨#[]⟩, .slice none 0 0, .int .i64 0, .int .i64 0, .slice none 0 0, .int .i64 0, .int .i64 0] 56 (0, 0)) (.cells #[.int .i64 0, .string ⟨#[]⟩, .slice none 0 0, .int .i64 0, .int .i64 0, .slice none 0 0] 28 (0, 0))))
    have hk0 := Lib.hid ((HX2.out (.cells #[.int .i64 0, .string ⟨#[]⟩, .slice none 0 0, .int .i64 0, .int .i64 0, .slice none 0 0, .int .i64 0, .int .i64 0] 56 (0, 0)) (.cells #[.int .i64 0, .string ⟨#[]⟩, .slice none 0 0, .int .i64 0, .int .i64 0, .slice none 0 0] 28 (0, 0))).chg [bp])
    have hA0 := Lib.hid (show ((w.alloc (.cells #[.int .i64 0, .string ⟨#[]⟩, .slice none 0 0, .int .i64 0, .int .i64 0, .slice none 0 0, .int .i64 0, .int .i64 0] 56 (0, 0))).alloc (.cells #[.int .i64 0, .string ⟨#[]⟩, .slice none 0 0, .int .i64 0, .int .i64 0, .slice none 0 0] 28 (0, 0))).heap[w.heap.size]? = some (.cells #[.int .i64 0, .string ⟨#[]⟩, .slice none 0 0, .int .i64 0, .int .i64 0, .slice none 0 0, .int .i64 0, .int .i64 0] 56 (0, 0)) from blk_alloc (alloc_new w _))
    have hE0 := Lib.hid (show ((w.alloc (.cells #[.int .i64 0, .string ⟨#[]⟩, .slice none 0 0, .int .i64 0, .int .i64 0, .slice none 0 0, .int .i64 0, .int .i64 0] 56 (0, 0))).alloc (.cells #[.int .i64 0, .string ⟨#[]⟩, .slice none 0 0, .int .i64 0, .int .i64 0, .slice none 0 0] 28 (0, 0))).heap[w.heap.size + 1]? = some (.cells #[.int .i64 0, .string ⟨#[]⟩, .slice none 0 0, .int .i64 0, .int .i64 0, .slice none 0 0] 28 (0, 0)) by have := alloc_new (w.alloc (.cells #[.int .i64 0, .string ⟨#[]⟩, .slice none 0 0, .int .i64 0, .int .i64 0, .slice none 0 0, .int .i64 0, .int .i64 0] 56 (0, 0))) (.cells #[.int .i64 0, .string ⟨#[]⟩, .slice none 0 0, .int .i64 0, .int .i64 0, .slice none 0 0] 28 (0, 0)); simpa using this)
    refine (hq0.out.acceptY H1.out).mono ?_
    rintro r w1 ⟨rfl, hc, hp⟩
    have hA1 := Lib.hid (hc.blk hA0.out (by simp; omega))
    have hE1 := Lib.hid (hc.blk hE0.out (by simp; omega))
    have hq1 := Lib.hid hp
    have hk1 := Lib.hid (hk0.out.then hc)
    clear hp hc hA0 hE0 hq0 hk0
    obtain ⟨p0, p1, p2, p3, p4, p5, p6, p7, pf⟩ := blk8 hA1.out
    obtain ⟨q0, q1, q2, q3, q4, q5, qf⟩ := blk6 hE1.out
    obtain ⟨o1, o2, o4, o5, o6, o7, o8, olt⟩ := opsAt HO.out hq1.out.hx
    have hlt0 := blk_lt hA1.out
    have hlt1 := blk_lt hE1.out
    go_wp2_with fail
    refine bodyPost_ret (v := .tuple #[(PartV.mk ⟨1, ⟨#[]⟩, none, 0, 0, 0, 0, none, 0, 0⟩ 1 1).val, .int .i64 0]) (by simp [results, Tryz.results39, go_sem, PartV.val, p0, p1, p2, p3, p4, p5, p6, p7]) rfl ⟨_, by rw [H.out], fun M hM => ?_, ?_, ?_⟩
    · rw [H.out]
      exact ⟨rfl, rfl, isEx_plain _ _ _ _ _⟩
    · repeat (with_reducible (refine Chg.setCell ?_ ?_ _))
      exact hk1.out
      all_goals (refine Or.inr ?_; simp)
    · rw [H.out]
      refine hq1.out.chg (N := [w.heap.size, w.heap.size + 1]) ?_ (by simp; omega) (by simp; omega)
      repeat (with_reducible (refine Chg.setCell ?_ ?_ _))
      exact Chg.refl _ _
      all_goals (refine Or.inl ?_; simp)
end Go.Proofs.YtaepiiediblleaaGreatDoor

namespace Go.Proofs.YtaepiiediblleaaGreatDoor
open Go.RowKit

theorem blk2 {w : World} {b : Nat} {v0 v1 : Value} {t : TypeId} (h : w.heap[b]? = some (.cells #[v0, v1] t (0, 0))) :
    w.cell? ⟨b, 0, none⟩ = some v0 ∧ w.cell? ⟨b, 1, none⟩ = some v1 ∧ (∀ j, w.frozen? ⟨b, j, none⟩ = false) :=
  ⟨blk_cell h 0, blk_cell h 1, fun j => blk_free h j⟩

/-- Numbers in memory. -/
def IntsAt (w : World) (a : Option Addr) (n : Nat) : Prop := ∀ i, i < n → ∃ b off z, a = some ⟨b, off, none⟩ ∧ w.cell? ⟨b, off + i, none⟩ = some (.int .i64 z)
/-- A deck in memory, over numbers that lie in w0. -/
def DeckAt (w0 w : World) (bd : Nat) : Prop := ∃ (la : Option Addr) (ln lc k : Nat), w.heap[bd]? = some (.cells #[.slice la ln lc, .int .i64 k] 78 (0, 0)) ∧ k ≤ ln ∧ ln ≤ 1000000000000000 ∧ IntsAt w0 la ln ∧ Ext w0 w ∧ w0.heap.size ≤ bd

theorem DeckAt.chg {w0 w w' : World} {bd : Nat} {N : List Nat} (h : DeckAt w0 w bd) (hc : Chg N w w') (hn : bd ∉ N) (h0 : ∀ x ∈ N, w0.heap.size ≤ x) : DeckAt w0 w' bd := by
  obtain ⟨la, ln, lc, k, hb, hk, hln, hL, hx, hbd⟩ := h
  exact ⟨la, ln, lc, k, hc.blk hb hn, hk, hln, hL, hc.ext hx h0, hbd⟩
theorem DeckAt.ext {w0 w w' : World} {bd : Nat} (h : DeckAt w0 w bd) (hx : Ext w w') : DeckAt w0 w' bd := h.chg (hx.chg []) (by simp) (by simp)

/-- A number is handed back; of what was there only the deck has changed. -/
def NextQ (lo hi : Int) (w0 : World) (bd : Nat) (w : World) (e : Ending) (w' : World) : Prop := ∃ r : Int, e = .returned (.int .i64 r) ∧ lo ≤ r ∧ r < hi ∧ DeckAt w0 w' bd ∧ Chg [bd] w w'

set_option maxRecDepth 100000 in
theorem next_calls {w0 w : World} {bd : Nat} (h : DeckAt w0 w bd) (n : Int) (hn : 0 < n) (hn2 : n ≤ 1000000000000000000) :
    Calls Tryz.prog 29 #[.pointer (some ⟨bd, 0, none⟩), .int .i64 n] w (NextQ 0 n w0 bd w) := by
  have HD := Lib.hid h
  obtain ⟨la, ln, lc, k, hb, hk, hln, hL, hx, hbd⟩ := h
  have HB := Lib.hid hb
  have hbw := blk_lt hb
  obtain ⟨c0, c1, cf⟩ := blk2 hb
  clear hb
  by_cases hlt : k < ln
  · obtain ⟨b, off, z, rfl, hz⟩ := hL k hlt
    have hz' := hx.cell hz
    have hzb : b ≠ bd := by have := block_lt hz; simp at this; omega
    have HL := Lib.hid hL
    have HX := Lib.hid hx
    have t1 : decide (ln ≤ k) = false := by simp; omega
    have t2 : ((k : Int) + 1 - 1) = k := by omega
    have t3 : (0 : Int) ≤ (k : Int) := by omega
    have t4 : (k : Int) < (ln : Int) := by omega
    clear hL hx hz HD
    go_enter Tryz.func29, Tryz.ntmps29
    go_wp2_with fail
    go_quiet (fail)
    go_wp2_with fail
    go_quiet (fail)
    go_wp2_with fail
    go_ret
    have hr : wrap64 (z.tmod n + n) = z.tmod n + n := by
      have a1 := Int.tmod_lt_of_pos z hn
      have a2 := Int.lt_tmod_of_pos z hn
      exact IntWalk.wrap64_in (z.tmod n + n) (by omega)
    rw [hr]
    have a1 := Int.tmod_lt_of_pos z hn
    have a2 := Int.tmod_lt_of_pos (z.tmod n + n) hn
    have a3 : 0 ≤ z.tmod n + n := by
      have := Int.lt_tmod_of_pos z hn
      omega
    have a4 := Int.tmod_nonneg n a3
    refine ⟨_, rfl, a4, a2, ⟨_, ln, lc, k + 1, ?_, by omega, hln, HL.out, ?_, hbd⟩, ?_⟩
    · have := heap_setCell_same (w.drewN 0) bd 1 _ _ (.int .i64 ((k : Int) + 1)) HB.out
      exact this
    · exact ((HX.out.drewN _).setAbove (by simpa using hbd) _).drewN _
    · exact (((Chg.refl [bd] w).drewN _).setCell (Or.inl (by simp)) _).drewN _
  · have t1 : decide (ln ≤ k) = true := by simp; omega
    go_enter Tryz.func29, Tryz.ntmps29
    go_wp2_with fail
    go_quiet (fail)
    go_wp2_with fail
    go_ret
    exact ⟨0, rfl, by omega, hn, HD.out.ext ((Ext.refl w).drewN _), (Chg.refl _ w).drewN _⟩

theorem range_calls {w0 w : World} {bd : Nat} (h : DeckAt w0 w bd) (lo hi : Int) (h1 : lo ≤ hi) (h2 : -100000000000000000 ≤ lo) (h3 : hi ≤ 100000000000000000) :
    Calls Tryz.prog 36 #[.pointer (some ⟨bd, 0, none⟩), .int .i64 lo, .int .i64 hi] w (NextQ lo (hi + 1) w0 bd w) := by
  go_enter Tryz.func36, Tryz.ntmps36
  go_wp2_with fail
  refine (next_calls h _ (by omega) (by omega)).mono ?_
  rintro e w1 ⟨r, rfl, hr0, hr1, hd, hc⟩
  go_wp2_with fail
  go_ret
  exact ⟨lo + r, rfl, by omega, by omega, hd, hc⟩

/-- A new deck. -/
def NewQ (w : World) (e : Ending) (w' : World) : Prop := ∃ bd, e = .returned (.pointer (some ⟨bd, 0, none⟩)) ∧ DeckAt w w' bd ∧ Ext w w' ∧ w.heap.size ≤ bd
theorem new_calls (la : Option Addr) (ln lc : Nat) (w : World) (h : IntsAt w la ln) (hl : ln ≤ 1000000000000000) : Calls Tryz.prog 17 #[.slice la ln lc] w (NewQ w) := by
  go_enter Tryz.func17, Tryz.ntmps17
  go_wp2_with fail
  go_ret
  exact ⟨w.heap.size, rfl, ⟨la, ln, lc, 0, alloc_new w _, by omega, hl, h, (Ext.refl w).alloc _, Nat.le_refl _⟩, (Ext.refl w).alloc _, Nat.le_refl _⟩
end Go.Proofs.YtaepiiediblleaaGreatDoor
