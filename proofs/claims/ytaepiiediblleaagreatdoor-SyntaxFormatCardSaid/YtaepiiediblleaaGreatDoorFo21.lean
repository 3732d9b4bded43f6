/-
  Texts of the claim, joined: App1, App2, App3, Schema.
-/
import Derived.Test.YtaepiiediblleaaGreatDoorFo20
import Derived.Test.YtaepiiediblleaaGreatDoorFo14
import Derived.Deep.DeepCutAuto
import Derived.Deep.LoopGhost
import Derived.Test.YtaepiiediblleaaGreatDoorFo05
namespace Go.Proofs.YtaepiiediblleaaGreatDoor
open Go.RowKit

theorem blk5a {w : World} {b : Nat} {v0 v1 v2 v3 v4 : Value} {t : TypeId} (h : w.heap[b]? = some (.cells #[v0, v1, v2, v3, v4] t (0, 0))) :
    w.cell? ⟨b, 0, none⟩ = some v0 ∧ w.cell? ⟨b, 1, none⟩ = some v1 ∧ w.cell? ⟨b, 2, none⟩ = some v2 ∧ w.cell? ⟨b, 3, none⟩ = some v3 ∧ w.cell? ⟨b, 4, none⟩ = some v4 ∧ (∀ j, w.frozen? ⟨b, j, none⟩ = false) :=
  ⟨blk_cell h 0, blk_cell h 1, blk_cell h 2, blk_cell h 3, blk_cell h 4, fun j => blk_free h j⟩
theorem sname_calls (s : ByteArray) (w : World) : Calls Tryz.prog 68 #[.string s] w (GivesE (tokV (nameT s)) w) := by
  go_enter Tryz.func68, Tryz.ntmps68
  go_wp2_with fail
  exact bodyPost_ret (v := tokV (nameT s)) (by simp [results, Tryz.results68, go_sem, tokV, nameT]) rfl ⟨rfl, (Ext.refl w).alloc _⟩
theorem smark_calls (c : UInt8) (w : World) : Calls Tryz.prog 69 #[.string ⟨#[c]⟩] w (GivesE (tokV (markT c)) w) := by
  go_enter Tryz.func69, Tryz.ntmps69
  go_wp2_with fail
  exact bodyPost_ret (v := tokV (markT c)) (by simp [results, Tryz.results69, go_sem, tokV, markT]) rfl ⟨rfl, (Ext.refl w).alloc _⟩
theorem snumeral_calls (n : Int) (w : World) : Calls Tryz.prog 70 #[.int .i64 n] w (GivesE (tokV (numT n)) w) := by
  go_enter Tryz.func70, Tryz.ntmps70
  go_wp2_with fail
  exact bodyPost_ret (v := tokV (numT n)) (by simp [results, Tryz.results70, go_sem, tokV, numT]) rfl ⟨rfl, (Ext.refl w).alloc _⟩

set_option maxRecDepth 100000 in
set_option maxHeartbeats 4000000 in
theorem app_true {w0 : World} (h0 : HasOps w0) (e : Ex) (l : List Tok) (v : Value) (base : Nat) (w : World) (ev : Value) (hx0 : Ext w0 w) (_ : w0.heap.size ≤ base) (he : IsEx (mask w (rowOf v)) e ev) (ho : OwnT w base l v) (hb : base ≤ w.heap.size) (hl : l.length + (tokE e).length ≤ 10000) (hop : e.op = 1) :
    Calls Tryz.prog 35 #[v, ev] w (TokQ base (l ++ tokE e) v w) := by
  obtain ⟨aw, nw, cw, aa, na, ca, rfl, hw, hna, hca, ha, hx⟩ := he.parts
  clear he hca ha
  obtain ⟨op, name, words, lo, hi, args⟩ := e
  simp only [Ex.op, Ex.name, Ex.words, Ex.lo, Ex.hi, Ex.args] at *
  obtain ⟨k, rfl⟩ : ∃ k : Nat, op = (k : Int) := ⟨op.toNat, by omega⟩
  have hk : k = 1 := by omega
  obtain ⟨o0, o1, o2, o3, o4⟩ := (h0.ext hx0) k (by omega)
  have hbk := block_lt o0
  simp only at hbk
  have hk9 : k < 9 := by omega
  have HWD := Lib.hid (show opWord k = wTrue by rw [hk]; rfl)
  generalize opLeast k = ol, opMost k = om, opNamed k = on, opWord k = ow, opBinds k = ob at *
  have HX := Lib.hid (((Ext.refl w).alloc (.cells #[.int .i64 k, .string name, .slice aw nw cw, .int .i64 lo, .int .i64 hi, .slice aa na ca] 28)).alloc (.cells #[.string ow, .bool on, .int .i64 ol, .int .i64 om, .int .i64 ob] 114))
  have HO := Lib.hid (ho.ext HX.out)
  have HBX := Lib.hid (blk_alloc (o' := .cells #[.string ow, .bool on, .int .i64 ol, .int .i64 om, .int .i64 ob] 114) (alloc_new w (.cells #[.int .i64 k, .string name, .slice aw nw cw, .int .i64 lo, .int .i64 hi, .slice aa na ca] 28)))
  have HBO := Lib.hid (alloc_at (w := w.alloc (.cells #[.int .i64 k, .string name, .slice aw nw cw, .int .i64 lo, .int .i64 hi, .slice aa na ca] 28)) (o := .cells #[.string ow, .bool on, .int .i64 ol, .int .i64 om, .int .i64 ob] 114) (n := w.heap.size + 1) (by simp))
  have HNR := Lib.hid (show w.heap.size ∉ rowOf v from fun h => by have := (ho.lt h).2; omega)
  have HNO := Lib.hid (show w.heap.size + 1 ∉ rowOf v from fun h => by have := (ho.lt h).2; omega)
  have HE := Lib.hid (show tokE (.mk k name words lo hi args) = [nameT ow] by rw [HWD.out, hk]; simp [tokE])
  have hl1 : l.length ≤ 10000 := by omega
  have t1 : ((k : Int) == 1) = true := by simp [hk]
  clear hw hna hx ho hl hop hk h0 hx0
  unfold exV
  go_enter Tryz.func35, Tryz.ntmps35
  go_upto_region 5 with fail
  generalize (w.alloc (.cells #[.int .i64 k, .string name, .slice aw nw cw, .int .i64 lo, .int .i64 hi, .slice aa na ca] 28)).alloc (.cells #[.string ow, .bool on, .int .i64 ol, .int .i64 om, .int .i64 ob] 114) = wb at *
  have hz0 := HX.out.size
  obtain ⟨x0, x1, x2, x3, x4, x5, xf⟩ := blk6 HBX.out
  obtain ⟨p0, p1, p2, p3, p4, pf⟩ := blk5a HBO.out
  have hlx := blk_lt HBX.out
  have hlo := blk_lt HBO.out
  clear o0 o1 o2 o3 o4 hbk
  go_wp2_with fail
  refine (sname_calls _ _).mono ?_
  rintro r w1 ⟨rfl, hx1⟩
  have HX1 := Lib.hid hx1
  have HO1 := Lib.hid (HO.out.ext hx1)
  have hz1 := hx1.size
  clear hx1 x0 x1 x2 x3 x4 x5 xf p0 p1 p2 p3 p4 pf
  simp only [tokV, nameT]
  go_wp2_with (at_builtin; refine wpList_append_tok rfl _ _ rfl base _ _ [nameT ow] rfl HO1.out _ 1 1 rfl ?c0 ?c1 rfl ?c2 ?c3 ?c4 ?_)
  case c0 => rfl
  case c1 => rfl
  case c2 => omega
  case c3 => omega
  case c4 => omega
  intro v2 w2 hown2 hgrow2
  have HO2 := Lib.hid hown2
  have HG2 := Lib.hid hgrow2
  clear hown2 hgrow2
  go_wp2_with fail
  go_ret
  exact tokQ1 HE.out HX.out HX1.out HO2.out HG2.out

set_option maxRecDepth 100000 in
set_option maxHeartbeats 4000000 in
theorem app_false {w0 : World} (h0 : HasOps w0) (e : Ex) (l : List Tok) (v : Value) (base : Nat) (w : World) (ev : Value) (hx0 : Ext w0 w) (_ : w0.heap.size ≤ base) (he : IsEx (mask w (rowOf v)) e ev) (ho : OwnT w base l v) (hb : base ≤ w.heap.size) (hl : l.length + (tokE e).length ≤ 10000) (hop : e.op = 2) :
    Calls Tryz.prog 35 #[v, ev] w (TokQ base (l ++ tokE e) v w) := by
  obtain ⟨aw, nw, cw, aa, na, ca, rfl, hw, hna, hca, ha, hx⟩ := he.parts
  clear he hca ha
  obtain ⟨op, name, words, lo, hi, args⟩ := e
  simp only [Ex.op, Ex.name, Ex.words, Ex.lo, Ex.hi, Ex.args] at *
  obtain ⟨k, rfl⟩ : ∃ k : Nat, op = (k : Int) := ⟨op.toNat, by omega⟩
  have hk : k = 2 := by omega
  obtain ⟨o0, o1, o2, o3, o4⟩ := (h0.ext hx0) k (by omega)
  have hbk := block_lt o0
  simp only at hbk
  have hk9 : k < 9 := by omega
  have HWD := Lib.hid (show opWord k = wFalse by rw [hk]; rfl)
  generalize opLeast k = ol, opMost k = om, opNamed k = on, opWord k = ow, opBinds k = ob at *
  have HX := Lib.hid (((Ext.refl w).alloc (.cells #[.int .i64 k, .string name, .slice aw nw cw, .int .i64 lo, .int .i64 hi, .slice aa na ca] 28)).alloc (.cells #[.string ow, .bool on, .int .i64 ol, .int .i64 om, .int .i64 ob] 114))
  have HO := Lib.hid (ho.ext HX.out)
  have HBX := Lib.hid (blk_alloc (o' := .cells #[.string ow, .bool on, .int .i64 ol, .int .i64 om, .int .i64 ob] 114) (alloc_new w (.cells #[.int .i64 k, .string name, .slice aw nw cw, .int .i64 lo, .int .i64 hi, .slice aa na ca] 28)))
  have HBO := Lib.hid (alloc_at (w := w.alloc (.cells #[.int .i64 k, .string name, .slice aw nw cw, .int .i64 lo, .int .i64 hi, .slice aa na ca] 28)) (o := .cells #[.string ow, .bool on, .int .i64 ol, .int .i64 om, .int .i64 ob] 114) (n := w.heap.size + 1) (by simp))
  have HNR := Lib.hid (show w.heap.size ∉ rowOf v from fun h => by have := (ho.lt h).2; omega)
  have HNO := Lib.hid (show w.heap.size + 1 ∉ rowOf v from fun h => by have := (ho.lt h).2; omega)
  have HE := Lib.hid (show tokE (.mk k name words lo hi args) = [nameT ow] by rw [HWD.out, hk]; simp [tokE])
  have hl1 : l.length ≤ 10000 := by omega
  have t1 : ((k : Int) == 1) = false := by simp [hk]
  have t2 : ((k : Int) == 2) = true := by simp [hk]
  clear hw hna hx ho hl hop hk h0 hx0
  unfold exV
  go_enter Tryz.func35, Tryz.ntmps35
  go_upto_region 5 with fail
  generalize (w.alloc (.cells #[.int .i64 k, .string name, .slice aw nw cw, .int .i64 lo, .int .i64 hi, .slice aa na ca] 28)).alloc (.cells #[.string ow, .bool on, .int .i64 ol, .int .i64 om, .int .i64 ob] 114) = wb at *
  have hz0 := HX.out.size
  obtain ⟨x0, x1, x2, x3, x4, x5, xf⟩ := blk6 HBX.out
  obtain ⟨p0, p1, p2, p3, p4, pf⟩ := blk5a HBO.out
  have hlx := blk_lt HBX.out
  have hlo := blk_lt HBO.out
  clear o0 o1 o2 o3 o4 hbk
  go_wp2_with fail
  refine (sname_calls _ _).mono ?_
  rintro r w1 ⟨rfl, hx1⟩
  have HX1 := Lib.hid hx1
  have HO1 := Lib.hid (HO.out.ext hx1)
  have hz1 := hx1.size
  clear hx1 x0 x1 x2 x3 x4 x5 xf p0 p1 p2 p3 p4 pf
  simp only [tokV, nameT]
  go_wp2_with (at_builtin; refine wpList_append_tok rfl _ _ rfl base _ _ [nameT ow] rfl HO1.out _ 1 1 rfl ?c0 ?c1 rfl ?c2 ?c3 ?c4 ?_)
  case c0 => rfl
  case c1 => rfl
  case c2 => omega
  case c3 => omega
  case c4 => omega
  intro v2 w2 hown2 hgrow2
  have HO2 := Lib.hid hown2
  have HG2 := Lib.hid hgrow2
  clear hown2 hgrow2
  go_wp2_with fail
  go_ret
  exact tokQ1 HE.out HX.out HX1.out HO2.out HG2.out

set_option maxRecDepth 100000 in
set_option maxHeartbeats 4000000 in
theorem app_name {w0 : World} (h0 : HasOps w0) (e : Ex) (l : List Tok) (v : Value) (base : Nat) (w : World) (ev : Value) (hx0 : Ext w0 w) (_ : w0.heap.size ≤ base) (he : IsEx (mask w (rowOf v)) e ev) (ho : OwnT w base l v) (hb : base ≤ w.heap.size) (hl : l.length + (tokE e).length ≤ 10000) (hop : e.op = 3) :
    Calls Tryz.prog 35 #[v, ev] w (TokQ base (l ++ tokE e) v w) := by
  obtain ⟨aw, nw, cw, aa, na, ca, rfl, hw, hna, hca, ha, hx⟩ := he.parts
  clear he hca ha
  obtain ⟨op, name, words, lo, hi, args⟩ := e
  simp only [Ex.op, Ex.name, Ex.words, Ex.lo, Ex.hi, Ex.args] at *
  obtain ⟨k, rfl⟩ : ∃ k : Nat, op = (k : Int) := ⟨op.toNat, by omega⟩
  have hk : k = 3 := by omega
  obtain ⟨o0, o1, o2, o3, o4⟩ := (h0.ext hx0) k (by omega)
  have hbk := block_lt o0
  simp only at hbk
  have hk9 : k < 9 := by omega
  skip
  generalize opLeast k = ol, opMost k = om, opNamed k = on, opWord k = ow, opBinds k = ob at *
  have HX := Lib.hid (((Ext.refl w).alloc (.cells #[.int .i64 k, .string name, .slice aw nw cw, .int .i64 lo, .int .i64 hi, .slice aa na ca] 28)).alloc (.cells #[.string ow, .bool on, .int .i64 ol, .int .i64 om, .int .i64 ob] 114))
  have HO := Lib.hid (ho.ext HX.out)
  have HBX := Lib.hid (blk_alloc (o' := .cells #[.string ow, .bool on, .int .i64 ol, .int .i64 om, .int .i64 ob] 114) (alloc_new w (.cells #[.int .i64 k, .string name, .slice aw nw cw, .int .i64 lo, .int .i64 hi, .slice aa na ca] 28)))
  have HBO := Lib.hid (alloc_at (w := w.alloc (.cells #[.int .i64 k, .string name, .slice aw nw cw, .int .i64 lo, .int .i64 hi, .slice aa na ca] 28)) (o := .cells #[.string ow, .bool on, .int .i64 ol, .int .i64 om, .int .i64 ob] 114) (n := w.heap.size + 1) (by simp))
  have HNR := Lib.hid (show w.heap.size ∉ rowOf v from fun h => by have := (ho.lt h).2; omega)
  have HNO := Lib.hid (show w.heap.size + 1 ∉ rowOf v from fun h => by have := (ho.lt h).2; omega)
  have HE := Lib.hid (show tokE (.mk k name words lo hi args) = [nameT name] by rw [hk]; simp [tokE])
  have hl1 : l.length ≤ 10000 := by omega
  have t1 : ((k : Int) == 1) = false := by simp [hk]
  have t2 : ((k : Int) == 2) = false := by simp [hk]
  have t3 : ((k : Int) == 3) = true := by simp [hk]
  clear hw hna hx ho hl hop hk h0 hx0
  unfold exV
  go_enter Tryz.func35, Tryz.ntmps35
  go_upto_region 7 with fail
  generalize (w.alloc (.cells #[.int .i64 k, .string name, .slice aw nw cw, .int .i64 lo, .int .i64 hi, .slice aa na ca] 28)).alloc (.cells #[.string ow, .bool on, .int .i64 ol, .int .i64 om, .int .i64 ob] 114) = wb at *
  have hz0 := HX.out.size
  obtain ⟨x0, x1, x2, x3, x4, x5, xf⟩ := blk6 HBX.out
  obtain ⟨p0, p1, p2, p3, p4, pf⟩ := blk5a HBO.out
  have hlx := blk_lt HBX.out
  have hlo := blk_lt HBO.out
  clear o0 o1 o2 o3 o4 hbk
  go_wp2_with fail
  refine (sname_calls _ _).mono ?_
  rintro r w1 ⟨rfl, hx1⟩
  have HX1 := Lib.hid hx1
  have HO1 := Lib.hid (HO.out.ext hx1)
  have hz1 := hx1.size
  clear hx1 x0 x1 x2 x3 x4 x5 xf p0 p1 p2 p3 p4 pf
  simp only [tokV, nameT]
  go_wp2_with (at_builtin; refine wpList_append_tok rfl _ _ rfl base _ _ [nameT name] rfl HO1.out _ 1 1 rfl ?c0 ?c1 rfl ?c2 ?c3 ?c4 ?_)
  case c0 => rfl
  case c1 => rfl
  case c2 => omega
  case c3 => omega
  case c4 => omega
  intro v2 w2 hown2 hgrow2
  have HO2 := Lib.hid hown2
  have HG2 := Lib.hid hgrow2
  clear hown2 hgrow2
  go_wp2_with fail
  go_ret
  exact tokQ1 HE.out HX.out HX1.out HO2.out HG2.out

end Go.Proofs.YtaepiiediblleaaGreatDoor

namespace Go.Proofs.YtaepiiediblleaaGreatDoor
open Go.RowKit

def fBtwA (v : Value) (be : Nat) (l : List Tok) (name ow : ByteArray) (lo hi : Int) : Nat → What
  | 0 => .val v
  | 1 => .val (.pointer (some ⟨be, 1, none⟩))
  | 2 => .val (.string name)
  | 3 => .val (tokV (nameT name))
  | 4 => .val (.pointer (some ⟨be + 1, 0, none⟩))
  | 5 => .val (.string ow)
  | 6 => .val (tokV (nameT ow))
  | 7 => .val (.pointer (some ⟨be, 3, none⟩))
  | 8 => .val (.int .i64 lo)
  | 9 => .val (tokV (numT lo))
  | 10 => .val (tokV (nameT wTo))
  | 11 => .val (.pointer (some ⟨be, 4, none⟩))
  | 12 => .val (.int .i64 hi)
  | 13 => .val (tokV (numT hi))
  | 14 => .blk [nameT name, nameT ow, numT lo, nameT wTo, numT hi]
  | 15 => .own (l ++ [nameT name, nameT ow, numT lo, nameT wTo, numT hi])
  | _ => .val undef

set_option maxRecDepth 100000 in
set_option maxHeartbeats 4000000 in
theorem app_btw {w0 : World} (h0 : HasOps w0) (e : Ex) (l : List Tok) (v : Value) (base : Nat) (w : World) (ev : Value) (hx0 : Ext w0 w) (_ : w0.heap.size ≤ base) (he : IsEx (mask w (rowOf v)) e ev) (ho : OwnT w base l v) (hb : base ≤ w.heap.size) (hl : l.length + (tokE e).length ≤ 10000) (hop : e.op = 5) :
    Calls Tryz.prog 35 #[v, ev] w (TokQ base (l ++ tokE e) v w) := by
  obtain ⟨aw, nw, cw, aa, na, ca, rfl, hw, hna, hca, ha, hx⟩ := he.parts
  clear he hca ha
  obtain ⟨op, name, words, lo, hi, args⟩ := e
  simp only [Ex.op, Ex.name, Ex.words, Ex.lo, Ex.hi, Ex.args] at *
  obtain ⟨k, rfl⟩ : ∃ k : Nat, op = (k : Int) := ⟨op.toNat, by omega⟩
  have hk : k = 5 := by omega
  obtain ⟨o0, o1, o2, o3, o4⟩ := (h0.ext hx0) k (by omega)
  have hbk := block_lt o0
  simp only at hbk
  have hk9 : k < 9 := by omega
  have HWD := Lib.hid (show opWord k = wFrom by rw [hk]; rfl)
  generalize opLeast k = ol, opMost k = om, opNamed k = on, opWord k = ow, opBinds k = ob at *
  have HX := Lib.hid (((Ext.refl w).alloc (.cells #[.int .i64 k, .string name, .slice aw nw cw, .int .i64 lo, .int .i64 hi, .slice aa na ca] 28)).alloc (.cells #[.string ow, .bool on, .int .i64 ol, .int .i64 om, .int .i64 ob] 114))
  have HO := Lib.hid (ho.ext HX.out)
  have HBX := Lib.hid (blk_alloc (o' := .cells #[.string ow, .bool on, .int .i64 ol, .int .i64 om, .int .i64 ob] 114) (alloc_new w (.cells #[.int .i64 k, .string name, .slice aw nw cw, .int .i64 lo, .int .i64 hi, .slice aa na ca] 28)))
  have HBO := Lib.hid (alloc_at (w := w.alloc (.cells #[.int .i64 k, .string name, .slice aw nw cw, .int .i64 lo, .int .i64 hi, .slice aa na ca] 28)) (o := .cells #[.string ow, .bool on, .int .i64 ol, .int .i64 om, .int .i64 ob] 114) (n := w.heap.size + 1) (by simp))
  have HNR := Lib.hid (show w.heap.size ∉ rowOf v from fun h => by have := (ho.lt h).2; omega)
  have HNO := Lib.hid (show w.heap.size + 1 ∉ rowOf v from fun h => by have := (ho.lt h).2; omega)
  have HE := Lib.hid (show tokE (.mk k name words lo hi args) = [nameT name, nameT ow, numT lo, nameT wTo, numT hi] by rw [HWD.out, hk]; simp [tokE])
  have hl1 : l.length ≤ 10000 := by omega
  have t1 : ((k : Int) == 1) = false := by simp [hk]
  have t2 : ((k : Int) == 2) = false := by simp [hk]
  have t3 : ((k : Int) == 3) = false := by simp [hk]
  have t4 : ((k : Int) == 4) = false := by simp [hk]
  have t5 : ((k : Int) == 5) = true := by simp [hk]
  clear hw hna hx ho hl hop hk h0 hx0
  unfold exV
  go_enter Tryz.func35, Tryz.ntmps35
  go_upto_region 19 with fail
  generalize (w.alloc (.cells #[.int .i64 k, .string name, .slice aw nw cw, .int .i64 lo, .int .i64 hi, .slice aa na ca] 28)).alloc (.cells #[.string ow, .bool on, .int .i64 ol, .int .i64 om, .int .i64 ob] 114) = wb at *
  have hz0 := HX.out.size
  clear o0 o1 o2 o3 o4 hbk
  refine wp_region_growL (m := 16) [15] (TokG [15] wb v) (TokE [15]) (TokR base wb v (fBtwA v w.heap.size l name ow lo hi)) (by kernel_rfl) (by kernel_rfl) ⟨(Chg.refl _ _).drew, fun _ => (Ext.refl wb).drew⟩ (tokR_keeps (by kernel_rfl)) ?_ ?_
  · intro i o hi ho L vs W hiL hnc hG hd ρ hρ
    have hi' : i = 0 ∨ i = 1 ∨ i = 2 ∨ i = 3 ∨ i = 4 ∨ i = 5 ∨ i = 6 ∨ i = 7 ∨ i = 8 ∨ i = 9 ∨ i = 10 ∨ i = 11 ∨ i = 12 ∨ i = 13 ∨ i = 14 ∨ i = 15 := by omega
    clear hi
    have o0 : ρ (.tmp 0) = v := hρ.out 0 rfl
    have o3 : ρ (.tmp 3) = .pointer (some ⟨w.heap.size, 0, none⟩) := hρ.out 3 rfl
    have o5 : ρ (.tmp 5) = .pointer (some ⟨w.heap.size + 1, 0, none⟩) := hρ.out 5 rfl
    have i0 := hρ.ins 0 71 (by omega) rfl (Nat.le_of_ble_eq_true rfl)
    have i1 := hρ.ins 1 72 (by omega) rfl (Nat.le_of_ble_eq_true rfl)
    have i2 := hρ.ins 2 73 (by omega) rfl (Nat.le_of_ble_eq_true rfl)
    have i3 := hρ.ins 3 74 (by omega) rfl (Nat.le_of_ble_eq_true rfl)
    have i4 := hρ.ins 4 75 (by omega) rfl (Nat.le_of_ble_eq_true rfl)
    have i5 := hρ.ins 5 76 (by omega) rfl (Nat.le_of_ble_eq_true rfl)
    have i6 := hρ.ins 6 77 (by omega) rfl (Nat.le_of_ble_eq_true rfl)
    have i7 := hρ.ins 7 78 (by omega) rfl (Nat.le_of_ble_eq_true rfl)
    have i8 := hρ.ins 8 79 (by omega) rfl (Nat.le_of_ble_eq_true rfl)
    have i9 := hρ.ins 9 80 (by omega) rfl (Nat.le_of_ble_eq_true rfl)
    have i10 := hρ.ins 10 81 (by omega) rfl (Nat.le_of_ble_eq_true rfl)
    have i11 := hρ.ins 11 82 (by omega) rfl (Nat.le_of_ble_eq_true rfl)
    have i12 := hρ.ins 12 83 (by omega) rfl (Nat.le_of_ble_eq_true rfl)
    have i13 := hρ.ins 13 84 (by omega) rfl (Nat.le_of_ble_eq_true rfl)
    have i14 := hρ.ins 14 85 (by omega) rfl (Nat.le_of_ble_eq_true rfl)
    have i15 := hρ.ins 15 86 (by omega) rfl (Nat.le_of_ble_eq_true rfl)
    have hcs := hρ.const
    have hfn := hρ.func
    clear hρ
    have hbW := hG.1.blk HBX.out HNR.out
    have hbO := hG.1.blk HBO.out HNO.out
    obtain ⟨b0, b1, b2, b3, b4, b5, bf⟩ := blk6 hbW
    obtain ⟨p0, p1, p2, p3, p4, pf⟩ := blk5a hbO
    clear hbW hbO
    have hwz := hG.1.size
    have HG := Lib.hid hG
    clear hG
    rcases hi' with rfl | rfl | rfl | rfl | rfl | rfl | rfl | rfl | rfl | rfl | rfl | rfl | rfl | rfl | rfl | rfl
    · cases ho
      unfold GivesOp
      go_simp
      exact ⟨Or.inr (Ext.refl _), HG.out.ext (Ext.refl _) _, rfl⟩
    · cases ho
      unfold GivesOp
      go_simp
      exact ⟨Or.inr (Ext.refl _), HG.out.ext (Ext.refl _) _, rfl⟩
    · cases ho
      have h1 : vs 1 = _ := hd ⟨1, .data⟩ (by simp) rfl
      rw [h1] at i1
      unfold GivesOp
      go_simp
      exact ⟨Or.inr (Ext.refl _), HG.out.ext (Ext.refl _) _, rfl⟩
    · cases ho
      have h2 : vs 2 = _ := hd ⟨2, .data⟩ (by simp) rfl
      rw [h2] at i2
      unfold GivesOp
      go_simp
      refine (sname_calls _ _).mono ?_
      rintro q W' ⟨rfl, hx⟩
      exact ⟨_, rfl, Or.inr hx, HG.out.ext hx _, rfl⟩
    · cases ho
      unfold GivesOp
      go_simp
      exact ⟨Or.inr (Ext.refl _), HG.out.ext (Ext.refl _) _, rfl⟩
    · cases ho
      have h4 : vs 4 = _ := hd ⟨4, .data⟩ (by simp) rfl
      rw [h4] at i4
      unfold GivesOp
      go_simp
      exact ⟨Or.inr (Ext.refl _), HG.out.ext (Ext.refl _) _, rfl⟩
    · cases ho
      have h5 : vs 5 = _ := hd ⟨5, .data⟩ (by simp) rfl
      rw [h5] at i5
      unfold GivesOp
      go_simp
      refine (sname_calls _ _).mono ?_
      rintro q W' ⟨rfl, hx⟩
      exact ⟨_, rfl, Or.inr hx, HG.out.ext hx _, rfl⟩
    · cases ho
      unfold GivesOp
      go_simp
      exact ⟨Or.inr (Ext.refl _), HG.out.ext (Ext.refl _) _, rfl⟩
    · cases ho
      have h7 : vs 7 = _ := hd ⟨7, .data⟩ (by simp) rfl
      rw [h7] at i7
      unfold GivesOp
      go_simp
      exact ⟨Or.inr (Ext.refl _), HG.out.ext (Ext.refl _) _, rfl⟩
    · cases ho
      have h8 : vs 8 = _ := hd ⟨8, .data⟩ (by simp) rfl
      rw [h8] at i8
      unfold GivesOp
      go_simp
      refine (snumeral_calls _ _).mono ?_
      rintro q W' ⟨rfl, hx⟩
      exact ⟨_, rfl, Or.inr hx, HG.out.ext hx _, rfl⟩
    · cases ho
      unfold GivesOp
      go_simp
      refine (sname_calls _ _).mono ?_
      rintro q W' ⟨rfl, hx⟩
      exact ⟨_, rfl, Or.inr hx, HG.out.ext hx _, rfl⟩
    · cases ho
      unfold GivesOp
      go_simp
      exact ⟨Or.inr (Ext.refl _), HG.out.ext (Ext.refl _) _, rfl⟩
    · cases ho
      have h11 : vs 11 = _ := hd ⟨11, .data⟩ (by simp) rfl
      rw [h11] at i11
      unfold GivesOp
      go_simp
      exact ⟨Or.inr (Ext.refl _), HG.out.ext (Ext.refl _) _, rfl⟩
    · cases ho
      have h12 : vs 12 = _ := hd ⟨12, .data⟩ (by simp) rfl
      rw [h12] at i12
      unfold GivesOp
      go_simp
      refine (snumeral_calls _ _).mono ?_
      rintro q W' ⟨rfl, hx⟩
      exact ⟨_, rfl, Or.inr hx, HG.out.ext hx _, rfl⟩
    · cases ho
      have h3 : vs 3 = _ := hd ⟨3, .data⟩ (by simp) rfl
      rw [h3] at i3
      have h6 : vs 6 = _ := hd ⟨6, .data⟩ (by simp) rfl
      rw [h6] at i6
      have h9 : vs 9 = _ := hd ⟨9, .data⟩ (by simp) rfl
      rw [h9] at i9
      have h10 : vs 10 = _ := hd ⟨10, .data⟩ (by simp) rfl
      rw [h10] at i10
      have h13 : vs 13 = _ := hd ⟨13, .data⟩ (by simp) rfl
      rw [h13] at i13
      unfold tokV nameT at i3
      unfold tokV nameT at i6
      unfold tokV numT at i9
      unfold tokV nameT at i10
      unfold tokV numT at i13
      unfold GivesOp
      go_simp
      exact ⟨Or.inr ((Ext.refl _).alloc _), HG.out.ext ((Ext.refl _).alloc _) _, W.heap.size, rfl, alloc_new W _⟩
    · cases ho
      have h0 : vs 0 = _ := hd ⟨0, .data⟩ (by simp) rfl
      rw [h0] at i0
      obtain ⟨x0, hb14, hx0⟩ := hd ⟨14, .data⟩ (by simp) rfl
      rw [hb14] at i14
      have hxW := HG.out.2 (tok_before (by decide +kernel) hiL hnc)
      refine gives_append_tok _ _ base v l _ i0 (HO.out.ext hxW) x0 i14 hx0 (by simp) (by simp; omega) (by omega) ?_
      intro u' w' ho' hg'
      exact ⟨Or.inl (by simp), TokG.grow (hxW.grew v) hg' (by simp), ho', (hxW.grew v).trans hg'⟩
  · intro L vs W _ hG hR
    rw [if_neg (by decide +kernel)]
    obtain ⟨ho', hg'⟩ := hR 15 (by simp) (by omega)
    have HO2 := Lib.hid ho'
    have HG2 := Lib.hid hg'
    clear hG hR ho' hg'
    unfold wpOp
    simp only [acts, dstAt, List.range, List.range.loop, List.foldl_cons, List.foldl_nil]
    go_simp
    refine Or.inl ?_
    go_wp2_with fail
    go_ret
    exact ⟨_, rfl, by rw [HE.out]; exact HO2.out, (HX.out.grew v).trans HG2.out⟩
end Go.Proofs.YtaepiiediblleaaGreatDoor

namespace Go.Proofs.YtaepiiediblleaaGreatDoor
open Go.RowKit

def fInA (v : Value) (be : Nat) (l : List Tok) (name ow : ByteArray) : Nat → What
  | 0 => .val v
  | 1 => .val (.pointer (some ⟨be, 1, none⟩))
  | 2 => .val (.string name)
  | 3 => .val (tokV (nameT name))
  | 4 => .val (.pointer (some ⟨be + 1, 0, none⟩))
  | 5 => .val (.string ow)
  | 6 => .val (tokV (nameT ow))
  | 7 => .val (tokV (markT 40))
  | 8 => .blk [nameT name, nameT ow, markT 40]
  | 9 => .own (l ++ [nameT name, nameT ow, markT 40])
  | _ => .val undef

set_option maxRecDepth 100000 in
set_option maxHeartbeats 4000000 in
theorem app_in {w0 : World} (h0 : HasOps w0) (e : Ex) (l : List Tok) (v : Value) (base : Nat) (w : World) (ev : Value) (hx0 : Ext w0 w) (_ : w0.heap.size ≤ base) (he : IsEx (mask w (rowOf v)) e ev) (ho : OwnT w base l v) (hb : base ≤ w.heap.size) (hl : l.length + (tokE e).length ≤ 10000) (hop : e.op = 4) :
    Calls Tryz.prog 35 #[v, ev] w (TokQ base (l ++ tokE e) v w) := by
  obtain ⟨aw, nw, cw, aa, na, ca, rfl, hw, hna, hca, ha, hx⟩ := he.parts
  clear he hca ha
  obtain ⟨op, name, words, lo, hi, args⟩ := e
  simp only [Ex.op, Ex.name, Ex.words, Ex.lo, Ex.hi, Ex.args] at *
  obtain ⟨k, rfl⟩ : ∃ k : Nat, op = (k : Int) := ⟨op.toNat, by omega⟩
  have hk : k = 4 := by omega
  obtain ⟨o0, o1, o2, o3, o4⟩ := (h0.ext hx0) k (by omega)
  have hbk := block_lt o0
  simp only at hbk
  have hk9 : k < 9 := by omega
  have HWD := Lib.hid (show opWord k = wIn by rw [hk]; rfl)
  generalize opLeast k = ol, opMost k = om, opNamed k = on, opWord k = ow, opBinds k = ob at *
  have HX := Lib.hid (((Ext.refl w).alloc (.cells #[.int .i64 k, .string name, .slice aw nw cw, .int .i64 lo, .int .i64 hi, .slice aa na ca] 28)).alloc (.cells #[.string ow, .bool on, .int .i64 ol, .int .i64 om, .int .i64 ob] 114))
  have HO := Lib.hid (ho.ext HX.out)
  have HBX := Lib.hid (blk_alloc (o' := .cells #[.string ow, .bool on, .int .i64 ol, .int .i64 om, .int .i64 ob] 114) (alloc_new w (.cells #[.int .i64 k, .string name, .slice aw nw cw, .int .i64 lo, .int .i64 hi, .slice aa na ca] 28)))
  have HBO := Lib.hid (alloc_at (w := w.alloc (.cells #[.int .i64 k, .string name, .slice aw nw cw, .int .i64 lo, .int .i64 hi, .slice aa na ca] 28)) (o := .cells #[.string ow, .bool on, .int .i64 ol, .int .i64 om, .int .i64 ob] 114) (n := w.heap.size + 1) (by simp))
  have HNR := Lib.hid (show w.heap.size ∉ rowOf v from fun h => by have := (ho.lt h).2; omega)
  have HNO := Lib.hid (show w.heap.size + 1 ∉ rowOf v from fun h => by have := (ho.lt h).2; omega)
  have HE := Lib.hid (show tokE (.mk k name words lo hi args) = [nameT name, nameT ow, markT 40] ++ listedT words ++ [markT 41] by rw [HWD.out, hk]; simp [tokE])
  have hl1 : l.length + 3 + (listedT words).length + 1 ≤ 10000 := by rw [HE.out] at hl; simp at hl; omega
  have hl2 := listedT_ge words
  have hl3 : nw ≤ 10000 := by have := hw.1; omega
  have HN := Lib.hid hw.1
  have HW := Lib.hid (hw.mono (HX.out.grew v).sub)
  have t1 : ((k : Int) == 1) = false := by simp [hk]
  have t2 : ((k : Int) == 2) = false := by simp [hk]
  have t3 : ((k : Int) == 3) = false := by simp [hk]
  have t4 : ((k : Int) == 4) = true := by simp [hk]
  clear hw hna hx ho hl hop hk h0 hx0 hl2
  unfold exV
  go_enter Tryz.func35, Tryz.ntmps35
  go_upto_region 9 with fail
  generalize (w.alloc (.cells #[.int .i64 k, .string name, .slice aw nw cw, .int .i64 lo, .int .i64 hi, .slice aa na ca] 28)).alloc (.cells #[.string ow, .bool on, .int .i64 ol, .int .i64 om, .int .i64 ob] 114) = wb at *
  have hz0 := HX.out.size
  clear o0 o1 o2 o3 o4 hbk
  refine wp_region_growL (m := 10) [9] (TokG [9] wb v) (TokE [9]) (TokR base wb v (fInA v w.heap.size l name ow)) (by kernel_rfl) (by kernel_rfl) ⟨(Chg.refl _ _).drew, fun _ => (Ext.refl wb).drew⟩ (tokR_keeps (by kernel_rfl)) ?_ ?_
  · intro i o hi ho L vs W hiL hnc hG hd ρ hρ
    have hi' : i = 0 ∨ i = 1 ∨ i = 2 ∨ i = 3 ∨ i = 4 ∨ i = 5 ∨ i = 6 ∨ i = 7 ∨ i = 8 ∨ i = 9 := by omega
    clear hi
    have o0 : ρ (.tmp 0) = v := hρ.out 0 rfl
    have o3 : ρ (.tmp 3) = .pointer (some ⟨w.heap.size, 0, none⟩) := hρ.out 3 rfl
    have o5 : ρ (.tmp 5) = .pointer (some ⟨w.heap.size + 1, 0, none⟩) := hρ.out 5 rfl
    have i0 := hρ.ins 0 35 (by omega) rfl (Nat.le_of_ble_eq_true rfl)
    have i1 := hρ.ins 1 36 (by omega) rfl (Nat.le_of_ble_eq_true rfl)
    have i2 := hρ.ins 2 37 (by omega) rfl (Nat.le_of_ble_eq_true rfl)
    have i3 := hρ.ins 3 38 (by omega) rfl (Nat.le_of_ble_eq_true rfl)
    have i4 := hρ.ins 4 39 (by omega) rfl (Nat.le_of_ble_eq_true rfl)
    have i5 := hρ.ins 5 40 (by omega) rfl (Nat.le_of_ble_eq_true rfl)
    have i6 := hρ.ins 6 41 (by omega) rfl (Nat.le_of_ble_eq_true rfl)
    have i7 := hρ.ins 7 42 (by omega) rfl (Nat.le_of_ble_eq_true rfl)
    have i8 := hρ.ins 8 43 (by omega) rfl (Nat.le_of_ble_eq_true rfl)
    have i9 := hρ.ins 9 44 (by omega) rfl (Nat.le_of_ble_eq_true rfl)
    have hcs := hρ.const
    have hfn := hρ.func
    clear hρ
    have hbW := hG.1.blk HBX.out HNR.out
    have hbO := hG.1.blk HBO.out HNO.out
    obtain ⟨b0, b1, b2, b3, b4, b5, bf⟩ := blk6 hbW
    obtain ⟨p0, p1, p2, p3, p4, pf⟩ := blk5a hbO
    clear hbW hbO
    have hwz := hG.1.size
    have HG := Lib.hid hG
    clear hG
    rcases hi' with rfl | rfl | rfl | rfl | rfl | rfl | rfl | rfl | rfl | rfl
    · cases ho
      unfold GivesOp
      go_simp
      exact ⟨Or.inr (Ext.refl _), HG.out.ext (Ext.refl _) _, rfl⟩
    · cases ho
      unfold GivesOp
      go_simp
      exact ⟨Or.inr (Ext.refl _), HG.out.ext (Ext.refl _) _, rfl⟩
    · cases ho
      have h1 : vs 1 = _ := hd ⟨1, .data⟩ (by simp) rfl
      rw [h1] at i1
      unfold GivesOp
      go_simp
      exact ⟨Or.inr (Ext.refl _), HG.out.ext (Ext.refl _) _, rfl⟩
    · cases ho
      have h2 : vs 2 = _ := hd ⟨2, .data⟩ (by simp) rfl
      rw [h2] at i2
      unfold GivesOp
      go_simp
      refine (sname_calls _ _).mono ?_
      rintro q W' ⟨rfl, hx⟩
      exact ⟨_, rfl, Or.inr hx, HG.out.ext hx _, rfl⟩
    · cases ho
      unfold GivesOp
      go_simp
      exact ⟨Or.inr (Ext.refl _), HG.out.ext (Ext.refl _) _, rfl⟩
    · cases ho
      have h4 : vs 4 = _ := hd ⟨4, .data⟩ (by simp) rfl
      rw [h4] at i4
      unfold GivesOp
      go_simp
      exact ⟨Or.inr (Ext.refl _), HG.out.ext (Ext.refl _) _, rfl⟩
    · cases ho
      have h5 : vs 5 = _ := hd ⟨5, .data⟩ (by simp) rfl
      rw [h5] at i5
      unfold GivesOp
      go_simp
      refine (sname_calls _ _).mono ?_
      rintro q W' ⟨rfl, hx⟩
      exact ⟨_, rfl, Or.inr hx, HG.out.ext hx _, rfl⟩
    · cases ho
      unfold GivesOp
      go_simp
      refine (smark_calls _ _).mono ?_
      rintro q W' ⟨rfl, hx⟩
      exact ⟨_, rfl, Or.inr hx, HG.out.ext hx _, rfl⟩
    · cases ho
      have h3 : vs 3 = _ := hd ⟨3, .data⟩ (by simp) rfl
      rw [h3] at i3
      have h6 : vs 6 = _ := hd ⟨6, .data⟩ (by simp) rfl
      rw [h6] at i6
      have h7 : vs 7 = _ := hd ⟨7, .data⟩ (by simp) rfl
      rw [h7] at i7
      unfold tokV nameT at i3
      unfold tokV nameT at i6
      unfold tokV markT at i7
      unfold GivesOp
      go_simp
      exact ⟨Or.inr ((Ext.refl _).alloc _), HG.out.ext ((Ext.refl _).alloc _) _, W.heap.size, rfl, alloc_new W _⟩
    · cases ho
      have h0 : vs 0 = _ := hd ⟨0, .data⟩ (by simp) rfl
      rw [h0] at i0
      obtain ⟨x0, hb8, hx0⟩ := hd ⟨8, .data⟩ (by simp) rfl
      rw [hb8] at i8
      have hxW := HG.out.2 (tok_before (by decide +kernel) hiL hnc)
      refine gives_append_tok _ _ base v l _ i0 (HO.out.ext hxW) x0 i8 hx0 (by simp) (by simp; omega) (by omega) ?_
      intro u' w' ho' hg'
      exact ⟨Or.inl (by simp), TokG.grow (hxW.grew v) hg' (by simp), ho', (hxW.grew v).trans hg'⟩
  · intro L vs W _ hG hR
    rw [if_neg (by decide +kernel)]
    obtain ⟨ho', hg'⟩ := hR 9 (by simp) (by omega)
    have HO2 := Lib.hid ho'
    have HG2 := Lib.hid hg'
    clear hG hR ho' hg'
    unfold wpOp
    simp only [acts, dstAt, List.range, List.range.loop, List.foldl_cons, List.foldl_nil]
    go_simp
    refine Or.inl ?_
    generalize vs 9 = u2 at *
    have hbW := HG2.out.1.blk HBX.out HNR.out
    have hlx := blk_lt hbW
    obtain ⟨b0, b1, b2, b3, b4, b5, bf⟩ := blk6 hbW
    have HW2 := Lib.hid (HW.out.mono HG2.out.sub)
    have hzW := HG2.out.1.size
    clear hbW HW
    obtain ⟨L, hL⟩ : ∃ L, L = l ++ [nameT name, nameT ow, markT 40] := ⟨_, rfl⟩
    rw [← hL] at HO2
    have hLl : L.length = l.length + 3 := by rw [hL]; simp
    have HL := Lib.hid hL
    clear hL
    go_wp2_with fail
    clear b0 b1 b2 b3 b4 b5 bf hlx
    go_loopg [0, 48] nw (fun m u i wr => ∃ k : Nat, k ≤ nw ∧ m = nw - k ∧ i = .int .i64 k ∧ OwnT wr base (L ++ listedT (words.take k)) u ∧ Grew W u2 wr u)
    case atStart => exact ⟨0, by omega, rfl, rfl, by simpa [listedT] using HO2.out, Grew.refl _ _⟩
    case round =>
      obtain ⟨k1, hk1, hm, rfl, ho, hg⟩ := hrel
      have HM := Lib.hid hm
      have HO1 := Lib.hid ho
      have HG1 := Lib.hid hg
      clear ho hg hm
      by_cases hlt : k1 < nw
      · have hlt' : k1 < words.length := by have := HN.out; omega
        have t1 : decide ((k1 : Int) < (nw : Int)) = true := by simp; omega
        obtain ⟨b, off, rfl, hcell⟩ := HW2.out.2.2.2 k1 hlt'
        have hcell := mask_in (HG1.out.sub _ _ hcell)
        have HLS := Lib.hid (listedT_snoc words[k1] (words.take k1))
        have HT := Lib.hid (show words.take (k1 + 1) = words.take k1 ++ [words[k1]] by simp)
        have hlen := listedT_len (words.take k1)
        have hlen2 : (listedT (words.take k1)).length ≤ 20000 := by rw [List.length_take] at hlen; omega
        have hz1 := HG1.out.1.size
        clear hlen
        by_cases hk0 : k1 = 0
        case' pos =>
          have HL1 := Lib.hid (show L ++ listedT (words.take (k1 + 1)) = L ++ listedT (words.take k1) ++ [nameT words[k1]] by rw [HT.out, HLS.out, List.length_take, if_pos (by omega)]; simp)
          have hLL : (L ++ listedT (words.take k1)).length ≤ 40001 := by rw [List.length_append]; omega
          have t2 : decide (0 < (k1 : Int)) = false := by simp; omega
          have t3 : decide (0 < k1) = false := by simp; omega
          have HO3 := Lib.hid HO1.out
          have HG3 := Lib.hid HG1.out
          generalize L ++ listedT (words.take k1) = L2 at *
          generalize words[k1] = wk at *
          clear HO1 HG1 HLS HT hk0
          go_upto_region 15 with fail
          clear hcell
        case' neg =>
          have HL1 := Lib.hid (show L ++ listedT (words.take (k1 + 1)) = L ++ listedT (words.take k1) ++ [markT 44] ++ [nameT words[k1]] by rw [HT.out, HLS.out, List.length_take, if_neg (by omega)]; simp)
          have hLL : (L ++ listedT (words.take k1) ++ [markT 44]).length ≤ 40001 := by rw [List.length_append, List.length_append]; simp; omega
          have t2 : decide (0 < (k1 : Int)) = true := by simp; omega
          have t3 : decide (0 < k1) = true := by simp; omega
          generalize L ++ listedT (words.take k1) = LL at *
          generalize words[k1] = wk at *
          clear HLS HT hk0
          go_wp2_with fail
          refine (smark_calls 44 _).mono ?_
          rintro r w1 ⟨rfl, hx1⟩
          have HOW := Lib.hid (HO1.out.ext hx1)
          have HGW := Lib.hid (HG1.out.trans (hx1.grew _))
          have hz := hx1.size
          simp only [tokV, markT]
          clear hx1 hcell
          go_wp2_with (at_builtin; refine wpList_append_tok rfl _ _ rfl base _ _ [markT 44] rfl HOW.out _ 1 1 rfl ?c0 ?c1 rfl ?c2 ?c3 ?c4 ?_)
          case c0 => rfl
          case c1 => rfl
          case c2 => omega
          case c3 => have := hLL; rw [List.length_append] at this; simp at this; omega
          case c4 => omega
          intro v2 w2 hown2 hgrow2
          have HO3 := Lib.hid hown2
          have HG3 := Lib.hid (HGW.out.trans hgrow2)
          clear hown2 hgrow2 HOW HGW HO1 HG1
          generalize LL ++ [markT 44] = L2 at *
          go_upto_region 15 with fail
        all_goals
          have hz2 := HG3.out.1.size
          go_wp2_with fail
          refine (sname_calls _ _).mono ?_
          rintro r w3 ⟨rfl, hx3⟩
          have HOW := Lib.hid (HO3.out.ext hx3)
          have HGW := Lib.hid (HG3.out.trans (hx3.grew _))
          have hz3 := hx3.size
          simp only [tokV, nameT]
          clear hx3
          go_wp2_with (at_builtin; refine wpList_append_tok rfl _ _ rfl base _ _ [nameT wk] rfl HOW.out _ 1 1 rfl ?c0 ?c1 rfl ?c2 ?c3 ?c4 ?_)
          case c0 => rfl
          case c1 => rfl
          case c2 => omega
          case c3 => omega
          case c4 => omega
          intro v4 w4 hown4 hgrow4
          have HO4 := Lib.hid hown4
          have HG4 := Lib.hid (HGW.out.trans hgrow4)
          clear hown4 hgrow4 HOW HGW
          go_wp2_with fail
          go_roundg (nw - (k1 + 1))
          case measure => have := HM.out; omega
          case rel => exact ⟨k1 + 1, by omega, rfl, by go_num, by rw [HL1.out]; exact HO4.out, HG4.out⟩
      · have HE2 := Lib.hid (show words.take k1 = words from List.take_of_length_le (by have := HN.out; omega))
        have t1 : decide ((k1 : Int) < (nw : Int)) = false := by simp; omega
        rw [HE2.out] at HO1
        have hz1 := HG1.out.1.size
        have hLL : (L ++ listedT words).length ≤ 40000 := by rw [List.length_append]; omega
        go_wp2_with fail
        refine (smark_calls 41 _).mono ?_
        rintro r w3 ⟨rfl, hx3⟩
        have HOW := Lib.hid (HO1.out.ext hx3)
        have HGW := Lib.hid (HG1.out.trans (hx3.grew _))
        have hz3 := hx3.size
        simp only [tokV, markT]
        clear hx3
        go_wp2_with (at_builtin; refine wpList_append_tok rfl _ _ rfl base _ _ [markT 41] rfl HOW.out _ 1 1 rfl ?c0 ?c1 rfl ?c2 ?c3 ?c4 ?_)
        case c0 => rfl
        case c1 => rfl
        case c2 => omega
        case c3 => omega
        case c4 => omega
        intro v4 w4 hown4 hgrow4
        have HO4 := Lib.hid hown4
        have HG4 := Lib.hid ((HG2.out.trans HGW.out).trans hgrow4)
        clear hown4 hgrow4 HOW HGW
        go_wp2_with fail
        go_ret
        exact ⟨_, rfl, by rw [HE.out]; have := HO4.out; rw [HL.out] at this; simpa using this, (HX.out.grew v).trans HG4.out⟩
end Go.Proofs.YtaepiiediblleaaGreatDoor

namespace Go.Proofs.YtaepiiediblleaaGreatDoor
open Go.RowKit

structure Attr where
  name : ByteArray
  kind : Int
  words : List ByteArray
  lo : Int
  hi : Int
/-- An attribute in memory: five cells. -/
def AttrAt (w : World) (x : Attr) (b off : Nat) : Prop := ∃ aw nw cw, w.cell? ⟨b, off, none⟩ = some (.string x.name) ∧ w.cell? ⟨b, off + 1, none⟩ = some (.int .i64 x.kind) ∧ w.cell? ⟨b, off + 2, none⟩ = some (.slice aw nw cw) ∧ w.cell? ⟨b, off + 3, none⟩ = some (.int .i64 x.lo) ∧
  w.cell? ⟨b, off + 4, none⟩ = some (.int .i64 x.hi) ∧ IsStrs w x.words aw nw cw
def IsSchema (w : World) (l : List Attr) (v : Value) : Prop := ∃ a n c, v = .agg #[.slice a n c] ∧ n = l.length ∧ n ≤ c ∧ OkAddr a c ∧ ∀ i (h : i < l.length), ∃ b off, a = some ⟨b, off, none⟩ ∧ AttrAt w l[i] b (off + i * 5)
theorem AttrAt.mono {w w' : World} {x : Attr} {b off : Nat} (h : AttrAt w x b off) (hs : Sub w w') : AttrAt w' x b off := by
  obtain ⟨aw, nw, cw, h0, h1, h2, h3, h4, h5⟩ := h
  exact ⟨aw, nw, cw, hs _ _ h0, hs _ _ h1, hs _ _ h2, hs _ _ h3, hs _ _ h4, h5.mono hs⟩
theorem IsSchema.mono {w w' : World} {l : List Attr} {v : Value} (h : IsSchema w l v) (hs : Sub w w') : IsSchema w' l v := by
  obtain ⟨a, n, c, h1, h2, h3, h4, h5⟩ := h
  exact ⟨a, n, c, h1, h2, h3, h4, fun i hi => by obtain ⟨b, off, e1, e2⟩ := h5 i hi; exact ⟨b, off, e1, e2.mono hs⟩⟩

def aPeril : Attr := ⟨⟨#[112, 101, 114, 105, 108]⟩, 1, [⟨#[102, 105, 114, 101]⟩, ⟨#[102, 108, 111, 111, 100]⟩, ⟨#[119, 105, 110, 100]⟩, ⟨#[116, 104, 101, 102, 116]⟩], 0, 0⟩
def schemas : List (List Attr) := [[aPeril, ⟨⟨#[115, 116, 111, 114, 101, 121, 115]⟩, 2, [], 1, 9⟩, ⟨⟨#[97, 108, 97, 114, 109]⟩, 3, [], 0, 0⟩],
  [⟨⟨#[110]⟩, 2, [], -5, 20⟩],
  [⟨⟨#[97]⟩, 3, [], 0, 0⟩, ⟨⟨#[114, 111, 108, 101]⟩, 1, [⟨#[99, 114, 101, 119]⟩, ⟨#[103, 117, 101, 115, 116]⟩], 0, 0⟩, ⟨⟨#[98]⟩, 3, [], 0, 0⟩],
  [⟨⟨#[110]⟩, 2, [], -1000000000, 1000000000⟩, ⟨⟨#[116]⟩, 3, [], 0, 0⟩],
  [⟨⟨#[111, 110, 101]⟩, 1, [⟨#[111, 110, 108, 121]⟩], 0, 0⟩, aPeril, ⟨⟨#[110]⟩, 2, [], 0, 6⟩, ⟨⟨#[116]⟩, 3, [], 0, 0⟩],
  [⟨⟨#[116]⟩, 3, [], 0, 0⟩]]

theorem within_calls (x n : Int) (w : World) (hn : 0 < n) (hn2 : n ≤ 1000000000000000000) : Calls Tryz.prog 13 #[.int .i64 x, .int .i64 n] w (fun e w' => ∃ r : Int, e = .returned (.int .i64 r) ∧ 0 ≤ r ∧ r < n ∧ w = w') := by
  go_enter Tryz.func13, Tryz.ntmps13
  go_wp2_with fail
  go_ret
  have a1 := Int.tmod_lt_of_pos x hn
  have a5 := Int.lt_tmod_of_pos x hn
  rw [IntWalk.wrap64_in (x.tmod n + n) (by omega)]
  exact ⟨_, rfl, Int.tmod_nonneg n (by omega), Int.tmod_lt_of_pos (x.tmod n + n) hn, rfl⟩

/-- Strings outside of a block that is written. -/
theorem isStrs_set {w : World} {l : List ByteArray} {g n c : Nat} (h : IsStrs w l (some ⟨g, 0, none⟩) n c) {b : Nat} (hb : g ≠ b) (u : Value) (o : Obj) : IsStrs ((w.setCell ⟨b, 0, none⟩ u).alloc o) l (some ⟨g, 0, none⟩) n c := by
  refine ⟨h.1, h.2.1, h.2.2.1, fun i hi => ?_⟩
  obtain ⟨b', off, e1, e2⟩ := h.2.2.2 i hi
  simp only [Option.some.injEq, Addr.mk.injEq, and_true] at e1
  obtain ⟨rfl, rfl⟩ := e1
  refine ⟨g, 0, rfl, Ext.cell ((Ext.refl _).alloc o) ?_⟩
  rw [World.cell?_setCell_other _ _ _ _ (fun e => hb (by injection e with e1; exact e1.symm))]
  exact e2
def PerilQ (w : World) (e : Ending) (w' : World) : Prop := ∃ g, e = .returned (.agg #[.string aPeril.name, .int .i64 1, .slice (some ⟨g, 0, none⟩) 4 4, .int .i64 0, .int .i64 0]) ∧ IsStrs w' aPeril.words (some ⟨g, 0, none⟩) 4 4 ∧ Ext w w' ∧ w.heap.size < g
/-- Strings that lie in a block of their own. -/
theorem isStrs_block {w : World} {g : Nat} {l : List ByteArray} {t : TypeId} (h : w.heap[g]? = some (.cells (l.map Value.string).toArray t (0, 0))) {n : Nat} (hn : n = l.length) : IsStrs w l (some ⟨g, 0, none⟩) n n := by
  subst hn
  refine ⟨rfl, Nat.le_refl _, Or.inr ⟨g, 0, rfl⟩, fun i hi => ⟨g, 0, rfl, ?_⟩⟩
  rw [Nat.zero_add, blk_cell h]
  simp [hi]
structure AttrV where
  x : Attr
  a : Option Addr
  n : Nat
  c : Nat
def AttrV.cells (v : AttrV) : List Value := [.string v.x.name, .int .i64 v.x.kind, .slice v.a v.n v.c, .int .i64 v.x.lo, .int .i64 v.x.hi]
theorem isStrs_nil (w : World) : IsStrs w [] none 0 0 := ⟨rfl, by omega, Or.inl ⟨rfl, rfl⟩, fun i hi => by simp at hi⟩
theorem isSchema_block {w : World} {g : Nat} {avs : List AttrV} {t : TypeId} (h : w.heap[g]? = some (.cells (avs.flatMap AttrV.cells).toArray t (0, 0))) {n : Nat} (hn : n = avs.length) (hs : ∀ v ∈ avs, IsStrs w v.x.words v.a v.n v.c) : IsSchema w (avs.map (·.x)) (.agg #[.slice (some ⟨g, 0, none⟩) n n]) := by
  subst hn
  refine ⟨some ⟨g, 0, none⟩, _, _, rfl, by simp, Nat.le_refl _, Or.inr ⟨g, 0, rfl⟩, fun i hi => ⟨g, 0, rfl, ?_⟩⟩
  have hi' : i < avs.length := by simpa using hi
  have key : ∀ j (hj : j < 5), w.cell? ⟨g, i * 5 + j, none⟩ = some ((avs[i].cells)[j]'(by simp [AttrV.cells]; omega)) := by
    intro j hj
    rw [blk_cell h]
    have := flatMap_at AttrV.cells 5 (fun _ => rfl) avs i hi' j (by simp [AttrV.cells]; omega)
    simpa using this
  have e : (avs.map (·.x))[i] = avs[i].x := by simp
  rw [e, Nat.zero_add]
  exact ⟨avs[i].a, avs[i].n, avs[i].c, key 0 (by omega), key 1 (by omega), key 2 (by omega), key 3 (by omega), key 4 (by omega), hs _ (List.getElem_mem hi')⟩

set_option maxRecDepth 100000 in
theorem peril_calls (w : World) : Calls Tryz.prog 54 #[] w (PerilQ w) := by
  go_enter Tryz.func54, Tryz.ntmps54
  go_wp2_with fail
  refine bodyPost_ret (v := .agg #[.string aPeril.name, .int .i64 1, .slice (some ⟨w.heap.size + 1, 0, none⟩) 4 4, .int .i64 0, .int .i64 0]) (by simp [results, Tryz.results54, go_sem, aPeril]) rfl ?_
  refine ⟨_, rfl, isStrs_block (l := aPeril.words) (t := 9) ?_ rfl, ((Ext.refl w).alloc _).alloc _, by omega⟩
  have := alloc_new (w.alloc (.cells #[.string aPeril.name, .int .i64 1, .slice (some ⟨w.heap.size + 1, 0, none⟩) 4 4, .int .i64 0, .int .i64 0] 91)) (.cells (aPeril.words.map Value.string).toArray 9)
  simpa [aPeril] using this

theorem isStrs_mask {w : World} {M : List Nat} {l : List ByteArray} {a : Option Addr} {n c : Nat} (h : IsStrs w l a n c) (ha : ∀ b off, a = some ⟨b, off, none⟩ → b ∉ M) : IsStrs (mask w M) l a n c := by
  refine ⟨h.1, h.2.1, h.2.2.1, fun i hi => ?_⟩
  obtain ⟨b, off, e, hc⟩ := h.2.2.2 i hi
  exact ⟨b, off, e, by rw [mask_cell, if_neg (ha b off e)]; exact hc⟩
theorem mask_blk {w : World} {M : List Nat} {g : Nat} {o : Obj} (h : w.heap[g]? = some o) (hg : g ∉ M) : (mask w M).heap[g]? = some o := by
  unfold mask
  simp only [Array.getElem?_mapIdx, h, Option.map_some, hg, if_false]
def SchemaQ (M : List Nat) (w : World) (e : Ending) (w' : World) : Prop := ∃ l v, e = .returned v ∧ l ∈ schemas ∧ IsSchema (mask w' M) l v ∧ Ext w w'
theorem schemaQ_mk {w W : World} {g n : Nat} {l : List Attr} {M : List Nat} (hM : ∀ y ∈ M, y < w.heap.size) (avs : List AttrV) {t : TypeId} (hg : w.heap.size ≤ g) (ha : ∀ v ∈ avs, ∀ b off, v.a = some ⟨b, off, none⟩ → w.heap.size ≤ b) (h : W.heap[g]? = some (.cells (avs.flatMap AttrV.cells).toArray t (0, 0))) (hn : n = avs.length) (hl : avs.map (·.x) = l) (hm : l ∈ schemas) (hs : ∀ v ∈ avs, IsStrs W v.x.words v.a v.n v.c) (hx : Ext w W) :
    SchemaQ M w (.returned (.agg #[.slice (some ⟨g, 0, none⟩) n n])) W :=
  ⟨l, _, rfl, hm, hl ▸ isSchema_block (mask_blk h (fun hh => by have := hM _ hh; omega)) hn (fun v hv => isStrs_mask (hs v hv) (fun b off e hh => by have := hM _ hh; have := ha v hv b off e; omega)), hx⟩

set_option maxRecDepth 100000 in
set_option maxHeartbeats 1000000 in
theorem schema_calls (k : Int) (M : List Nat) (w : World) (hM : ∀ y ∈ M, y < w.heap.size) : Calls Tryz.prog 28 #[.int .i64 k] w (SchemaQ M w) := by
  have HMM := Lib.hid hM
  clear hM
  go_enter Tryz.func28, Tryz.ntmps28
  go_wp2_with fail
  refine (within_calls _ _ _ (by omega) (by omega)).mono ?_
  rintro e w' ⟨r, rfl, h0, h1, rfl⟩
  have h : r = 0 ∨ r = 1 ∨ r = 2 ∨ r = 3 ∨ r = 4 ∨ r = 5 := by omega
  clear h0 h1
  rcases h with rfl | rfl | rfl | rfl | rfl | rfl
  · go_wp2_with fail
    refine (peril_calls _).mono ?_
    rintro e w' ⟨g, rfl, hp, hx, hgn⟩
    simp at hgn
    have hwz := hx.size
    simp at hwz
    have hb := hx.blk (alloc_new w _)
    have hlt := blk_lt hb
    have c0 := blk_cell hb 0
    have cf := blk_free hb
    simp at c0
    have HX := Lib.hid (((Ext.refl w).alloc _).trans hx)
    have HP := Lib.hid hp
    clear hx hb hp
    go_wp2_with fail
    refine bodyPost_ret (v := .agg #[.slice (some ⟨w'.heap.size, 0, none⟩) 3 3]) (by simp [results, Tryz.results28, go_sem, c0, hlt]) rfl ?_
    refine schemaQ_mk HMM.out [⟨aPeril, some ⟨g, 0, none⟩, 4, 4⟩, ⟨⟨⟨#[115, 116, 111, 114, 101, 121, 115]⟩, 2, [], 1, 9⟩, none, 0, 0⟩, ⟨⟨⟨#[97, 108, 97, 114, 109]⟩, 3, [], 0, 0⟩, none, 0, 0⟩] (t := 91) (by omega) (by intro v hv b off he; simp only [List.mem_cons, List.not_mem_nil, or_false] at hv; (repeat' (rcases hv with rfl | hv)) <;> (try subst hv) <;> simp at he <;> omega) ?_ rfl rfl (by simp [schemas]) ?_ ?_
    · simpa [AttrV.cells, aPeril] using alloc_new (w'.setCell ⟨w.heap.size, 0, none⟩ (.slice (some ⟨w'.heap.size, 0, none⟩) 3 3)) (.cells #[.string aPeril.name, .int .i64 1, .slice (some ⟨g, 0, none⟩) 4 4, .int .i64 0, .int .i64 0, .string ⟨#[115, 116, 111, 114, 101, 121, 115]⟩, .int .i64 2, .slice none 0 0, .int .i64 1, .int .i64 9, .string ⟨#[97, 108, 97, 114, 109]⟩, .int .i64 3, .slice none 0 0, .int .i64 0, .int .i64 0] 91)
    · intro v hv
      simp only [List.mem_cons, List.not_mem_nil, or_false] at hv
      rcases hv with rfl | rfl | rfl
      · exact isStrs_set HP.out (by omega) _ _
      · exact isStrs_nil _
      · exact isStrs_nil _
    · exact (HX.out.setAbove (by simp) _).alloc _
  · go_wp2_with fail
    refine bodyPost_ret (v := .agg #[.slice (some ⟨w.heap.size + 1, 0, none⟩) 1 1]) (by simp [results, Tryz.results28, go_sem]) rfl ?_
    refine schemaQ_mk HMM.out [⟨⟨⟨#[110]⟩, 2, [], -5, 20⟩, none, 0, 0⟩] (t := 91) (by omega) (by intro v hv b off he; simp only [List.mem_cons, List.not_mem_nil, or_false] at hv; (repeat' (rcases hv with rfl | hv)) <;> (try subst hv) <;> simp at he <;> omega) ?_ rfl rfl (by simp [schemas]) (by intro v hv; simp at hv; subst hv; exact isStrs_nil _) (((Ext.refl w).alloc _).alloc _)
    simpa [AttrV.cells] using alloc_new (w.alloc (.cells #[.slice (some ⟨w.heap.size + 1, 0, none⟩) 1 1] 69)) (.cells #[.string ⟨#[110]⟩, .int .i64 2, .slice none 0 0, .int .i64 (-5), .int .i64 20] 91)
  · go_wp2_with fail
    refine bodyPost_ret (v := .agg #[.slice (some ⟨w.heap.size + 2, 0, none⟩) 3 3]) (by simp [results, Tryz.results28, go_sem]) rfl ?_
    refine schemaQ_mk HMM.out [⟨⟨⟨#[97]⟩, 3, [], 0, 0⟩, none, 0, 0⟩, ⟨⟨⟨#[114, 111, 108, 101]⟩, 1, [⟨#[99, 114, 101, 119]⟩, ⟨#[103, 117, 101, 115, 116]⟩], 0, 0⟩, some ⟨w.heap.size + 1, 0, none⟩, 2, 2⟩, ⟨⟨⟨#[98]⟩, 3, [], 0, 0⟩, none, 0, 0⟩] (t := 91) (by omega) (by intro v hv b off he; simp only [List.mem_cons, List.not_mem_nil, or_false] at hv; (repeat' (rcases hv with rfl | hv)) <;> (try subst hv) <;> simp at he <;> omega) ?_ rfl rfl (by simp [schemas]) ?_ ((((Ext.refl w).alloc _).alloc _).alloc _)
    · simpa [AttrV.cells] using alloc_new ((w.alloc (.cells #[.slice (some ⟨w.heap.size + 2, 0, none⟩) 3 3] 69)).alloc (.cells #[.string ⟨#[99, 114, 101, 119]⟩, .string ⟨#[103, 117, 101, 115, 116]⟩] 9)) (.cells #[.string ⟨#[97]⟩, .int .i64 3, .slice none 0 0, .int .i64 0, .int .i64 0, .string ⟨#[114, 111, 108, 101]⟩, .int .i64 1, .slice (some ⟨w.heap.size + 1, 0, none⟩) 2 2, .int .i64 0, .int .i64 0, .string ⟨#[98]⟩, .int .i64 3, .slice none 0 0, .int .i64 0, .int .i64 0] 91)
    · intro v hv
      simp only [List.mem_cons, List.not_mem_nil, or_false] at hv
      rcases hv with rfl | rfl | rfl
      · exact isStrs_nil _
      · refine isStrs_block (t := 9) (blk_alloc ?_) rfl
        simpa using alloc_new (w.alloc (.cells #[.slice (some ⟨w.heap.size + 2, 0, none⟩) 3 3] 69)) (.cells #[.string ⟨#[99, 114, 101, 119]⟩, .string ⟨#[103, 117, 101, 115, 116]⟩] 9)
      · exact isStrs_nil _
  · go_wp2_with fail
    refine bodyPost_ret (v := .agg #[.slice (some ⟨w.heap.size + 1, 0, none⟩) 2 2]) (by simp [results, Tryz.results28, go_sem]) rfl ?_
    refine schemaQ_mk HMM.out [⟨⟨⟨#[110]⟩, 2, [], -1000000000, 1000000000⟩, none, 0, 0⟩, ⟨⟨⟨#[116]⟩, 3, [], 0, 0⟩, none, 0, 0⟩] (t := 91) (by omega) (by intro v hv b off he; simp only [List.mem_cons, List.not_mem_nil, or_false] at hv; (repeat' (rcases hv with rfl | hv)) <;> (try subst hv) <;> simp at he <;> omega) ?_ rfl rfl (by simp [schemas]) ?_ (((Ext.refl w).alloc _).alloc _)
    · simpa [AttrV.cells] using alloc_new (w.alloc (.cells #[.slice (some ⟨w.heap.size + 1, 0, none⟩) 2 2] 69)) (.cells #[.string ⟨#[110]⟩, .int .i64 2, .slice none 0 0, .int .i64 (-1000000000), .int .i64 1000000000, .string ⟨#[116]⟩, .int .i64 3, .slice none 0 0, .int .i64 0, .int .i64 0] 91)
    · intro v hv
      simp only [List.mem_cons, List.not_mem_nil, or_false] at hv
      rcases hv with rfl | rfl <;> exact isStrs_nil _
  · go_wp2_with fail
    refine (peril_calls _).mono ?_
    rintro e w' ⟨g, rfl, hp, hx, hgn⟩
    simp at hgn
    have hwz := hx.size
    simp at hwz
    have HO := Lib.hid (hx.blk (alloc_new (w.alloc (.cells #[.slice none 0 0] 69)) (.cells #[.string ⟨#[111, 110, 108, 121]⟩] 9)))
    have hb := hx.blk (blk_alloc (o' := .cells #[.string ⟨#[111, 110, 108, 121]⟩] 9) (alloc_new w (.cells #[.slice none 0 0] 69)))
    have hlt := blk_lt hb
    have c0 := blk_cell hb 0
    have cf := blk_free hb
    simp at c0
    have HX := Lib.hid ((((Ext.refl w).alloc _).alloc _).trans hx)
    have HP := Lib.hid hp
    clear hx hb hp
    go_wp2_with fail
    refine bodyPost_ret (v := .agg #[.slice (some ⟨w'.heap.size, 0, none⟩) 4 4]) (by simp [results, Tryz.results28, go_sem, c0, hlt]) rfl ?_
    refine schemaQ_mk HMM.out [⟨⟨⟨#[111, 110, 101]⟩, 1, [⟨#[111, 110, 108, 121]⟩], 0, 0⟩, some ⟨w.heap.size + 1, 0, none⟩, 1, 1⟩, ⟨aPeril, some ⟨g, 0, none⟩, 4, 4⟩, ⟨⟨⟨#[110]⟩, 2, [], 0, 6⟩, none, 0, 0⟩, ⟨⟨⟨#[116]⟩, 3, [], 0, 0⟩, none, 0, 0⟩] (t := 91) (by omega) (by intro v hv b off he; simp only [List.mem_cons, List.not_mem_nil, or_false] at hv; (repeat' (rcases hv with rfl | hv)) <;> (try subst hv) <;> simp at he <;> omega) ?_ rfl rfl (by simp [schemas]) ?_ ?_
    · simpa [AttrV.cells, aPeril] using alloc_new (w'.setCell ⟨w.heap.size, 0, none⟩ (.slice (some ⟨w'.heap.size, 0, none⟩) 4 4)) (.cells #[.string ⟨#[111, 110, 101]⟩, .int .i64 1, .slice (some ⟨w.heap.size + 1, 0, none⟩) 1 1, .int .i64 0, .int .i64 0, .string aPeril.name, .int .i64 1, .slice (some ⟨g, 0, none⟩) 4 4, .int .i64 0, .int .i64 0, .string ⟨#[110]⟩, .int .i64 2, .slice none 0 0, .int .i64 0, .int .i64 6, .string ⟨#[116]⟩, .int .i64 3, .slice none 0 0, .int .i64 0, .int .i64 0] 91)
    · intro v hv
      simp only [List.mem_cons, List.not_mem_nil, or_false] at hv
      rcases hv with rfl | rfl | rfl | rfl
      · refine isStrs_set (isStrs_block (t := 9) (l := [⟨#[111, 110, 108, 121]⟩]) ?_ rfl) (by simp) _ _
        simpa using HO.out
      · exact isStrs_set HP.out (by omega) _ _
      · exact isStrs_nil _
      · exact isStrs_nil _
    · exact (HX.out.setAbove (by simp) _).alloc _
  · go_wp2_with fail
    refine bodyPost_ret (v := .agg #[.slice (some ⟨w.heap.size + 1, 0, none⟩) 1 1]) (by simp [results, Tryz.results28, go_sem]) rfl ?_
    refine schemaQ_mk HMM.out [⟨⟨⟨#[116]⟩, 3, [], 0, 0⟩, none, 0, 0⟩] (t := 91) (by omega) (by intro v hv b off he; simp only [List.mem_cons, List.not_mem_nil, or_false] at hv; (repeat' (rcases hv with rfl | hv)) <;> (try subst hv) <;> simp at he <;> omega) ?_ rfl rfl (by simp [schemas]) (by intro v hv; simp at hv; subst hv; exact isStrs_nil _) (((Ext.refl w).alloc _).alloc _)
    simpa [AttrV.cells] using alloc_new (w.alloc (.cells #[.slice (some ⟨w.heap.size + 1, 0, none⟩) 1 1] 69)) (.cells #[.string ⟨#[116]⟩, .int .i64 3, .slice none 0 0, .int .i64 0, .int .i64 0] 91)
end Go.Proofs.YtaepiiediblleaaGreatDoor
