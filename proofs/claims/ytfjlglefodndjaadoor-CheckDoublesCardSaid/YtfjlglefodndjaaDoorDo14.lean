/-
  Texts of the claim, joined: Seen, Names2, Names3, Names4, ROrd2, RCls.
-/
import Derived.Test.YtfjlglefodndjaaDoorDo03
import Derived.Test.YtfjlglefodndjaaDoorDo02
import Derived.Test.YtfjlglefodndjaaDoorDo10
import Derived.Test.YtfjlglefodndjaaDoorDo06
import Derived.StringKeys
import Derived.Deep.DeepCutAuto
import Derived.Deep.LoopGhost
import Derived.Laws.Cover1
import Derived.Sort.Walk0
import Derived.Test.YtfjlglefodndjaaDoorDo13
import Derived.Test.YtfjlglefodndjaaDoorDo12
namespace Go.Proofs.YtfjlglefodndjaaDoor
open Go.RowKit

/-- Marks in a row of its own. -/
structure SeenAt (bs : Nat) (L : List Bool) (w : World) : Prop where
  row : ∃ cur : Array Value, w.heap[bs]? = some (.cells cur 4 (0, 0)) ∧ cur.toList = L.map Value.bool
theorem SeenAt.cell {bs : Nat} {L : List Bool} {w : World} (h : SeenAt bs L w) {i : Nat} (hi : i < L.length) : w.cell? ⟨bs, i, none⟩ = some (.bool L[i]) := by
  obtain ⟨cur, h1, h2⟩ := h.row
  rw [blk_cell h1]
  have : cur.toList[i]? = some (.bool L[i]) := by rw [h2]; simp [hi]
  simpa using this
theorem SeenAt.free {bs : Nat} {L : List Bool} {w : World} (h : SeenAt bs L w) (i : Nat) : w.frozen? ⟨bs, i, none⟩ = false := by
  obtain ⟨cur, h1, h2⟩ := h.row
  exact blk_free h1 i
theorem SeenAt.lt {bs : Nat} {L : List Bool} {w : World} (h : SeenAt bs L w) : bs < w.heap.size := by
  obtain ⟨cur, h1, h2⟩ := h.row
  exact blk_lt h1
theorem SeenAt.ext {bs : Nat} {L : List Bool} {w w' : World} (h : SeenAt bs L w) (hx : Ext w w') : SeenAt bs L w' := by
  obtain ⟨cur, h1, h2⟩ := h.row
  exact ⟨cur, hx.blk h1, h2⟩
theorem SeenAt.set {bs : Nat} {L : List Bool} {w : World} (h : SeenAt bs L w) (i : Nat) (b : Bool) : SeenAt bs (L.set i b) (w.setCell ⟨bs, i, none⟩ (.bool b)) := by
  obtain ⟨cur, h1, h2⟩ := h.row
  refine ⟨_, heap_setCell_same w bs i _ _ (.bool b) h1, ?_⟩
  simp [h2, List.map_set]
theorem SeenAt.of_owns {w : World} {base bs n : Nat} (h : w.ownsRow base 4 1 (.slice (some ⟨bs, 0, none⟩) n n) n (madeCells #[Value.bool false] n).toList) : SeenAt bs (List.replicate n false) w := by
  rcases h.2 with ⟨h0, _⟩ | ⟨g, cap, cur, hv, _, hg, _, _, hs, ht⟩
  · simp at h0
  · simp only [Value.slice.injEq, Option.some.injEq, Addr.mk.injEq, and_true, true_and] at hv
    obtain ⟨rfl, rfl⟩ := hv
    refine ⟨cur, hg, ?_⟩
    have e1 : cur.toList.take (n * 1) = cur.toList := List.take_of_length_le (by simp; omega)
    rw [e1] at ht
    rw [ht]
    simp only [madeCells, List.map_replicate]
    apply List.ext_getElem
    · simp
    · intro i h1 h2
      simp [Nat.mod_one]
/-- A mark for each index of o. -/
def marks (o : List Nat) (n : Nat) : List Bool := (List.range n).map fun j => decide (j ∈ o)
theorem marks_nil (n : Nat) : marks [] n = List.replicate n false := by simp [marks, List.map_const']
theorem marks_len (o : List Nat) (n : Nat) : (marks o n).length = n := by simp [marks]
theorem marks_at {o : List Nat} {n j : Nat} (hj : j < n) : (marks o n)[j]'(by rw [marks_len]; exact hj) = decide (j ∈ o) := by simp [marks]
theorem marks_set (o : List Nat) (n p : Nat) : (marks o n).set p true = marks (o ++ [p]) n := by
  apply List.ext_getElem
  · simp [marks]
  · intro j h1 h2
    have hj : j < n := by simpa [marks] using h2
    have e1 : (marks (o ++ [p]) n)[j] = decide (j ∈ o ++ [p]) := marks_at hj
    have e2 : (marks o n)[j]'(by rw [marks_len]; exact hj) = decide (j ∈ o) := marks_at hj
    rw [e1, List.getElem_set]
    by_cases e : p = j
    · subst e; simp
    · rw [if_neg e, e2]
      congr 1
      simp only [List.mem_append, List.mem_singleton]
      exact propext ⟨Or.inl, fun h => h.resolve_right fun h => e h.symm⟩
end Go.Proofs.YtfjlglefodndjaaDoor

namespace Go.Proofs.YtfjlglefodndjaaDoor
open Go.RowKit Go.Maps

theorem uStr2 : Tryd.prog.underlying 9 = some .string := by kernel_rfl
theorem keyedStr : Keyed Tryd.prog 9 := string_keyed uStr2
theorem uSet : Tryd.prog.underlying 75 = some (.map 9 77) := by kernel_rfl
/-- The map is the set of these names. -/
def SetAt (w : World) (b n : Nat) (l : List ByteArray) : Prop := ∃ D : DataW Unit, w.ownsMap Tryd.prog 9 unitElem b n D ∧ SetIs D l
theorem SetAt.chg {w w' : World} {b n : Nat} {l : List ByteArray} {N : List Nat} (h : SetAt w b n l) (hc : Chg N w w') (hn : b ∉ N) : SetAt w' b n l := by
  obtain ⟨D, ⟨es, clock, hb, r⟩, hs⟩ := h
  exact ⟨D, ⟨es, clock, hc.blk hb hn, r⟩, hs⟩
theorem SetAt.lt {w : World} {b n : Nat} {l : List ByteArray} (h : SetAt w b n l) : b < w.heap.size := by
  obtain ⟨D, h, _⟩ := h
  exact h.lt
theorem SetAt.mono {w : World} {b n n' : Nat} {l : List ByteArray} (h : SetAt w b n l) (hn : n ≤ n') : SetAt w b n' l := by
  obtain ⟨D, h, hs⟩ := h
  exact ⟨D, h.mono hn, hs⟩
def CollectQ (b n : Nat) (l : List ByteArray) (w : World) (e : Ending) (w' : World) : Prop := e = .returned (.tuple #[]) ∧ SetAt w' b n l ∧ Chg [b] w w'
theorem Chg.put_map {w w' : World} {b : Nat} (h : w.grownBy w' (some b)) : Chg [b] w w' := ⟨h.os, h.tape, h.output, h.size, fun k hk hn => h.block k hk (fun e => hn (by simp at e; simp [e]))⟩

theorem mask_in2 {w : World} {M : List Nat} {p : Addr} {v : Value} (h : (mask w M).cell? p = some v) : w.cell? p = some v := by
  rw [mask_cell] at h
  split at h
  · cases h
  · exact h
theorem fitsAll_mem : (l : List Ex) → fitsAll l → ∀ x ∈ l, x.fits
  | [], _, x, hx => by simp at hx
  | a :: r, h, x, hx => by
    unfold fitsAll at h
    rcases List.mem_cons.1 hx with rfl | hx
    · exact h.1
    · exact fitsAll_mem r h.2 x hx
theorem fits_parts2 {e : Ex} (h : e.fits) : e.name.size ≤ 1000000000000000 ∧ ∀ x ∈ e.args, x.fits := by
  cases e
  unfold Ex.fits at h
  exact ⟨h.1, fitsAll_mem _ h.2.2⟩

set_option maxRecDepth 100000 in
set_option maxHeartbeats 4000000 in
theorem collect_calls (m : Nat) : m ≤ 1000000 → ∀ (e : Ex) (v : Value) (w : World) (b n : Nat) (l : List ByteArray), e.size ≤ m → e.fits → IsEx (mask w [b]) e v → SetAt w b n l → n + e.size ≤ 1000000 →
    Calls Tryd.prog 37 #[v, .map (some b)] w (CollectQ b (n + e.size) (l ++ namesE e) w) := by
  induction m with
  | zero => intro _ e v w b n l h; have := size_pos e; omega
  | succ m ih =>
    intro hMM e v w b n l hm hfit he hset hn
    obtain ⟨aw, nw, cw, aa, na, ca, rfl, hw, hna, hca, ha, hx⟩ := he.parts
    have hS : e.size = 1 + sizes e.args := e.size_eq
    have hla := length_le_sizes e.args
    obtain ⟨hnm, hfa⟩ := fits_parts2 hfit
    have HFA := Lib.hid hfa
    have hbw := hset.lt
    have HX := Lib.hid ((Ext.refl w).alloc (.cells #[.int .i64 e.op, .string e.name, .slice aw nw cw, .int .i64 e.lo, .int .i64 e.hi, .slice aa na ca] 25))
    have HBX := Lib.hid (alloc_new w (.cells #[.int .i64 e.op, .string e.name, .slice aw nw cw, .int .i64 e.lo, .int .i64 e.hi, .slice aa na ca] 25))
    have HXS := Lib.hid (ExsD.mono (mask_ext [b] HX.out) e.args aa hx)
    have HSET := Lib.hid (hset.chg (HX.out.chg []) (by simp))
    have HNA := Lib.hid hna
    have HNM := Lib.hid (namesE_eq e)
    have HSZ := Lib.hid hS
    have IH := Lib.hid (ih (by omega))
    have hna2 : na ≤ 1000000 := by omega
    have hsz : sizes e.args ≤ m := by omega
    have hn2 : n + 1 + sizes e.args ≤ 1000000 := by omega
    clear hw hna hca ha hx he hset hS hla hfit hfa ih hm hn
    generalize namesE e = NE at *
    generalize e.size = SE at *
    unfold exV
    go_enter Tryd.func37, Tryd.ntmps37
    go_upto_region 1 with fail
    generalize w.alloc (.cells #[.int .i64 e.op, .string e.name, .slice aw nw cw, .int .i64 e.lo, .int .i64 e.hi, .slice aa na ca] 25) = wb at *
    have hz0 := HX.out.size
    obtain ⟨b0, b1, b2, b3, b4, b5, bf⟩ := blk6 HBX.out
    have hlx := blk_lt HBX.out
    by_cases h3 : e.op = 3
    case' pos =>
      have t3 : (e.op == 3) = true := by simp [h3]
      obtain ⟨D, hown, hsi⟩ := HSET.out
      have HOW := Lib.hid hown
      have HNE := Lib.hid (show NE = [e.name] ++ namesL e.args by rw [HNM.out, if_pos h3])
      have HSI := Lib.hid (hsi.put e.name (.agg []))
      clear hown hsi h3
      go_wp2_with (at_mapUpdate; refine wpList_mapUpdate_own _ rfl _ _ _ 75 rfl 9 77 keyedStr uSet (unitElem (H := Unit)) b n D rfl HOW.out ?c0 _ _ _ rfl rfl (Go.WideMaps.keyOf_string_mk uStr2 ?c1) _ [] unitElem_mk ?_)
      case c0 => unfold maxLen; omega
      case c1 => unfold maxLen; omega
      intro w1 hown1 hgrow1
      have hc1 := Chg.put_map hgrow1
      have HC1 := Lib.hid hc1
      obtain ⟨L, hL⟩ : ∃ L, L = l ++ [e.name] := ⟨_, rfl⟩
      have HS1 := Lib.hid (show SetAt w1 b (n + 1) L by rw [hL]; exact ⟨_, hown1, HSI.out⟩)
      have HB1 := Lib.hid (hc1.blk HBX.out (by simp; omega))
      have HNE1 := Lib.hid (show L ++ namesL e.args = l ++ NE by rw [hL, HNE.out, List.append_assoc])
      have hz1 := hc1.size
      clear hown1 hgrow1 hc1 HOW HSI HNE hL b0 b1 b2 b3 b4 b5 bf hlx
      go_upto_region 3 with fail
    case' neg =>
      have t3 : (e.op == 3) = false := by simp [h3]
      have HNE := Lib.hid (show NE = namesL e.args by rw [HNM.out, if_neg h3]; simp)
      have HC1 := Lib.hid (Chg.refl [b] wb)
      obtain ⟨L, hL⟩ : ∃ L, L = l := ⟨_, rfl⟩
      have HS1 := Lib.hid (show SetAt wb b (n + 1) L by rw [hL]; exact HSET.out.mono (Nat.le_succ n))
      have HB1 := HBX
      have HNE1 := Lib.hid (show L ++ namesL e.args = l ++ NE by rw [hL, HNE.out])
      have hz1 := Nat.le_refl wb.heap.size
      clear h3 HNE hL
      go_upto_region 3 with fail
      clear b0 b1 b2 b3 b4 b5 bf hlx
    all_goals
      obtain ⟨b0, b1, b2, b3, b4, b5, bf⟩ := blk6 HB1.out
      have hlx := blk_lt HB1.out
      go_wp2_with fail
      clear b0 b1 b2 b3 b4 b5 bf hlx
      go_loopg [16] na (fun g i wr => ∃ j : Nat, j ≤ na ∧ g = na - j ∧ i = .int .i64 j ∧ SetAt wr b (n + 1 + sizes (e.args.take j)) (L ++ namesL (e.args.take j)) ∧ Chg [b] wb wr)
      case atStart => exact ⟨0, by omega, rfl, rfl, by simpa [sizes, namesL] using HS1.out, HC1.out⟩
      case round =>
        obtain ⟨j, hj, hgj, rfl, hs, hc⟩ := hrel
        have HGN := Lib.hid hgj
        have HSJ := Lib.hid hs
        have HCJ := Lib.hid hc
        have hzr := hc.size
        clear hs hc hgj
        by_cases hlt : j < na
        · have hlt' : j < e.args.length := by have := HNA.out; omega
          have td : decide ((j : Int) < (na : Int)) = true := by simp; omega
          obtain ⟨bb, off, rfl, aw1, nw1, cw1, aa1, na1, ca1, c0, c1, c2, c3, c4, c5, c6⟩ := ExsD.at e.args _ (ExsD.mono HCJ.out.sub _ _ HXS.out) j hlt'
          have HC6 := Lib.hid c6
          replace c0 := mask_in2 c0
          replace c1 := mask_in2 c1
          replace c2 := mask_in2 c2
          replace c3 := mask_in2 c3
          replace c4 := mask_in2 c4
          replace c5 := mask_in2 c5
          have HST := Lib.hid (sizes_take_succ e.args j hlt')
          have HSL := Lib.hid (sizes_take_le e.args (j + 1))
          have HNT := Lib.hid (namesL_take e.args j hlt')
          have HFJ := Lib.hid (HFA.out _ (List.getElem_mem hlt'))
          clear c6
          generalize e.args[j] = a at *
          go_upto_region 6 with fail
          have HXA := Lib.hid ((Ext.refl wr).alloc (.cells #[.int .i64 a.op, .string a.name, .slice aw1 nw1 cw1, .int .i64 a.lo, .int .i64 a.hi, .slice aa1 na1 ca1] 25))
          have HBA := Lib.hid (alloc_new wr (.cells #[.int .i64 a.op, .string a.name, .slice aw1 nw1 cw1, .int .i64 a.lo, .int .i64 a.hi, .slice aa1 na1 ca1] 25))
          clear c0 c1 c2 c3 c4 c5
          generalize wr.alloc (.cells #[.int .i64 a.op, .string a.name, .slice aw1 nw1 cw1, .int .i64 a.lo, .int .i64 a.hi, .slice aa1 na1 ca1] 25) = wa at *
          obtain ⟨a0, a1, a2, a3, a4, a5, af⟩ := blk6 HBA.out
          have hla := blk_lt HBA.out
          go_wp2_with fail
          refine (IH.out a _ _ b _ _ (by have := HST.out; have := HSL.out; omega) HFJ.out (HC6.out.mono (mask_ext [b] HXA.out)) (HSJ.out.chg (HXA.out.chg []) (by simp)) (by have := HST.out; have := HSL.out; omega)).mono ?_
          rintro r w2 ⟨rfl, hs2, hc2⟩
          have HS2 := Lib.hid (show SetAt w2 b (n + 1 + sizes (e.args.take (j + 1))) (L ++ namesL (e.args.take (j + 1))) by
            rw [HST.out, HNT.out, ← List.append_assoc, ← Nat.add_assoc]; exact hs2)
          have HC2 := Lib.hid ((HCJ.out.then (HXA.out.chg _)).then hc2)
          clear hs2 hc2 a0 a1 a2 a3 a4 a5 af hla
          go_wp2_with fail
          go_roundg (na - (j + 1))
          case measure => have := HGN.out; omega
          case rel => exact ⟨j + 1, by omega, rfl, by go_num, HS2.out, HC2.out⟩
        · have HE2 := Lib.hid (show e.args.take j = e.args from List.take_of_length_le (by have := HNA.out; omega))
          have td : decide ((j : Int) < (na : Int)) = false := by simp; omega
          rw [HE2.out] at HSJ
          go_wp2_with fail
          go_end0
          refine ⟨rfl, ?_, (HX.out.chg _).then HCJ.out⟩
          rw [HSZ.out, ← HNE1.out, ← Nat.add_assoc]
          exact HSJ.out
end Go.Proofs.YtfjlglefodndjaaDoor

namespace Go.Proofs.YtfjlglefodndjaaDoor
open Go.RowKit Go.Maps

/-- A row of strings that the call owns. -/
def OwnS (w : World) (base : Nat) (l : List ByteArray) (v : Value) : Prop := w.ownsRow base 9 1 v l.length (l.flatMap strCells)
def PutQ (l : List ByteArray) (w : World) (e : Ending) (w' : World) : Prop := ∃ (a : Option Addr) (c : Nat), e = .returned (.slice a l.length c) ∧ IsStrs w' l a l.length c ∧ Ext w w'
theorem putL_lt {s x : ByteArray} {r : List ByteArray} (h : Op.bytesLess s.toList x.toList = true) : putL s (x :: r) = s :: x :: r := by
  rw [Go.Proofs.bytesLess_eq, decide_eq_true_eq] at h
  rw [putL, if_pos h]
theorem putL_same {s x : ByteArray} {r : List ByteArray} (h1 : Op.bytesLess s.toList x.toList = false) (h2 : (s.toList == x.toList) = true) : putL s (x :: r) = x :: r := by
  rw [Go.Proofs.bytesLess_eq, decide_eq_false_iff_not] at h1
  rw [putL, if_neg h1, if_pos (by simpa using h2)]
theorem putL_gt {s x : ByteArray} {r : List ByteArray} (h1 : Op.bytesLess s.toList x.toList = false) (h2 : (s.toList == x.toList) = false) : putL s (x :: r) = x :: putL s r := by
  rw [Go.Proofs.bytesLess_eq, decide_eq_false_iff_not] at h1
  rw [putL, if_neg h1, if_neg (by simpa using h2)]
theorem drop_at {l : List ByteArray} {k : Nat} (h : k < l.length) : l.drop k = l[k] :: l.drop (k + 1) := by simp

end Go.Proofs.YtfjlglefodndjaaDoor

namespace Go.Proofs.YtfjlglefodndjaaDoor
open Go.RowKit Go.Maps

def gath (m l : List ByteArray) : List ByteArray := m.foldl (fun l s => putL s l) l
theorem gath_append (m k l : List ByteArray) : gath (m ++ k) l = gath k (gath m l) := by simp [gath]
theorem gath_nil (l : List ByteArray) : gath [] l = l := rfl
theorem gath_one (s : ByteArray) (l : List ByteArray) : gath [s] l = putL s l := rfl
theorem gath_len (m l : List ByteArray) : (gath m l).length ≤ m.length + l.length := fold_len m l
mutual
theorem namesE_len : (e : Ex) → (namesE e).length ≤ e.size
  | .mk op name words lo hi args => by
    have := namesL_len args
    rw [namesE, Ex.size, List.length_append]
    split <;> simp <;> omega
theorem namesL_len : (l : List Ex) → (namesL l).length ≤ sizes l
  | [] => by simp [namesL, sizes]
  | e :: r => by
    have := namesE_len e
    have := namesL_len r
    rw [namesL, sizes, List.length_append]; omega
end
theorem namesL_take_len (l : List Ex) (k : Nat) : (namesL (l.take k)).length ≤ sizes l := Nat.le_trans (namesL_len _) (sizes_take_le l k)

end Go.Proofs.YtfjlglefodndjaaDoor

namespace Go.Proofs.YtfjlglefodndjaaDoor
open Go.RowKit

theorem elemIntsR : ElemT 45 3 (.int .i64 0) 1 8 := ⟨by kernel_rfl, by kernel_rfl, rfl, by omega⟩
def natCs (l : List Nat) : List Value := l.map fun (i : Nat) => Value.int .i64 (i : Int)
theorem owns_formR {w : World} {base : Nat} {e : TypeId} {size : Nat} {v : Value} {n : Nat} {xs : List Value} (h : w.ownsRow base e size v n xs) : ∃ a c, v = .slice a n c := by
  rcases h.2 with ⟨rfl, h0⟩ | ⟨g, cap, cur, rfl, _⟩
  · exact ⟨none, 0, by rw [h0]⟩
  · exact ⟨_, _, rfl⟩
/-- The reference's Order: an order, or ErrCycle. -/
def ROrdQ (l : List Dfn) (w : World) (e : Ending) (w' : World) : Prop := Ext w w' ∧ ((Sorts l ∧ ∃ a n c, e = .returned (.tuple #[.slice a n c, .int .i64 0])) ∨ (¬ Sorts l ∧ e = .returned (.tuple #[.slice none 0 0, .int .i64 10])))
def RO1 (w wb : World) (l : List Dfn) (bs n m : Nat) (v : Value) (wr : World) : Prop := ∃ o, m = countOf l - o.length ∧ RInv l o ∧ wr.ownsRow wb.heap.size 3 1 v o.length (natCs o) ∧ SeenAt bs (marks o n) wr ∧ Ext w wr ∧ wb.heap.size ≤ wr.heap.size
/-- Looking for the next: none so far, or found. -/
def RO2 (w3 : World) (l : List Dfn) (o : List Nat) (n : Nat) (nx lf i : Value) (wr : World) : Prop := ∃ k : Nat, i = .int .i64 k ∧ k ≤ n ∧ Ext w3 wr ∧
  ((nx = .int .i64 (-1) ∧ (∃ b : Bool, lf = .bool b ∧ (b = true ↔ ∃ j, j < k ∧ isDef l j = true ∧ j ∉ o)) ∧ ∀ j, j < k → isDef l j = true → j ∉ o → missL l o j ≠ []) ∨ (∃ (p : Nat) (b : Bool), nx = .int .i64 p ∧ lf = .bool b ∧ p < n ∧ isDef l p = true ∧ p ∉ o ∧ missL l o p = []))
def RO3 (w5 : World) (l : List Dfn) (o : List Nat) (nm : List ByteArray) (rd i : Value) (wr : World) : Prop := ∃ (k : Nat) (b : Bool), i = .int .i64 k ∧ k ≤ nm.length ∧ rd = .bool b ∧ (b = true ↔ ∀ s ∈ nm.take k, ∀ d, firstAt l s = some d → d ∈ o) ∧ Ext w5 wr
theorem ro3_step {l : List Dfn} {o : List Nat} {nm : List ByteArray} {k : Nat} (hk : k < nm.length) {b : Bool} (h : b = true ↔ ∀ s ∈ nm.take k, ∀ d, firstAt l s = some d → d ∈ o) {b' : Bool} (hb : b' = true ↔ ∀ d, firstAt l nm[k] = some d → d ∈ o) : (b && b') = true ↔ ∀ s ∈ nm.take (k + 1), ∀ d, firstAt l s = some d → d ∈ o := by
  rw [Bool.and_eq_true, h, hb, List.take_succ_eq_append_getElem hk]
  constructor
  · rintro ⟨h1, h2⟩ s hs d hd
    rcases List.mem_append.1 hs with h3 | h3
    · exact h1 s h3 d hd
    · simp only [List.mem_singleton] at h3; subst h3; exact h2 d hd
  · intro h1
    exact ⟨fun s hs => h1 s (List.mem_append_left _ hs), h1 nm[k] (List.mem_append_right _ (by simp))⟩
end Go.Proofs.YtfjlglefodndjaaDoor

namespace Go.Proofs.YtfjlglefodndjaaDoor
open Go.RowKit

/-! treatyref09.Clauses. -/
theorem refExprB_size {e : Ex} (h : refExprB e = true) : e.size ≤ 100000 := by
  unfold refExprB refSize at h
  simp only [Bool.and_eq_true, decide_eq_true_eq] at h
  omega
theorem clauseB_cond {c : Cla} (h : clauseB c = true) : refExprB c.cond = true := by
  unfold clauseB at h
  simp only [Bool.and_eq_true] at h
  exact h.1.1.2
theorem claErr_valid {s : List Attr} {l : List Cla} {i : Nat} (h : claErr s l i = 0) (hi : i < l.length) : clauseB l[i] = true := by
  unfold claErr at h
  rw [getD_cla hi] at h
  cases hb : clauseB l[i]
  · rw [hb] at h; simp at h
  · rfl
theorem cls_bad {s : List Attr} {l : List Cla} (h : schemaErr s ≠ 0) : clausesErr s l = (0, schemaErr s) := by unfold clausesErr; rw [if_pos h]
theorem cls_many {s : List Attr} {l : List Cla} (h : schemaErr s = 0) (hn : 100 < l.length) : clausesErr s l = (0, 4) := by unfold clausesErr; rw [if_neg (by simp [h]), if_pos hn]
theorem cls_hit {s : List Attr} {l : List Cla} (h : schemaErr s = 0) (hn : ¬ 100 < l.length) {k : Nat} (hk : k < l.length) (h0 : ∀ j, j < k → claErr s l j = 0) (h1 : claErr s l k ≠ 0) : clausesErr s l = (k, claErr s l k) := by
  unfold clausesErr
  have := firstI_hit h1 h0 l.length hk
  rw [if_neg (by simp [h]), if_neg hn, this, if_pos h1]
theorem cls_cycle {s : List Attr} {l : List Cla} (h : schemaErr s = 0) (hn : ¬ 100 < l.length) (h0 : ∀ j, j < l.length → claErr s l j = 0) (hs : ¬ Sorts (l.map Cla.dfn)) : clausesErr s l = (0, 10) := by
  unfold clausesErr
  rw [if_neg (by simp [h]), if_neg hn, firstI_zero _ h0, if_neg (by simp), if_pos hs]
theorem cls_large {s : List Attr} {l : List Cla} (h : schemaErr s = 0) (hn : ¬ 100 < l.length) (h0 : ∀ j, j < l.length → claErr s l j = 0) (hs : Sorts (l.map Cla.dfn)) {k : Nat} (hk : k < l.length) (g0 : ∀ j, j < k → claLarge l j = 0) (g1 : claLarge l k = 4) : clausesErr s l = (k, 4) := by
  unfold clausesErr
  rw [if_neg (by simp [h]), if_neg hn, firstI_zero _ h0, if_neg (by simp), if_neg (by simp [hs]), firstI_hit (by rw [g1]; decide) g0 _ hk, g1]
theorem cls_good {s : List Attr} {l : List Cla} (h : schemaErr s = 0) (hn : ¬ 100 < l.length) (h0 : ∀ j, j < l.length → claErr s l j = 0) (hs : Sorts (l.map Cla.dfn)) (g0 : ∀ j, j < l.length → claLarge l j = 0) : clausesErr s l = (0, 0) := by
  unfold clausesErr
  rw [if_neg (by simp [h]), if_neg hn, firstI_zero _ h0, if_neg (by simp), if_neg (by simp [hs]), firstI_zero _ g0]
def clsV (r : Nat × Int) : Value := .tuple #[.int .i64 (r.1 : Nat), .int .i64 r.2]
theorem givesE_cls {r : Nat × Int} {i : Nat} {e : Int} {w w' : World} (h : r = (i, e)) (hx : Ext w w') : GivesE (clsV r) w (.returned (.tuple #[.int .i64 (i : Nat), .int .i64 e])) w' := by subst h; exact ⟨rfl, hx⟩
--BEGIN DEF C14
def c14V (b off n c k : Nat) (sa : Option Addr) (sn sc : Nat) (nm : ByteArray) (q : Nat) (ab : Bool) : Nat → Value → World → Prop
  | 0, u, _ => u = .agg #[.slice sa sn sc]
  | 1, u, _ => u = .slice (some ⟨b, off, none⟩) n c
  | 2, u, _ => u = .int .i64 k
  | 3, u, _ => u = .pointer (some ⟨b, off + k * 10, none⟩)
  | 4, u, _ => u = .pointer (some ⟨b, off + k * 10 + 1, none⟩)
  | 5, u, _ => u = .string nm
  | 6, u, _ => u = .tuple #[.int .i64 q, .bool ab]
  | 7, u, _ => u = .tuple #[.int .i64 q, .bool ab]
  | 8, u, _ => u = .int .i64 q
  | 9, u, _ => u = .bool ab
  | 10, u, _ => u = .int .i64 q
  | _, u, _ => u = .bool ab
--END DEF C14
def Cla.okk (c : Cla) : Prop := c.ok ∧ wbN c.unl < 1000000000000000
theorem Cla.okk.fit {c : Cla} (h : c.okk) : c.fit := h.1.fit
theorem wbN_of_cnt : (l : List Wb) → cntBacks l ≤ 40 → wbN l ≤ cntBacks l
  | [], _ => by simp [wbN]
  | .mk n c u :: r, h => by
    rw [cntBacks] at h ⊢
    have h1 := wbN_of_cnt u (by omega)
    have h2 := wbN_of_cnt r (by omega)
    rw [wbN]; omega
theorem wbOk_of : (d : Nat) → (l : List Wb) → backsB d l = true → wbFits l → wbOk l
  | _, [], _, _ => by unfold wbOk; trivial
  | d, .mk n c u :: r, h, hf => by
    rw [backsB] at h
    simp only [Bool.and_eq_true] at h
    rw [wbFits] at hf
    have := refExprB_size h.1.1.2
    unfold wbOk
    exact ⟨hf.1, hf.2.1, hf.2.2.1, by omega, wbOk_of _ u h.1.2 hf.2.2.2.2.2.1, wbOk_of d r h.2 hf.2.2.2.2.2.2⟩
theorem Cla.fit.okk {c : Cla} (h : c.fit) (hc : clauseB c = true) : c.okk := by
  have hx := refExprB_size (clauseB_cond hc)
  have key : wbOk c.unl ∧ wbN c.unl ≤ 40 := by
    unfold clauseB at hc
    simp only [Bool.and_eq_true, Bool.or_eq_true, decide_eq_true_eq] at hc
    rcases hc.1.2 with h0 | ⟨⟨_, h1⟩, h2⟩
    · rw [List.eq_nil_of_length_eq_zero h0]
      exact ⟨by unfold wbOk; trivial, by simp [wbN]⟩
    · exact ⟨wbOk_of 16 _ h2 h.2.2.2.2.2, Nat.le_trans (wbN_of_cnt _ h1) h1⟩
  exact ⟨⟨h.1, h.2.1, h.2.2.1, by omega, key.1, by omega⟩, by omega⟩
end Go.Proofs.YtfjlglefodndjaaDoor
