/-
  Texts of the claim, joined: Names2, Names3, Names4, Lay, Iter, Names5.
-/
import Derived.Test.YtfjlglefodndjaaBe06
import Derived.Test.YtfjlglefodndjaaBe08
import Derived.Test.YtfjlglefodndjaaBe02
import Derived.Test.YtfjlglefodndjaaBe03
import Derived.StringKeys
import Derived.Deep.DeepCutAuto
import Derived.Deep.LoopGhost
import Derived.Laws.Cover1
import Derived.Sort.Walk0
import Derived.Shelf.SlGeneric
import Derived.Shelf.SlIter.Nil
import Derived.Shelf.SortM.Plain
import Derived.Shelf.SortM.SortNone
import Derived.Ground.GgzProg
import Derived.Ground.SlgmProg
import Derived.Test.YtfjlglefodndjaaProg
namespace Go.Proofs.Ytfjlglefodndjaa
open Go.RowKit Go.Maps

theorem uStr2 : Try.prog.underlying 9 = some .string := by kernel_rfl
theorem keyedStr : Keyed Try.prog 9 := string_keyed uStr2
theorem uSet : Try.prog.underlying 59 = some (.map 9 60) := by kernel_rfl
/-- The map is the set of these names. -/
def SetAt (w : World) (b n : Nat) (l : List ByteArray) : Prop := ∃ D : DataW Unit, w.ownsMap Try.prog 9 unitElem b n D ∧ SetIs D l
theorem SetAt.chg {w w' : World} {b n : Nat} {l : List ByteArray} {N : List Nat} (h : SetAt w b n l) (hc : Chg N w w') (hn : b ∉ N) : SetAt w' b n l := by
  obtain ⟨D, ⟨es, clock, hb, r⟩, hs⟩ := h
  exact ⟨D, ⟨es, clock, hc.blk hb hn, r⟩, hs⟩
theorem SetAt.lt {w : World} {b n : Nat} {l : List ByteArray} (h : SetAt w b n l) : b < w.heap.size := by
  obtain ⟨D, h, _⟩ := h
  exact h.lt
theorem SetAt.mono {w : World} {b n n' : Nat} {l : List ByteArray} (h : SetAt w b n l) (hn : n ≤ n') : SetAt w b n' l := by
  obtain ⟨D, h, hs⟩ := h
  exact ⟨D, h.mono hn, hs⟩
def CollectQ (b n : Nat) (l : List ByteArray) (w : World) (e : Ending) (w' : World) : Prop := e = .returned (.tuple #[]) ∧ SetAt w' b n l ∧ Chg [b] w w'
theorem Chg.put_map {w w' : World} {b : Nat} (h : w.grownBy w' (some b)) : Chg [b] w w' := ⟨h.os, h.tape, h.output, h.size, fun k hk hn => h.block k hk (fun e => hn (by simp at e; simp [e]))⟩

theorem mask_in2 {w : World} {M : List Nat} {p : Addr} {v : Value} (h : (mask w M).cell? p = some v) : w.cell? p = some v := by
  rw [mask_cell] at h
  split at h
  · cases h
  · exact h
theorem fitsAll_mem : (l : List Ex) → fitsAll l → ∀ x ∈ l, x.fits
  | [], _, x, hx => by simp at hx
  | a :: r, h, x, hx => by
    unfold fitsAll at h
    rcases List.mem_cons.1 hx with rfl | hx
    · exact h.1
    · exact fitsAll_mem r h.2 x hx
theorem fits_parts2 {e : Ex} (h : e.fits) : e.name.size ≤ 1000000000000000 ∧ ∀ x ∈ e.args, x.fits := by
  cases e
  unfold Ex.fits at h
  exact ⟨h.1, fitsAll_mem _ h.2.2⟩

set_option maxRecDepth 100000 in
set_option maxHeartbeats 4000000 in
theorem collect_calls (m : Nat) : m ≤ 1000000 → ∀ (e : Ex) (v : Value) (w : World) (b n : Nat) (l : List ByteArray), e.size ≤ m → e.fits → IsEx (mask w [b]) e v → SetAt w b n l → n + e.size ≤ 1000000 →
    Calls Try.prog 30 #[v, .map (some b)] w (CollectQ b (n + e.size) (l ++ namesE e) w) := by
  induction m with
  | zero => intro _ e v w b n l h; have := size_pos e; omega
  | succ m ih =>
    intro hMM e v w b n l hm hfit he hset hn
    obtain ⟨aw, nw, cw, aa, na, ca, rfl, hw, hna, hca, ha, hx⟩ := he.parts
    have hS : e.size = 1 + sizes e.args := e.size_eq
    have hla := length_le_sizes e.args
    obtain ⟨hnm, hfa⟩ := fits_parts2 hfit
    have HFA := Lib.hid hfa
    have hbw := hset.lt
    have HX := Lib.hid ((Ext.refl w).alloc (.cells #[.int .i64 e.op, .string e.name, .slice aw nw cw, .int .i64 e.lo, .int .i64 e.hi, .slice aa na ca] 33))
    have HBX := Lib.hid (alloc_new w (.cells #[.int .i64 e.op, .string e.name, .slice aw nw cw, .int .i64 e.lo, .int .i64 e.hi, .slice aa na ca] 33))
    have HXS := Lib.hid (ExsD.mono (mask_ext [b] HX.out) e.args aa hx)
    have HSET := Lib.hid (hset.chg (HX.out.chg []) (by simp))
    have HNA := Lib.hid hna
    have HNM := Lib.hid (namesE_eq e)
    have HSZ := Lib.hid hS
    have IH := Lib.hid (ih (by omega))
    have hna2 : na ≤ 1000000 := by omega
    have hsz : sizes e.args ≤ m := by omega
    have hn2 : n + 1 + sizes e.args ≤ 1000000 := by omega
    clear hw hna hca ha hx he hset hS hla hfit hfa ih hm hn
    generalize namesE e = NE at *
    generalize e.size = SE at *
    unfold exV
    go_enter Try.func30, Try.ntmps30
    go_upto_region 1 with fail
    generalize w.alloc (.cells #[.int .i64 e.op, .string e.name, .slice aw nw cw, .int .i64 e.lo, .int .i64 e.hi, .slice aa na ca] 33) = wb at *
    have hz0 := HX.out.size
    obtain ⟨b0, b1, b2, b3, b4, b5, bf⟩ := blk6 HBX.out
    have hlx := blk_lt HBX.out
    by_cases h3 : e.op = 3
    case' pos =>
      have t3 : (e.op == 3) = true := by simp [h3]
      obtain ⟨D, hown, hsi⟩ := HSET.out
      have HOW := Lib.hid hown
      have HNE := Lib.hid (show NE = [e.name] ++ namesL e.args by rw [HNM.out, if_pos h3])
      have HSI := Lib.hid (hsi.put e.name (.agg []))
      clear hown hsi h3
      go_wp2_with (at_mapUpdate; refine wpList_mapUpdate_own _ rfl _ _ _ 59 rfl 9 60 keyedStr uSet (unitElem (H := Unit)) b n D rfl HOW.out ?c0 _ _ _ rfl rfl (Go.WideMaps.keyOf_string_mk uStr2 ?c1) _ [] unitElem_mk ?_)
      case c0 => unfold maxLen; omega
      case c1 => unfold maxLen; omega
      intro w1 hown1 hgrow1
      have hc1 := Chg.put_map hgrow1
      have HC1 := Lib.hid hc1
      obtain ⟨L, hL⟩ : ∃ L, L = l ++ [e.name] := ⟨_, rfl⟩
      have HS1 := Lib.hid (show SetAt w1 b (n + 1) L by rw [hL]; exact ⟨_, hown1, HSI.out⟩)
      have HB1 := Lib.hid (hc1.blk HBX.out (by simp; omega))
      have HNE1 := Lib.hid (show L ++ namesL e.args = l ++ NE by rw [hL, HNE.out, List.append_assoc])
      have hz1 := hc1.size
      clear hown1 hgrow1 hc1 HOW HSI HNE hL b0 b1 b2 b3 b4 b5 bf hlx
      go_upto_region 3 with fail
    case' neg =>
      have t3 : (e.op == 3) = false := by simp [h3]
      have HNE := Lib.hid (show NE = namesL e.args by rw [HNM.out, if_neg h3]; simp)
      have HC1 := Lib.hid (Chg.refl [b] wb)
      obtain ⟨L, hL⟩ : ∃ L, L = l := ⟨_, rfl⟩
      have HS1 := Lib.hid (show SetAt wb b (n + 1) L by rw [hL]; exact HSET.out.mono (Nat.le_succ n))
      have HB1 := HBX
      have HNE1 := Lib.hid (show L ++ namesL e.args = l ++ NE by rw [hL, HNE.out])
      have hz1 := Nat.le_refl wb.heap.size
      clear h3 HNE hL
      go_upto_region 3 with fail
      clear b0 b1 b2 b3 b4 b5 bf hlx
    all_goals
      obtain ⟨b0, b1, b2, b3, b4, b5, bf⟩ := blk6 HB1.out
      have hlx := blk_lt HB1.out
      go_wp2_with fail
      clear b0 b1 b2 b3 b4 b5 bf hlx
      go_loopg [16] na (fun g i wr => ∃ j : Nat, j ≤ na ∧ g = na - j ∧ i = .int .i64 j ∧ SetAt wr b (n + 1 + sizes (e.args.take j)) (L ++ namesL (e.args.take j)) ∧ Chg [b] wb wr)
      case atStart => exact ⟨0, by omega, rfl, rfl, by simpa [sizes, namesL] using HS1.out, HC1.out⟩
      case round =>
        obtain ⟨j, hj, hgj, rfl, hs, hc⟩ := hrel
        have HGN := Lib.hid hgj
        have HSJ := Lib.hid hs
        have HCJ := Lib.hid hc
        have hzr := hc.size
        clear hs hc hgj
        by_cases hlt : j < na
        · have hlt' : j < e.args.length := by have := HNA.out; omega
          have td : decide ((j : Int) < (na : Int)) = true := by simp; omega
          obtain ⟨bb, off, rfl, aw1, nw1, cw1, aa1, na1, ca1, c0, c1, c2, c3, c4, c5, c6⟩ := ExsD.at e.args _ (ExsD.mono HCJ.out.sub _ _ HXS.out) j hlt'
          have HC6 := Lib.hid c6
          replace c0 := mask_in2 c0
          replace c1 := mask_in2 c1
          replace c2 := mask_in2 c2
          replace c3 := mask_in2 c3
          replace c4 := mask_in2 c4
          replace c5 := mask_in2 c5
          have HST := Lib.hid (sizes_take_succ e.args j hlt')
          have HSL := Lib.hid (sizes_take_le e.args (j + 1))
          have HNT := Lib.hid (namesL_take e.args j hlt')
          have HFJ := Lib.hid (HFA.out _ (List.getElem_mem hlt'))
          clear c6
          generalize e.args[j] = a at *
          go_upto_region 6 with fail
          have HXA := Lib.hid ((Ext.refl wr).alloc (.cells #[.int .i64 a.op, .string a.name, .slice aw1 nw1 cw1, .int .i64 a.lo, .int .i64 a.hi, .slice aa1 na1 ca1] 33))
          have HBA := Lib.hid (alloc_new wr (.cells #[.int .i64 a.op, .string a.name, .slice aw1 nw1 cw1, .int .i64 a.lo, .int .i64 a.hi, .slice aa1 na1 ca1] 33))
          clear c0 c1 c2 c3 c4 c5
          generalize wr.alloc (.cells #[.int .i64 a.op, .string a.name, .slice aw1 nw1 cw1, .int .i64 a.lo, .int .i64 a.hi, .slice aa1 na1 ca1] 33) = wa at *
          obtain ⟨a0, a1, a2, a3, a4, a5, af⟩ := blk6 HBA.out
          have hla := blk_lt HBA.out
          go_wp2_with fail
          refine (IH.out a _ _ b _ _ (by have := HST.out; have := HSL.out; omega) HFJ.out (HC6.out.mono (mask_ext [b] HXA.out)) (HSJ.out.chg (HXA.out.chg []) (by simp)) (by have := HST.out; have := HSL.out; omega)).mono ?_
          rintro r w2 ⟨rfl, hs2, hc2⟩
          have HS2 := Lib.hid (show SetAt w2 b (n + 1 + sizes (e.args.take (j + 1))) (L ++ namesL (e.args.take (j + 1))) by
            rw [HST.out, HNT.out, ← List.append_assoc, ← Nat.add_assoc]; exact hs2)
          have HC2 := Lib.hid ((HCJ.out.then (HXA.out.chg _)).then hc2)
          clear hs2 hc2 a0 a1 a2 a3 a4 a5 af hla
          go_wp2_with fail
          go_roundg (na - (j + 1))
          case measure => have := HGN.out; omega
          case rel => exact ⟨j + 1, by omega, rfl, by go_num, HS2.out, HC2.out⟩
        · have HE2 := Lib.hid (show e.args.take j = e.args from List.take_of_length_le (by have := HNA.out; omega))
          have td : decide ((j : Int) < (na : Int)) = false := by simp; omega
          rw [HE2.out] at HSJ
          go_wp2_with fail
          go_end0
          refine ⟨rfl, ?_, (HX.out.chg _).then HCJ.out⟩
          rw [HSZ.out, ← HNE1.out, ← Nat.add_assoc]
          exact HSJ.out
end Go.Proofs.Ytfjlglefodndjaa

namespace Go.Proofs.Ytfjlglefodndjaa
open Go.RowKit Go.Maps

/-- A row of strings that the call owns. -/
def OwnS (w : World) (base : Nat) (l : List ByteArray) (v : Value) : Prop := w.ownsRow base 9 1 v l.length (l.flatMap strCells)
def PutQ (l : List ByteArray) (w : World) (e : Ending) (w' : World) : Prop := ∃ (a : Option Addr) (c : Nat), e = .returned (.slice a l.length c) ∧ IsStrs w' l a l.length c ∧ Ext w w'
theorem putL_lt {s x : ByteArray} {r : List ByteArray} (h : Op.bytesLess s.toList x.toList = true) : putL s (x :: r) = s :: x :: r := by
  rw [Go.Proofs.bytesLess_eq, decide_eq_true_eq] at h
  rw [putL, if_pos h]
theorem putL_same {s x : ByteArray} {r : List ByteArray} (h1 : Op.bytesLess s.toList x.toList = false) (h2 : (s.toList == x.toList) = true) : putL s (x :: r) = x :: r := by
  rw [Go.Proofs.bytesLess_eq, decide_eq_false_iff_not] at h1
  rw [putL, if_neg h1, if_pos (by simpa using h2)]
theorem putL_gt {s x : ByteArray} {r : List ByteArray} (h1 : Op.bytesLess s.toList x.toList = false) (h2 : (s.toList == x.toList) = false) : putL s (x :: r) = x :: putL s r := by
  rw [Go.Proofs.bytesLess_eq, decide_eq_false_iff_not] at h1
  rw [putL, if_neg h1, if_neg (by simpa using h2)]
theorem drop_at {l : List ByteArray} {k : Nat} (h : k < l.length) : l.drop k = l[k] :: l.drop (k + 1) := by simp

set_option maxRecDepth 100000 in
set_option maxHeartbeats 4000000 in
theorem put_calls (s : ByteArray) (l : List ByteArray) (a : Option Addr) (n c : Nat) (w : World) (hs : IsStrs w l a n c) (hn : n ≤ 1000000) :
    Calls Try.prog 35 #[.slice a n c, .string s] w (PutQ (putL s l) w) := by
  have HS := Lib.hid hs
  have HN := Lib.hid hs.1
  have HLEN := Lib.hid (putL_len s l)
  clear hs
  go_enter Try.func35, Try.ntmps35
  go_wp2_with fail
  go_loopg [5, 6, 7] n (fun m u d i wr => ∃ (k : Nat) (out : List ByteArray) (done : Bool), k ≤ n ∧ m = n - k ∧ i = .int .i64 k ∧ d = .bool done ∧ out.length ≤ k + 1 ∧ (done = false → out.length ≤ k) ∧ OwnS wr w.heap.size out u ∧ out ++ (if done then l.drop k else putL s (l.drop k)) = putL s l ∧ Ext w wr)
  case atStart => exact ⟨0, [], false, by omega, rfl, rfl, rfl, by simp, by simp, World.ownsRow_nil _ _ _ _, by simp, Ext.refl _⟩
  case round =>
    obtain ⟨k, out, done, hk, hm, rfl, rfl, hol, hod, hown, heq, hx⟩ := hrel
    have HM := Lib.hid hm
    have HO := Lib.hid hown
    have HEQ := Lib.hid heq
    have HX := Lib.hid hx
    have HOD := Lib.hid hod
    have hz := hx.size
    obtain ⟨ua, uc, rfl, -, -⟩ := strs_of_owns hown [] (by simp)
    clear hm hown heq hx hod
    by_cases hlt : k < n
    · have hlt' : k < l.length := by have := HN.out; omega
      have td : decide ((k : Int) < (n : Int)) = true := by simp; omega
      obtain ⟨b, off, rfl, hcell⟩ := HS.out.2.2.2 k hlt'
      have HC := Lib.hid hcell
      replace hcell := HX.out.cell hcell
      have HD := Lib.hid (drop_at hlt')
      have hbl := block_lt hcell
      simp only at hbl
      generalize l[k] = x at *
      have fin : ∀ (out2 : List ByteArray) (done2 : Bool) (u2 : Value) (w2 : World), out2 ++ (if done2 then x :: l.drop (k + 1) else putL s (x :: l.drop (k + 1))) = putL s l → (done2 = false → Op.bytesLess s.toList x.toList = false ∧ (s.toList == x.toList) = false) → out2 ++ [x] ++ (if done2 then l.drop (k + 1) else putL s (l.drop (k + 1))) = putL s l := by
        intro out2 done2 u2 w2 h1 h2
        cases done2
        · obtain ⟨h3, h4⟩ := h2 rfl
          rw [if_neg (by simp), putL_gt h3 h4] at h1
          rw [if_neg (by simp), ← h1]; simp
        · rw [if_pos rfl] at h1 ⊢
          rw [← h1]; simp
      have HFIN := Lib.hid fin
      clear fin
      have HEQ2 := Lib.hid (show out ++ (if done then x :: l.drop (k + 1) else putL s (x :: l.drop (k + 1))) = putL s l by rw [← HD.out]; exact HEQ.out)
      clear HEQ HD
      cases done
      · have hol2 : out.length ≤ k := HOD.out rfl
        cases h1 : Op.bytesLess s.toList x.toList
        · cases h2 : (s.toList == x.toList)
          case' false =>
            have HNX := Lib.hid (HFIN.out out false (.bool false) wr HEQ2.out (fun _ => ⟨h1, h2⟩))
            go_upto_region 10 with fail
          case' true =>
            have HNX := Lib.hid (HFIN.out out true (.bool false) wr (by rw [if_pos rfl, ← putL_same h1 h2]; have := HEQ2.out; rwa [if_neg (by simp)] at this) (fun h => by cases h))
            go_upto_region 10 with fail
          all_goals
            clear h1 h2
            have hz1 := HX.out.size
            go_wp2_with (at_builtin; refine wpList_append_new elemStr rfl _ _ rfl w.heap.size _ _ _ rfl HO.out _ 1 1 rfl ?c0 rfl ?c1 ?c2 ?c3 ?c4 ?_)
            case c0 => rfl
            case c1 => simp [Value.oneCell']
            case c2 => simp only [maxLen]; omega
            case c3 => omega
            try (case c4 => omega)
            intro v2 w2 hown2 hgrow2
            have HO2 := Lib.hid (show OwnS w2 w.heap.size (out ++ [x]) v2 by unfold OwnS; rw [List.length_append, List.flatMap_append]; exact hown2)
            have HX2 := Lib.hid (HX.out.grown hgrow2 (owns_base HO.out))
            clear hown2 hgrow2 hcell
            go_wp2_with fail
            go_roundg (n - (k + 1))
            case measure => have := HM.out; omega
            case rel => exact ⟨k + 1, out ++ [x], _, by omega, rfl, by go_num, rfl, by simp; omega, fun _ => by simp; omega, HO2.out, HNX.out, HX2.out⟩
        · have HNX := Lib.hid (HFIN.out (out ++ [s]) true (.bool false) wr (by rw [if_pos rfl, List.append_assoc]; have := HEQ2.out; rw [if_neg (by simp), putL_lt h1] at this; simpa using this) (fun h => by cases h))
          have hz1 := HX.out.size
          go_wp2_with (at_builtin; refine wpList_append_new elemStr rfl _ _ rfl w.heap.size _ _ _ rfl HO.out _ 1 1 rfl ?c0 rfl ?c1 ?c2 ?c3 ?c4 ?_)
          case c0 => rfl
          case c1 => simp [Value.oneCell']
          case c2 => simp only [maxLen]; omega
          case c3 => omega
          try (case c4 => omega)
          intro v2 w2 hown2 hgrow2
          have HO2 := Lib.hid (show OwnS w2 w.heap.size (out ++ [s]) v2 by unfold OwnS; rw [List.length_append, List.flatMap_append]; exact hown2)
          have HX2 := Lib.hid (HX.out.grown hgrow2 (owns_base HO.out))
          have hcell2 := HX2.out.cell HC.out
          have hbl2 := block_lt hcell2
          simp only at hbl2
          have hz2 := HX2.out.size
          have hown3 := HO2.out
          unfold OwnS at hown3
          have hl2 : (out ++ [s]).length ≤ k + 1 := by simp; omega
          generalize out ++ [s] = out2 at *
          obtain ⟨ua2, uc2, rfl, -, -⟩ := strs_of_owns hown3 [] (by simp)
          clear hown2 hgrow2 hcell hown3 h1
          go_wp2_with (at_builtin; refine wpList_append_new elemStr rfl _ _ rfl w.heap.size _ _ _ rfl HO2.out _ 1 1 rfl ?d0 rfl ?d1 ?d2 ?d3 ?d4 ?_)
          case d0 => rfl
          case d1 => simp [Value.oneCell']
          case d2 => simp only [maxLen]; omega
          case d3 => omega
          try (case d4 => omega)
          intro v4 w4 hown4 hgrow4
          have HO4 := Lib.hid (show OwnS w4 w.heap.size (out2 ++ [x]) v4 by unfold OwnS; rw [List.length_append, List.flatMap_append]; exact hown4)
          have HX4 := Lib.hid (HX2.out.grown hgrow4 (owns_base HO2.out))
          clear hown4 hgrow4 hcell2
          go_wp2_with fail
          go_roundg (n - (k + 1))
          case measure => have := HM.out; omega
          case rel => exact ⟨k + 1, out2 ++ [x], true, by omega, rfl, by go_num, rfl, by simp; omega, fun h => (by cases h), HO4.out, HNX.out, HX4.out⟩
      · have HNX := Lib.hid (HFIN.out out true (.bool false) wr HEQ2.out (fun h => by cases h))
        have hz1 := HX.out.size
        go_wp2_with (at_builtin; refine wpList_append_new elemStr rfl _ _ rfl w.heap.size _ _ _ rfl HO.out _ 1 1 rfl ?c0 rfl ?c1 ?c2 ?c3 ?c4 ?_)
        case c0 => rfl
        case c1 => simp [Value.oneCell']
        case c2 => simp only [maxLen]; omega
        case c3 => omega
        try (case c4 => omega)
        intro v2 w2 hown2 hgrow2
        have HO2 := Lib.hid (show OwnS w2 w.heap.size (out ++ [x]) v2 by unfold OwnS; rw [List.length_append, List.flatMap_append]; exact hown2)
        have HX2 := Lib.hid (HX.out.grown hgrow2 (owns_base HO.out))
        clear hown2 hgrow2 hcell
        go_wp2_with fail
        go_roundg (n - (k + 1))
        case measure => have := HM.out; omega
        case rel => exact ⟨k + 1, out ++ [x], true, by omega, rfl, by go_num, rfl, by simp; omega, fun h => (by cases h), HO2.out, HNX.out, HX2.out⟩
    · have td : decide ((k : Int) < (n : Int)) = false := by simp; omega
      have HDR := Lib.hid (show l.drop k = [] from List.drop_eq_nil_of_le (by have := HN.out; omega))
      cases done
      · have HEND := Lib.hid (show out ++ [s] = putL s l by have := HEQ.out; rw [if_neg (by simp), HDR.out] at this; exact this)
        go_wp2_with (at_builtin; refine wpList_append_new elemStr rfl _ _ rfl w.heap.size _ _ _ rfl HO.out _ 1 1 rfl ?c0 rfl ?c1 ?c2 ?c3 ?c4 ?_)
        case c0 => rfl
        case c1 => simp [Value.oneCell']
        case c2 => simp only [maxLen]; omega
        case c3 => omega
        try (case c4 => omega)
        intro v2 w2 hown2 hgrow2
        have hown3 : w2.ownsRow w.heap.size 9 1 v2 (out ++ [s]).length ((out ++ [s]).flatMap strCells) := by rw [List.length_append, List.flatMap_append]; exact hown2
        have HX2 := Lib.hid (HX.out.grown hgrow2 (owns_base HO.out))
        obtain ⟨ua2, uc2, rfl, -, hst⟩ := strs_of_owns hown3 [] (by simp)
        have HST := Lib.hid hst
        clear hown2 hgrow2 hown3 hst
        go_wp2_with fail
        go_ret
        refine ⟨ua2, uc2, ?_, ?_, HX2.out⟩
        · rw [← HEND.out]; rfl
        · rw [← HEND.out]; exact HST.out
      · have HEND := Lib.hid (show out = putL s l by have := HEQ.out; rw [if_pos rfl, HDR.out, List.append_nil] at this; exact this)
        obtain ⟨ua2, uc2, e2, -, hst⟩ := strs_of_owns HO.out [] (by simp)
        simp only [Value.slice.injEq, true_and] at e2
        obtain ⟨rfl, rfl⟩ := e2
        have HST := Lib.hid hst
        clear hst
        go_wp2_with fail
        go_ret
        refine ⟨ua, uc, ?_, ?_, HX.out⟩
        · rw [← HEND.out]; rfl
        · rw [← HEND.out]; exact HST.out
end Go.Proofs.Ytfjlglefodndjaa

namespace Go.Proofs.Ytfjlglefodndjaa
open Go.RowKit Go.Maps

def gath (m l : List ByteArray) : List ByteArray := m.foldl (fun l s => putL s l) l
theorem gath_append (m k l : List ByteArray) : gath (m ++ k) l = gath k (gath m l) := by simp [gath]
theorem gath_nil (l : List ByteArray) : gath [] l = l := rfl
theorem gath_one (s : ByteArray) (l : List ByteArray) : gath [s] l = putL s l := rfl
theorem gath_len (m l : List ByteArray) : (gath m l).length ≤ m.length + l.length := fold_len m l
mutual
theorem namesE_len : (e : Ex) → (namesE e).length ≤ e.size
  | .mk op name words lo hi args => by
    have := namesL_len args
    rw [namesE, Ex.size, List.length_append]
    split <;> simp <;> omega
theorem namesL_len : (l : List Ex) → (namesL l).length ≤ sizes l
  | [] => by simp [namesL, sizes]
  | e :: r => by
    have := namesE_len e
    have := namesL_len r
    rw [namesL, sizes, List.length_append]; omega
end
theorem namesL_take_len (l : List Ex) (k : Nat) : (namesL (l.take k)).length ≤ sizes l := Nat.le_trans (namesL_len _) (sizes_take_le l k)

set_option maxRecDepth 100000 in
set_option maxHeartbeats 4000000 in
theorem gather_calls (m : Nat) : m ≤ 1000000 → ∀ (e : Ex) (v : Value) (w : World) (l : List ByteArray) (a : Option Addr) (n c : Nat), e.size ≤ m → IsEx w e v → IsStrs w l a n c → n + e.size ≤ 1000000 →
    Calls Try.prog 20 #[.slice a n c, v] w (PutQ (gath (namesE e) l) w) := by
  induction m with
  | zero => intro _ e v w l a n c h; have := size_pos e; omega
  | succ m ih =>
    intro hMM e v w l a n c hm he hs hn
    obtain ⟨aw, nw, cw, aa, na, ca, rfl, hw, hna, hca, ha, hx⟩ := he.parts
    have hS : e.size = 1 + sizes e.args := e.size_eq
    have hla := length_le_sizes e.args
    have HX := Lib.hid ((Ext.refl w).alloc (.cells #[.int .i64 e.op, .string e.name, .slice aw nw cw, .int .i64 e.lo, .int .i64 e.hi, .slice aa na ca] 33))
    have HBX := Lib.hid (alloc_new w (.cells #[.int .i64 e.op, .string e.name, .slice aw nw cw, .int .i64 e.lo, .int .i64 e.hi, .slice aa na ca] 33))
    have HXS := Lib.hid (ExsD.ext HX.out e.args aa hx)
    have HS := Lib.hid (hs.ext HX.out)
    have HSN := Lib.hid hs.1
    have HNA := Lib.hid hna
    have HNM := Lib.hid (namesE_eq e)
    have IH := Lib.hid (ih (by omega))
    have hna2 : na ≤ 1000000 := by omega
    have hsz : sizes e.args ≤ m := by omega
    have hn2 : n + 1 + sizes e.args ≤ 1000000 := by omega
    clear hw hna hca ha hx he hs hS hla ih hm hn
    generalize namesE e = NE at *
    unfold exV
    go_enter Try.func20, Try.ntmps20
    go_upto_region 1 with fail
    generalize w.alloc (.cells #[.int .i64 e.op, .string e.name, .slice aw nw cw, .int .i64 e.lo, .int .i64 e.hi, .slice aa na ca] 33) = wb at *
    obtain ⟨b0, b1, b2, b3, b4, b5, bf⟩ := blk6 HBX.out
    have hlx := blk_lt HBX.out
    by_cases h3 : e.op = 3
    case' pos =>
      have t3 : (e.op == 3) = true := by simp [h3]
      have HNE := Lib.hid (show gath NE l = gath (namesL e.args) (putL e.name l) by rw [HNM.out, if_pos h3, gath_append, gath_one])
      have hpl := putL_len e.name l
      clear h3
      go_wp2_with fail
      refine (put_calls e.name l a n c _ HS.out (by omega)).mono ?_
      rintro r w1 ⟨a1, c1, rfl, hs1, hx1⟩
      have HS1 := Lib.hid hs1
      have HX1 := Lib.hid hx1
      have HB1 := Lib.hid (hx1.blk HBX.out)
      have hl1 : (putL e.name l).length ≤ n + 1 := by have := HSN.out; omega
      clear hs1 hx1 b0 b1 b2 b3 b4 b5 bf hlx HS HSN hpl
      generalize putL e.name l = l1 at *
      obtain ⟨n1, hn1⟩ : ∃ n1, n1 = l1.length := ⟨_, rfl⟩
      rw [← hn1] at HS1 hl1 ⊢
      clear hn1
      go_upto_region 3 with fail
    case' neg =>
      have t3 : (e.op == 3) = false := by simp [h3]
      have HNE := Lib.hid (show gath NE l = gath (namesL e.args) l by rw [HNM.out, if_neg h3]; simp)
      have HX1 := Lib.hid (Ext.refl wb)
      have HB1 := HBX
      have hl1 : n ≤ n + 1 := by omega
      have HS1 := HS
      clear h3 HS
      obtain ⟨l1, hl1e⟩ : ∃ l1, l1 = l := ⟨_, rfl⟩
      have HNE2 := Lib.hid (show gath NE l = gath (namesL e.args) l1 by rw [hl1e]; exact HNE.out)
      rw [← hl1e] at HS1 HSN
      clear hl1e HNE
      have HNE := HNE2
      clear HNE2
      go_upto_region 3 with fail
      clear b0 b1 b2 b3 b4 b5 bf hlx
    all_goals
      go_wp2_with fail
      go_loopg [0, 5] na (fun g u i wr => ∃ (j : Nat) (al : Option Addr) (nl cl : Nat), j ≤ na ∧ g = na - j ∧ i = .int .i64 j ∧ u = .slice al nl cl ∧ nl ≤ n + 1 + (namesL (e.args.take j)).length ∧ IsStrs wr (gath (namesL (e.args.take j)) l1) al nl cl ∧ Ext wb wr)
      case atStart => exact ⟨0, _, _, _, by omega, rfl, rfl, rfl, by omega, by simpa [namesL, gath_nil] using HS1.out, HX1.out⟩
      case round =>
        obtain ⟨j, al, nl, cl, hj, hgj, rfl, rfl, hnl, hsj, hxj⟩ := hrel
        have HGN := Lib.hid hgj
        have HSJ := Lib.hid hsj
        have HXJ := Lib.hid hxj
        have HNL := Lib.hid hnl
        have HBJ := Lib.hid (hxj.blk HBX.out)
        clear hsj hxj hgj hnl
        obtain ⟨b0, b1, b2, b3, b4, b5, bf⟩ := blk6 HBJ.out
        have hlx := blk_lt HBJ.out
        by_cases hlt : j < na
        · have hlt' : j < e.args.length := by have := HNA.out; omega
          have td : decide ((j : Int) < (na : Int)) = true := by simp; omega
          obtain ⟨bb, off, rfl, aw1, nw1, cw1, aa1, na1, ca1, c0, c1, c2, c3, c4, c5, c6⟩ := ExsD.at e.args _ (ExsD.ext HXJ.out _ _ HXS.out) j hlt'
          have HC6 := Lib.hid c6
          have HST := Lib.hid (sizes_take_succ e.args j hlt')
          have HSL := Lib.hid (sizes_take_le e.args (j + 1))
          have HNT := Lib.hid (namesL_take e.args j hlt')
          have HNE3 := Lib.hid (namesL_len (e.args.take j))
          clear c6
          generalize e.args[j] = a' at *
          go_wp2_with fail
          refine (IH.out a' _ _ _ al nl cl (by have := HST.out; have := HSL.out; omega) HC6.out HSJ.out (by have := HST.out; have := HSL.out; have := HNL.out; have := HNE3.out; omega)).mono ?_
          rintro r w2 ⟨a2, c2', rfl, hs2, hx2⟩
          have HL2 := Lib.hid (show (gath (namesE a') (gath (namesL (e.args.take j)) l1)).length ≤ n + 1 + (namesL (e.args.take (j + 1))).length by
            have h1 := gath_len (namesE a') (gath (namesL (e.args.take j)) l1)
            have h2 := HSJ.out.1
            have h3 := HNL.out
            rw [HNT.out, List.length_append]; omega)
          have HS2 := Lib.hid (show IsStrs w2 (gath (namesL (e.args.take (j + 1))) l1) a2 (gath (namesE a') (gath (namesL (e.args.take j)) l1)).length c2' by rw [HNT.out, gath_append]; exact hs2)
          have HX2 := Lib.hid (HXJ.out.trans hx2)
          clear hs2 hx2 c0 c1 c2 c3 c4 c5 b0 b1 b2 b3 b4 b5 bf hlx
          generalize (gath (namesE a') (gath (namesL (e.args.take j)) l1)).length = n2 at *
          go_wp2_with fail
          go_roundg (na - (j + 1))
          case measure => have := HGN.out; omega
          case rel => exact ⟨j + 1, a2, n2, c2', by omega, rfl, by go_num, rfl, HL2.out, HS2.out, HX2.out⟩
        · have HE2 := Lib.hid (show e.args.take j = e.args from List.take_of_length_le (by have := HNA.out; omega))
          have td : decide ((j : Int) < (na : Int)) = false := by simp; omega
          rw [HE2.out, ← HNE.out] at HSJ
          have HLN := Lib.hid HSJ.out.1
          go_wp2_with fail
          go_ret
          refine ⟨al, cl, ?_, ?_, HX.out.trans HXJ.out⟩
          · rw [← HLN.out]; rfl
          · rw [← HLN.out]; exact HSJ.out

/-- The reference's Names. -/
theorem rnames_calls (e : Ex) (v : Value) (w : World) (hs : e.size ≤ 900000) (he : IsEx w e v) : Calls Try.prog 8 #[v] w (PutQ (refNames (namesE e)) w) := by
  obtain ⟨aw, nw, cw, aa, na, ca, rfl, -, -, -, -, -⟩ := he.parts
  have HX := Lib.hid ((Ext.refl w).alloc (.cells #[.int .i64 e.op, .string e.name, .slice aw nw cw, .int .i64 e.lo, .int .i64 e.hi, .slice aa na ca] 33))
  have HE := Lib.hid (he.ext HX.out)
  clear he
  unfold exV at *
  go_enter Try.func8, Try.ntmps8
  go_wp2_with fail
  refine (gather_calls 900000 (by omega) e _ _ [] none 0 0 hs HE.out ⟨rfl, Nat.le_refl 0, Or.inl ⟨rfl, rfl⟩, fun i hi => by simp at hi⟩ (by omega)).mono ?_
  rintro r w1 ⟨a1, c1, rfl, hs1, hx1⟩
  have HS1 := Lib.hid hs1
  have HX1 := Lib.hid (HX.out.trans hx1)
  clear hs1 hx1
  go_wp2_with fail
  go_ret
  exact ⟨a1, c1, rfl, HS1.out, HX1.out⟩
end Go.Proofs.Ytfjlglefodndjaa

/-
  DERIVED: THE SHELF's CONTRACTS AT THIS DUMP, IN PLAIN WORDS (tools/lay-plain.mjs out of 'TrydLay.lean', which tools/lay-shelf.mjs wrote): THE SAME DECLARATIONS UNDER THE SAME NAMES: 'import', 'namespace', 'open', 'def', 'theorem' AND NOTHING ELSE: no command of the shelf's: FOR A HAND-IN. Each laying: the table of numbers ('.._ren') and one theorem, a field a fact of the dump's own or the kernel's comparison; each contract: ONE APPLICATION.
-/
namespace Go.Proofs
open Go.Shelf
def Try.keys42_ren : Go.Shelf.Ren := ⟨fun | 7 => 32 | 10 => 45 | n => n, fun | 23 => 59 | 26 => 9 | 3 => 60 | 28 => 80 | 0 => 0 | 27 => 79 | 33 => 101 | 4 => 4 | n => n, fun | n => n⟩
theorem Try.keys42 : Go.Proofs.SlLaysZ.n7 Try.prog Try.keys42_ren := {
  mixed := by kernel_rfl
  f7 := ⟨Try.f32.name, by decide, Try.func32.trans (congrArg some (by kernel_rfl))⟩
  f10 := ⟨Try.f45.name, by decide, Try.func45.trans (congrArg some (by kernel_rfl))⟩
  t0 := Try.underlying0
  a0 := Try.isAgg0
  z0 := Try.sizeOf0
  v0 := Try.zeroValue0
  t4 := Try.underlying4
  a4 := Try.isAgg4
  z4 := Try.sizeOf4
  v4 := Try.zeroValue4
  t23 := Try.underlying59
  a23 := Try.isAgg59
  z23 := Try.sizeOf59
  v23 := Try.zeroValue59
  t26 := Try.underlying9
  a26 := Try.isAgg9
  z26 := Try.sizeOf9
  v26 := Try.zeroValue9
  t27 := Try.underlying79
  a27 := Try.isAgg79
  z27 := Try.sizeOf79
  v27 := Try.zeroValue79
  t28 := Try.underlying80
  a28 := Try.isAgg80
  z28 := Try.sizeOf80
  v28 := Try.zeroValue80
  t33 := Try.underlying101
  a33 := Try.isAgg101
  z33 := Try.sizeOf101
  v33 := Try.zeroValue101 }
def Try.sorted41_ren : Go.Shelf.Ren := ⟨fun | 6 => 31 | 8 => 43 | 9 => 44 | 11 => 57 | 13 => 59 | 12 => 58 | 23 => 75 | 24 => 76 | 14 => 66 | 15 => 67 | 16 => 68 | 17 => 69 | 18 => 70 | 19 => 71 | 20 => 72 | 21 => 73 | 22 => 74 | 25 => 86 | 26 => 87 | 27 => 88 | 28 => 89 | 29 => 90 | 30 => 91 | 31 => 95 | n => n, fun | 26 => 9 | 28 => 80 | 24 => 30 | 0 => 0 | 3 => 3 | 37 => 113 | 48 => 129 | 50 => 131 | 4 => 4 | 40 => 122 | 39 => 121 | 45 => 52 | 5 => 5 | 9 => 9 | 51 => 137 | 55 => 141 | 57 => 144 | 58 => 145 | 33 => 101 | n => n, fun | n => n⟩
theorem Try.sorted41 : Go.Proofs.SlLaysZ.n6 Try.prog Try.sorted41_ren := {
  mixed := by kernel_rfl
  f6 := ⟨Try.f31.name, by decide, Try.func31.trans (congrArg some (by kernel_rfl))⟩
  f8 := ⟨Try.f43.name, by decide, Try.func43.trans (congrArg some (by kernel_rfl))⟩
  f11 := ⟨Try.f57.name, by decide, Try.func57.trans (congrArg some (by kernel_rfl))⟩
  t0 := Try.underlying0
  a0 := Try.isAgg0
  z0 := Try.sizeOf0
  v0 := Try.zeroValue0
  t24 := Try.underlying30
  a24 := Try.isAgg30
  z24 := Try.sizeOf30
  v24 := Try.zeroValue30
  t26 := Try.underlying9
  a26 := Try.isAgg9
  z26 := Try.sizeOf9
  v26 := Try.zeroValue9
  t28 := Try.underlying80
  a28 := Try.isAgg80
  z28 := Try.sizeOf80
  v28 := Try.zeroValue80
  i26 := by kernel_rfl }
def Try.sort61_ren : Go.Shelf.Ren := ⟨fun | 6 => 44 | 8 => 59 | 9 => 58 | 19 => 75 | 20 => 76 | 21 => 66 | 22 => 67 | 23 => 68 | 24 => 69 | 25 => 70 | 26 => 71 | 27 => 72 | 28 => 73 | 29 => 74 | 36 => 86 | 31 => 87 | 32 => 88 | 37 => 89 | 38 => 90 | 39 => 91 | 41 => 95 | n => n, fun | 27 => 30 | 29 => 9 | 3 => 3 | 32 => 113 | 26 => 30 | 0 => 0 | 44 => 129 | 46 => 131 | 4 => 4 | 36 => 122 | 35 => 121 | 41 => 52 | 5 => 5 | 9 => 9 | 53 => 137 | 57 => 141 | 63 => 144 | 64 => 145 | n => n, fun | n => n⟩
theorem Try.sort61 : Go.Proofs.SlLaysM.n6 Try.prog Try.sort61_ren := {
  mixed := by kernel_rfl
  f6 := ⟨Try.f44.name, by decide, Try.func44.trans (congrArg some (by kernel_rfl))⟩
  f8 := Try.func59.trans (congrArg some (by kernel_rfl))
  f9 := ⟨Try.f58.name, by decide, Try.func58.trans (congrArg some (by kernel_rfl))⟩
  f19 := Try.func75.trans (congrArg some (by kernel_rfl))
  f20 := Try.func76.trans (congrArg some (by kernel_rfl))
  f21 := ⟨Try.f66.name, by decide, Try.func66.trans (congrArg some (by kernel_rfl))⟩
  f22 := ⟨Try.f67.name, by decide, Try.func67.trans (congrArg some (by kernel_rfl))⟩
  f23 := ⟨Try.f68.name, by decide, Try.func68.trans (congrArg some (by kernel_rfl))⟩
  f24 := ⟨Try.f69.name, by decide, Try.func69.trans (congrArg some (by kernel_rfl))⟩
  f25 := ⟨Try.f70.name, by decide, Try.func70.trans (congrArg some (by kernel_rfl))⟩
  f26 := ⟨Try.f71.name, by decide, Try.func71.trans (congrArg some (by kernel_rfl))⟩
  f27 := ⟨Try.f72.name, by decide, Try.func72.trans (congrArg some (by kernel_rfl))⟩
  f28 := ⟨Try.f73.name, by decide, Try.func73.trans (congrArg some (by kernel_rfl))⟩
  f29 := ⟨Try.f74.name, by decide, Try.func74.trans (congrArg some (by kernel_rfl))⟩
  f31 := Try.func87.trans (congrArg some (by kernel_rfl))
  f32 := Try.func88.trans (congrArg some (by kernel_rfl))
  f36 := ⟨Try.f86.name, by decide, Try.func86.trans (congrArg some (by kernel_rfl))⟩
  f37 := ⟨Try.f89.name, by decide, Try.func89.trans (congrArg some (by kernel_rfl))⟩
  f38 := ⟨Try.f90.name, by decide, Try.func90.trans (congrArg some (by kernel_rfl))⟩
  f39 := ⟨Try.f91.name, by decide, Try.func91.trans (congrArg some (by kernel_rfl))⟩
  f41 := ⟨Try.f95.name, by decide, Try.func95.trans (congrArg some (by kernel_rfl))⟩
  t0 := Try.underlying0
  a0 := Try.isAgg0
  z0 := Try.sizeOf0
  v0 := Try.zeroValue0
  t3 := Try.underlying3
  a3 := Try.isAgg3
  z3 := Try.sizeOf3
  v3 := Try.zeroValue3
  t4 := Try.underlying4
  a4 := Try.isAgg4
  z4 := Try.sizeOf4
  v4 := Try.zeroValue4
  t5 := Try.underlying5
  a5 := Try.isAgg5
  z5 := Try.sizeOf5
  v5 := Try.zeroValue5
  t9 := Try.underlying9
  a9 := Try.isAgg9
  z9 := Try.sizeOf9
  v9 := Try.zeroValue9
  t26 := Try.underlying30
  a26 := Try.isAgg30
  z26 := Try.sizeOf30
  v26 := Try.zeroValue30
  t27 := Try.underlying30
  a27 := Try.isAgg30
  z27 := Try.sizeOf30
  v27 := Try.zeroValue30
  t29 := Try.underlying9
  a29 := Try.isAgg9
  z29 := Try.sizeOf9
  v29 := Try.zeroValue9
  t32 := Try.underlying113
  a32 := Try.isAgg113
  z32 := Try.sizeOf113
  v32 := Try.zeroValue113
  t35 := Try.underlying121
  a35 := Try.isAgg121
  z35 := Try.sizeOf121
  v35 := Try.zeroValue121
  t36 := Try.underlying122
  a36 := Try.isAgg122
  z36 := Try.sizeOf122
  v36 := Try.zeroValue122
  t41 := Try.underlying52
  a41 := Try.isAgg52
  z41 := Try.sizeOf52
  v41 := Try.zeroValue52
  t44 := Try.underlying129
  a44 := Try.isAgg129
  z44 := Try.sizeOf129
  v44 := Try.zeroValue129
  t46 := Try.underlying131
  a46 := Try.isAgg131
  z46 := Try.sizeOf131
  v46 := Try.zeroValue131
  t53 := Try.underlying137
  a53 := Try.isAgg137
  z53 := Try.sizeOf137
  v53 := Try.zeroValue137
  t57 := Try.underlying141
  a57 := Try.isAgg141
  z57 := Try.sizeOf141
  v57 := Try.zeroValue141
  t63 := Try.underlying144
  a63 := Try.isAgg144
  z63 := Try.sizeOf144
  v63 := Try.zeroValue144
  t64 := Try.underlying145
  a64 := Try.isAgg145
  z64 := Try.sizeOf145
  v64 := Try.zeroValue145 }
end Go.Proofs

/-
  slices.Sorted(maps.Keys(m)) at this program: the shelf's contracts, as lay-iter.mjs lays them.
-/
namespace Go.Proofs
open Go.RowKit Go.Maps Go.Sort Go.Shelf

theorem Try.sorts41 (m : Nat) : AnyZ.SortsIn Try.prog Try.sorted41_ren Fence.wide m :=
  ⟨fun blk off cap ss W hH hblk hsz => callsIn_wide.2 (AnyM.slices_Sort_string Try.sort61 blk off cap ss W hH hblk hsz),
   fun p cap W => callsIn_wide.2 (AnyM.slices_Sort_string_none Try.sort61 p cap W)⟩

theorem Try.maps_Keys_42 (mb : Option Nat) (W : World) : CallsIn Fence.wide 5 Try.prog 32 #[.map mb] W fun e w' => e = .returned (.func (.func 45) #[] #[.pointer (some ⟨W.heap.size, 0, none⟩)]) ∧ w' = W.alloc (.cells #[.map mb] 59) :=
  AnyZ.keys_in Try.keys42 Fence.wide 5 trivial rfl mb W

set_option maxHeartbeats 1000000 in
theorem Try.slices_Sorted_keys_41_42 {H : Type} (b nn : Nat) (D0 : DataW H) (R : Value → Option (DataW H × List MemPlace)) (w : World) (hown : w.ownsMap Try.prog 9 R b nn D0) (hmax : Maps.size D0 ≤ maxLen) (hbytes : Maps.size D0 * 16 ≤ 140737488355328) :
    CallsIn Fence.wide 5 Try.prog 31 #[.func (.func 45) #[] #[.pointer (some ⟨w.heap.size, 0, none⟩)]] (w.alloc (.cells #[.map (some b)] 59)) fun e w' => ∃ (v : Value) (ss : List (List UInt8)), e = .returned v ∧ ss.Perm (strKeys D0) ∧
      w'.ownsRow (w.alloc (.cells #[.map (some b)] 59)).heap.size 9 1 v ss.length ((ss.mergeSort (fun x y => decide (x ≤ y))).map encStr) ∧ (v = .slice none 0 0 ↔ ss = []) ∧ Below (w.alloc (.cells #[.map (some b)] 59)).heap.size (w.alloc (.cells #[.map (some b)] 59)) w' := by
  have hbl := hown.lt
  have hseq : SeqGives Fence.wide 2 Try.prog 45 #[.pointer (some ⟨w.heap.size, 0, none⟩)] encStr (fun ss => ss.Perm (strKeys D0)) (Maps.size D0) (w.alloc (.cells #[.map (some b)] 59)) :=
    AnyZ.keys_gives (ρ := Try.keys42_ren) { Try.keys42 with } Fence.wide _ trivial rfl (by omega) w.heap.size b nn D0 _ (by simp) (by simp) (by
      obtain ⟨es, clock, hb, Ft, hs, hD⟩ := hown
      exact ⟨es, clock, (Below.heap_alloc _ _ b hbl).trans hb, Ft, hs, hD⟩)
  exact AnyZ.sorted_in Try.sorted41 Fence.wide 5 trivial trivial trivial trivial rfl (by omega) (Try.sorts41 _) (enters_of Try.func44 (by kernel_rfl) rfl) 45 #[.pointer (some ⟨w.heap.size, 0, none⟩)] trivial (enters_of Try.func45 (by kernel_rfl) rfl) _ _ hmax hbytes _ hseq

end Go.Proofs

namespace Go.Proofs.Ytfjlglefodndjaa
open Go.RowKit Go.Maps Go.Sort Go.Shelf

theorem strs_of_row {w : World} {base : Nat} {l : List ByteArray} {v : Value} {n : Nat} (h : w.ownsRow base 9 1 v n ((l.map (·.data.toList)).map encStr)) (hn : n = l.length) : ∃ a c, v = .slice a l.length c ∧ IsStrs w l a l.length c := by
  subst hn
  have e : (l.map (·.data.toList)).map encStr = l.flatMap strCells := by
    clear h
    induction l with
    | nil => rfl
    | cons x r ih => simp only [List.map_cons, ih, List.flatMap_cons, strCells]; rfl
  rw [e] at h
  obtain ⟨a, c, h1, _, h2⟩ := strs_of_owns h [] (by simp)
  exact ⟨a, c, h1, h2⟩

theorem size_owned {w : World} {b n : Nat} {D : DataW Unit} {R : Value → Option (DataW Unit × List MemPlace)} (h : w.ownsMap Try.prog 9 R b n D) : Maps.size D ≤ n := by
  obtain ⟨es, clock, _, _, hs, rfl⟩ := h
  simp only [Maps.size]
  rw [length_sorted]
  simpa using hs

def PutQF (l : List ByteArray) (w : World) (e : Ending) (w' : World) : Prop := ∃ (a : Option Addr) (c : Nat), e = .returned (.slice a l.length c) ∧ IsStrs w' l a l.length c ∧ Ext w w' ∧ ∀ b off, a = some ⟨b, off, none⟩ → w.heap.size ≤ b
set_option maxRecDepth 100000 in
set_option maxHeartbeats 4000000 in
/-- Names hands back the names in ascending order, each once, in a row of its own. -/
theorem synNamesF_calls (e : Ex) (v : Value) (w : World) (hs : e.size ≤ 900000) (hf : e.fits) (he : IsEx w e v) : Calls Try.prog 15 #[v] w (PutQF (refNames (namesE e)) w) := by
  obtain ⟨aw, nw, cw, aa, na, ca, rfl, -, -, -, -, -⟩ := he.parts
  have HX := Lib.hid (((Ext.refl w).alloc (.cells #[.int .i64 e.op, .string e.name, .slice aw nw cw, .int .i64 e.lo, .int .i64 e.hi, .slice aa na ca] 33)).alloc (.map #[] 0))
  have HSET := Lib.hid (show SetAt ((w.alloc (.cells #[.int .i64 e.op, .string e.name, .slice aw nw cw, .int .i64 e.lo, .int .i64 e.hi, .slice aa na ca] 33)).alloc (.map #[] 0)) (w.heap.size + 1) 0 [] from
    ⟨.map [], by have := World.ownsMap_made (H := Unit) (w.alloc (.cells #[.int .i64 e.op, .string e.name, .slice aw nw cw, .int .i64 e.lo, .int .i64 e.hi, .slice aa na ca] 33)) Try.prog 9 unitElem; simpa using this, setIs_nil⟩)
  have HE := Lib.hid (show IsEx (mask ((w.alloc (.cells #[.int .i64 e.op, .string e.name, .slice aw nw cw, .int .i64 e.lo, .int .i64 e.hi, .slice aa na ca] 33)).alloc (.map #[] 0)) [w.heap.size + 1]) e (exV e.op e.name aw nw cw e.lo e.hi aa na ca) from
    he.mono (fun p q hp => by
      have hb := block_lt hp
      rw [mask_cell, if_neg (by simp; omega)]
      exact HX.out.cell hp))
  have HC := Lib.hid (collect_calls 900000 (by omega) e _ _ _ _ _ hs hf HE.out HSET.out (by omega))
  have hmm := @run_makeMap Try.prog
  rw [List.nil_append] at HC
  clear he HSET HE
  unfold exV at *
  refine (callsIn_wide (n := 6)).1 ?_
  have hfK : Fence.wide.fn 32 := trivial
  have hfS : Fence.wide.fn 31 := trivial
  have hfC : Fence.wide.fn 30 := trivial
  refine callsIn_of_wp Try.func15 rfl trivial ?_ rfl
  simp only [Try.ntmps15, List.size_toArray, List.length_cons, List.length_nil, Nat.reduceAdd, Nat.reduceSub, Array.replicate_succ, Array.replicate_zero, List.push_toArray, List.append_toArray, List.nil_append, List.cons_append]
  gi_wp2_with (first
    | (gi_at_call 30; refine (callsIn_wide.2 HC.out).mono ?_; rintro r w1 ⟨rfl, hset1, hc1⟩)
    | (gi_at_call 32; refine (Try.maps_Keys_42 _ _).mono ?_; rintro r w' ⟨rfl, rfl⟩))
  obtain ⟨D, hown, hsi⟩ := hset1
  have hsize := size_owned hown
  have hwx := hc1.ext HX.out (by simp)
  have HX1 := Lib.hid hwx
  have HSI := Lib.hid hsi
  clear hc1 hsi hwx
  refine (Try.slices_Sorted_keys_41_42 (w.heap.size + 1) _ D _ w1 hown (by unfold maxLen; omega) (by omega)).mono ?_
  rintro r w2 ⟨v, ss, rfl, hS, hrow, -, hb⟩
  have hsame := names_same HSI.out hS
  have hlen : ss.length = (refNames (namesE e)).length := by
    have := congrArg List.length hsame
    simpa using this
  rw [hsame] at hrow
  have hfr := hrow.lt
  obtain ⟨ra, rc, rfl, hst⟩ := strs_of_row hrow hlen
  have HFR := Lib.hid (show ∀ b off, ra = some ⟨b, off, none⟩ → w.heap.size ≤ b by
    intro b off e
    subst e
    have h1 := (hfr b rfl).1
    have h2 := HX1.out.size
    simp at h1
    omega)
  have HST := Lib.hid hst
  have HX2 := Lib.hid ((HX1.out.alloc (.cells #[.map (some (w.heap.size + 1))] 59)).trans hb)
  clear hrow hst hb hS hsame hlen hown hsize hfr
  gi_wp2_with (fail)
  go_ret
  exact ⟨ra, rc, rfl, HST.out, HX2.out, HFR.out⟩
theorem synNames_calls (e : Ex) (v : Value) (w : World) (hs : e.size ≤ 900000) (hf : e.fits) (he : IsEx w e v) : Calls Try.prog 15 #[v] w (PutQ (refNames (namesE e)) w) :=
  (synNamesF_calls e v w hs hf he).mono fun _ _ ⟨a, c, h1, h2, h3, _⟩ => ⟨a, c, h1, h2, h3⟩
end Go.Proofs.Ytfjlglefodndjaa
