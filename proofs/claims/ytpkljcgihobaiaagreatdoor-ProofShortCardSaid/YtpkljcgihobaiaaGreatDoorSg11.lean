/-
  Texts of the claim, joined: Names2, Names3, Names4, ROrd2.
-/
import Derived.StringKeys
import Derived.Laws.Cover1
import Derived.Sort.Walk0
import Derived.Test.YtpkljcgihobaiaaGreatDoorSg10
namespace Go.Proofs.YtpkljcgihobaiaaGreatDoor
open Go.RowKit Go.Maps
theorem uStr2 : Tryz.prog.underlying 9 = some .string := by kernel_rfl
theorem keyedStr : Keyed Tryz.prog 9 := string_keyed uStr2
theorem uSet : Tryz.prog.underlying 136 = some (.map 9 137) := by kernel_rfl
def SetAt (w : World) (b n : Nat) (l : List ByteArray) : Prop := ∃ D : DataW Unit, w.ownsMap Tryz.prog 9 unitElem b n D ∧ SetIs D l
theorem SetAt.chg {w w' : World} {b n : Nat} {l : List ByteArray} {N : List Nat} (h : SetAt w b n l) (hc : Chg N w w') (hn : b ∉ N) : SetAt w' b n l := by
  obtain ⟨D, ⟨es, clock, hb, r⟩, hs⟩ := h
  exact ⟨D, ⟨es, clock, hc.blk hb hn, r⟩, hs⟩
theorem SetAt.lt {w : World} {b n : Nat} {l : List ByteArray} (h : SetAt w b n l) : b < w.heap.size := by
  obtain ⟨D, h, _⟩ := h
  exact h.lt
theorem SetAt.mono {w : World} {b n n' : Nat} {l : List ByteArray} (h : SetAt w b n l) (hn : n ≤ n') : SetAt w b n' l := by
  obtain ⟨D, h, hs⟩ := h
  exact ⟨D, h.mono hn, hs⟩
def CollectQ (b n : Nat) (l : List ByteArray) (w : World) (e : Ending) (w' : World) : Prop := e = .returned (.tuple #[]) ∧ SetAt w' b n l ∧ Chg [b] w w'
theorem Chg.put_map {w w' : World} {b : Nat} (h : w.grownBy w' (some b)) : Chg [b] w w' := ⟨h.os, h.tape, h.output, h.size, fun k hk hn => h.block k hk (fun e => hn (by simp at e; simp [e]))⟩
theorem mask_in2 {w : World} {M : List Nat} {p : Addr} {v : Value} (h : (mask w M).cell? p = some v) : w.cell? p = some v := by
  rw [mask_cell] at h
  split at h
  · cases h
  · exact h
theorem fitsAll_mem : (l : List Ex) → fitsAll l → ∀ x ∈ l, x.fits
  | [], _, x, hx => by simp at hx
  | a :: r, h, x, hx => by
    unfold fitsAll at h
    rcases List.mem_cons.1 hx with rfl | hx
    · exact h.1
    · exact fitsAll_mem r h.2 x hx
theorem fits_parts2 {e : Ex} (h : e.fits) : e.name.size ≤ 1000000000000000 ∧ ∀ x ∈ e.args, x.fits := by
  cases e
  unfold Ex.fits at h
  exact ⟨h.1, fitsAll_mem _ h.2.2⟩
set_option maxRecDepth 100000 in
set_option maxHeartbeats 4000000 in
theorem collect_calls (m : Nat) : m ≤ 1000000 → ∀ (e : Ex) (v : Value) (w : World) (b n : Nat) (l : List ByteArray), e.size ≤ m → e.fits → IsEx (mask w [b]) e v → SetAt w b n l → n + e.size ≤ 1000000 →
    Calls Tryz.prog 114 #[v, .map (some b)] w (CollectQ b (n + e.size) (l ++ namesE e) w) := by
  induction m with
  | zero => intro _ e v w b n l h; have := size_pos e; omega
  | succ m ih =>
    intro hMM e v w b n l hm hfit he hset hn
    obtain ⟨aw, nw, cw, aa, na, ca, rfl, hw, hna, hca, ha, hx⟩ := he.parts
    have hS : e.size = 1 + sizes e.args := e.size_eq
    have hla := length_le_sizes e.args
    obtain ⟨hnm, hfa⟩ := fits_parts2 hfit
    have HFA := Lib.hid hfa
    have hbw := hset.lt
    have HX := Lib.hid ((Ext.refl w).alloc (.cells #[.int .i64 e.op, .string e.name, .slice aw nw cw, .int .i64 e.lo, .int .i64 e.hi, .slice aa na ca] 26))
    have HBX := Lib.hid (alloc_new w (.cells #[.int .i64 e.op, .string e.name, .slice aw nw cw, .int .i64 e.lo, .int .i64 e.hi, .slice aa na ca] 26))
    have HXS := Lib.hid (ExsD.mono (mask_ext [b] HX.out) e.args aa hx)
    have HSET := Lib.hid (hset.chg (HX.out.chg []) (by simp))
    have HNA := Lib.hid hna
    have HNM := Lib.hid (namesE_eq e)
    have HSZ := Lib.hid hS
    have IH := Lib.hid (ih (by omega))
    have hna2 : na ≤ 1000000 := by omega
    have hsz : sizes e.args ≤ m := by omega
    have hn2 : n + 1 + sizes e.args ≤ 1000000 := by omega
    clear hw hna hca ha hx he hset hS hla hfit hfa ih hm hn
    generalize namesE e = NE at *
    generalize e.size = SE at *
    unfold exV
    go_enter Tryz.func114, Tryz.ntmps114
    go_upto_region 1 with fail
    generalize w.alloc (.cells #[.int .i64 e.op, .string e.name, .slice aw nw cw, .int .i64 e.lo, .int .i64 e.hi, .slice aa na ca] 26) = wb at *
    have hz0 := HX.out.size
    obtain ⟨b0, b1, b2, b3, b4, b5, bf⟩ := blk6 HBX.out
    have hlx := blk_lt HBX.out
    by_cases h3 : e.op = 3
    case' pos =>
      have t3 : (e.op == 3) = true := by simp [h3]
      obtain ⟨D, hown, hsi⟩ := HSET.out
      have HOW := Lib.hid hown
      have HNE := Lib.hid (show NE = [e.name] ++ namesL e.args by rw [HNM.out, if_pos h3])
      have HSI := Lib.hid (hsi.put e.name (.agg []))
      clear hown hsi h3
      go_wp2_with (at_mapUpdate; refine wpList_mapUpdate_own _ rfl _ _ _ 136 rfl 9 137 keyedStr uSet (unitElem (H := Unit)) b n D rfl HOW.out ?c0 _ _ _ rfl rfl (Go.WideMaps.keyOf_string_mk uStr2 ?c1) _ [] unitElem_mk ?_)
      case c0 => unfold maxLen; omega
      case c1 => unfold maxLen; omega
      intro w1 hown1 hgrow1
      have hc1 := Chg.put_map hgrow1
      have HC1 := Lib.hid hc1
      obtain ⟨L, hL⟩ : ∃ L, L = l ++ [e.name] := ⟨_, rfl⟩
      have HS1 := Lib.hid (show SetAt w1 b (n + 1) L by rw [hL]; exact ⟨_, hown1, HSI.out⟩)
      have HB1 := Lib.hid (hc1.blk HBX.out (by simp; omega))
      have HNE1 := Lib.hid (show L ++ namesL e.args = l ++ NE by rw [hL, HNE.out, List.append_assoc])
      have hz1 := hc1.size
      clear hown1 hgrow1 hc1 HOW HSI HNE hL b0 b1 b2 b3 b4 b5 bf hlx
      go_upto_region 3 with fail
    case' neg =>
      have t3 : (e.op == 3) = false := by simp [h3]
      have HNE := Lib.hid (show NE = namesL e.args by rw [HNM.out, if_neg h3]; simp)
      have HC1 := Lib.hid (Chg.refl [b] wb)
      obtain ⟨L, hL⟩ : ∃ L, L = l := ⟨_, rfl⟩
      have HS1 := Lib.hid (show SetAt wb b (n + 1) L by rw [hL]; exact HSET.out.mono (Nat.le_succ n))
      have HB1 := HBX
      have HNE1 := Lib.hid (show L ++ namesL e.args = l ++ NE by rw [hL, HNE.out])
      have hz1 := Nat.le_refl wb.heap.size
      clear h3 HNE hL
      go_upto_region 3 with fail
      clear b0 b1 b2 b3 b4 b5 bf hlx
    all_goals
      obtain ⟨b0, b1, b2, b3, b4, b5, bf⟩ := blk6 HB1.out
      have hlx := blk_lt HB1.out
      go_wp2_with fail
      clear b0 b1 b2 b3 b4 b5 bf hlx
      go_loopg [16] na (fun g i wr => ∃ j : Nat, j ≤ na ∧ g = na - j ∧ i = .int .i64 j ∧ SetAt wr b (n + 1 + sizes (e.args.take j)) (L ++ namesL (e.args.take j)) ∧ Chg [b] wb wr)
      case atStart => exact ⟨0, by omega, rfl, rfl, by simpa [sizes, namesL] using HS1.out, HC1.out⟩
      case round =>
        obtain ⟨j, hj, hgj, rfl, hs, hc⟩ := hrel
        have HGN := Lib.hid hgj
        have HSJ := Lib.hid hs
        have HCJ := Lib.hid hc
        have hzr := hc.size
        clear hs hc hgj
        by_cases hlt : j < na
        · have hlt' : j < e.args.length := by have := HNA.out; omega
          have td : decide ((j : Int) < (na : Int)) = true := by simp; omega
          obtain ⟨bb, off, rfl, aw1, nw1, cw1, aa1, na1, ca1, c0, c1, c2, c3, c4, c5, c6⟩ := ExsD.at e.args _ (ExsD.mono HCJ.out.sub _ _ HXS.out) j hlt'
          have HC6 := Lib.hid c6
          replace c0 := mask_in2 c0
          replace c1 := mask_in2 c1
          replace c2 := mask_in2 c2
          replace c3 := mask_in2 c3
          replace c4 := mask_in2 c4
          replace c5 := mask_in2 c5
          have HST := Lib.hid (sizes_take_succ e.args j hlt')
          have HSL := Lib.hid (sizes_take_le e.args (j + 1))
          have HNT := Lib.hid (namesL_take e.args j hlt')
          have HFJ := Lib.hid (HFA.out _ (List.getElem_mem hlt'))
          clear c6
          generalize e.args[j] = a at *
          go_upto_region 6 with fail
          have HXA := Lib.hid ((Ext.refl wr).alloc (.cells #[.int .i64 a.op, .string a.name, .slice aw1 nw1 cw1, .int .i64 a.lo, .int .i64 a.hi, .slice aa1 na1 ca1] 26))
          have HBA := Lib.hid (alloc_new wr (.cells #[.int .i64 a.op, .string a.name, .slice aw1 nw1 cw1, .int .i64 a.lo, .int .i64 a.hi, .slice aa1 na1 ca1] 26))
          clear c0 c1 c2 c3 c4 c5
          generalize wr.alloc (.cells #[.int .i64 a.op, .string a.name, .slice aw1 nw1 cw1, .int .i64 a.lo, .int .i64 a.hi, .slice aa1 na1 ca1] 26) = wa at *
          obtain ⟨a0, a1, a2, a3, a4, a5, af⟩ := blk6 HBA.out
          have hla := blk_lt HBA.out
          go_wp2_with fail
          refine (IH.out a _ _ b _ _ (by have := HST.out; have := HSL.out; omega) HFJ.out (HC6.out.mono (mask_ext [b] HXA.out)) (HSJ.out.chg (HXA.out.chg []) (by simp)) (by have := HST.out; have := HSL.out; omega)).mono ?_
          rintro r w2 ⟨rfl, hs2, hc2⟩
          have HS2 := Lib.hid (show SetAt w2 b (n + 1 + sizes (e.args.take (j + 1))) (L ++ namesL (e.args.take (j + 1))) by
            rw [HST.out, HNT.out, ← List.append_assoc, ← Nat.add_assoc]; exact hs2)
          have HC2 := Lib.hid ((HCJ.out.then (HXA.out.chg _)).then hc2)
          clear hs2 hc2 a0 a1 a2 a3 a4 a5 af hla
          go_wp2_with fail
          go_roundg (na - (j + 1))
          case measure => have := HGN.out; omega
          case rel => exact ⟨j + 1, by omega, rfl, by go_num, HS2.out, HC2.out⟩
        · have HE2 := Lib.hid (show e.args.take j = e.args from List.take_of_length_le (by have := HNA.out; omega))
          have td : decide ((j : Int) < (na : Int)) = false := by simp; omega
          rw [HE2.out] at HSJ
          go_wp2_with fail
          go_end0
          refine ⟨rfl, ?_, (HX.out.chg _).then HCJ.out⟩
          rw [HSZ.out, ← HNE1.out, ← Nat.add_assoc]
          exact HSJ.out
open Go.RowKit Go.Maps
def OwnS (w : World) (base : Nat) (l : List ByteArray) (v : Value) : Prop := w.ownsRow base 9 1 v l.length (l.flatMap strCells)
def PutQ (l : List ByteArray) (w : World) (e : Ending) (w' : World) : Prop := ∃ (a : Option Addr) (c : Nat), e = .returned (.slice a l.length c) ∧ IsStrs w' l a l.length c ∧ Ext w w'
theorem putL_lt {s x : ByteArray} {r : List ByteArray} (h : Op.bytesLess s.toList x.toList = true) : putL s (x :: r) = s :: x :: r := by
  rw [Go.Proofs.bytesLess_eq, decide_eq_true_eq] at h
  rw [putL, if_pos h]
theorem putL_same {s x : ByteArray} {r : List ByteArray} (h1 : Op.bytesLess s.toList x.toList = false) (h2 : (s.toList == x.toList) = true) : putL s (x :: r) = x :: r := by
  rw [Go.Proofs.bytesLess_eq, decide_eq_false_iff_not] at h1
  rw [putL, if_neg h1, if_pos (by simpa using h2)]
theorem putL_gt {s x : ByteArray} {r : List ByteArray} (h1 : Op.bytesLess s.toList x.toList = false) (h2 : (s.toList == x.toList) = false) : putL s (x :: r) = x :: putL s r := by
  rw [Go.Proofs.bytesLess_eq, decide_eq_false_iff_not] at h1
  rw [putL, if_neg h1, if_neg (by simpa using h2)]
theorem drop_at {l : List ByteArray} {k : Nat} (h : k < l.length) : l.drop k = l[k] :: l.drop (k + 1) := by simp
set_option maxRecDepth 100000 in
set_option maxHeartbeats 4000000 in
theorem put_calls (s : ByteArray) (l : List ByteArray) (a : Option Addr) (n c : Nat) (w : World) (hs : IsStrs w l a n c) (hn : n ≤ 1000000) :
    Calls Tryz.prog 123 #[.slice a n c, .string s] w (PutQ (putL s l) w) := by
  have HS := Lib.hid hs
  have HN := Lib.hid hs.1
  have HLEN := Lib.hid (putL_len s l)
  clear hs
  go_enter Tryz.func123, Tryz.ntmps123
  go_wp2_with fail
  go_loopg [5, 6, 7] n (fun m u d i wr => ∃ (k : Nat) (out : List ByteArray) (done : Bool), k ≤ n ∧ m = n - k ∧ i = .int .i64 k ∧ d = .bool done ∧ out.length ≤ k + 1 ∧ (done = false → out.length ≤ k) ∧ OwnS wr w.heap.size out u ∧ out ++ (if done then l.drop k else putL s (l.drop k)) = putL s l ∧ Ext w wr)
  case atStart => exact ⟨0, [], false, by omega, rfl, rfl, rfl, by simp, by simp, World.ownsRow_nil _ _ _ _, by simp, Ext.refl _⟩
  case round =>
    obtain ⟨k, out, done, hk, hm, rfl, rfl, hol, hod, hown, heq, hx⟩ := hrel
    have HM := Lib.hid hm
    have HO := Lib.hid hown
    have HEQ := Lib.hid heq
    have HX := Lib.hid hx
    have HOD := Lib.hid hod
    have hz := hx.size
    obtain ⟨ua, uc, rfl, -, -⟩ := strs_of_owns hown [] (by simp)
    clear hm hown heq hx hod
    by_cases hlt : k < n
    · have hlt' : k < l.length := by have := HN.out; omega
      have td : decide ((k : Int) < (n : Int)) = true := by simp; omega
      obtain ⟨b, off, rfl, hcell⟩ := HS.out.2.2.2 k hlt'
      have HC := Lib.hid hcell
      replace hcell := HX.out.cell hcell
      have HD := Lib.hid (drop_at hlt')
      have hbl := block_lt hcell
      simp only at hbl
      generalize l[k] = x at *
      have fin : ∀ (out2 : List ByteArray) (done2 : Bool) (u2 : Value) (w2 : World), out2 ++ (if done2 then x :: l.drop (k + 1) else putL s (x :: l.drop (k + 1))) = putL s l → (done2 = false → Op.bytesLess s.toList x.toList = false ∧ (s.toList == x.toList) = false) → out2 ++ [x] ++ (if done2 then l.drop (k + 1) else putL s (l.drop (k + 1))) = putL s l := by
        intro out2 done2 u2 w2 h1 h2
        cases done2
        · obtain ⟨h3, h4⟩ := h2 rfl
          rw [if_neg (by simp), putL_gt h3 h4] at h1
          rw [if_neg (by simp), ← h1]; simp
        · rw [if_pos rfl] at h1 ⊢
          rw [← h1]; simp
      have HFIN := Lib.hid fin
      clear fin
      have HEQ2 := Lib.hid (show out ++ (if done then x :: l.drop (k + 1) else putL s (x :: l.drop (k + 1))) = putL s l by rw [← HD.out]; exact HEQ.out)
      clear HEQ HD
      cases done
      · have hol2 : out.length ≤ k := HOD.out rfl
        cases h1 : Op.bytesLess s.toList x.toList
        · cases h2 : (s.toList == x.toList)
          case' false =>
            have HNX := Lib.hid (HFIN.out out false (.bool false) wr HEQ2.out (fun _ => ⟨h1, h2⟩))
            go_upto_region 10 with fail
          case' true =>
            have HNX := Lib.hid (HFIN.out out true (.bool false) wr (by rw [if_pos rfl, ← putL_same h1 h2]; have := HEQ2.out; rwa [if_neg (by simp)] at this) (fun h => by cases h))
            go_upto_region 10 with fail
          all_goals
            clear h1 h2
            have hz1 := HX.out.size
            go_wp2_with (at_builtin; refine wpList_append_new elemStr rfl _ _ rfl w.heap.size _ _ _ rfl HO.out _ 1 1 rfl ?c0 rfl ?c1 ?c2 ?c3 ?c4 ?_)
            case c0 => rfl
            case c1 => simp [Value.oneCell']
            case c2 => simp only [maxLen]; omega
            case c3 => omega
            try (case c4 => omega)
            intro v2 w2 hown2 hgrow2
            have HO2 := Lib.hid (show OwnS w2 w.heap.size (out ++ [x]) v2 by unfold OwnS; rw [List.length_append, List.flatMap_append]; exact hown2)
            have HX2 := Lib.hid (HX.out.grown hgrow2 (owns_base HO.out))
            clear hown2 hgrow2 hcell
            go_wp2_with fail
            go_roundg (n - (k + 1))
            case measure => have := HM.out; omega
            case rel => exact ⟨k + 1, out ++ [x], _, by omega, rfl, by go_num, rfl, by simp; omega, fun _ => by simp; omega, HO2.out, HNX.out, HX2.out⟩
        · have HNX := Lib.hid (HFIN.out (out ++ [s]) true (.bool false) wr (by rw [if_pos rfl, List.append_assoc]; have := HEQ2.out; rw [if_neg (by simp), putL_lt h1] at this; simpa using this) (fun h => by cases h))
          have hz1 := HX.out.size
          go_wp2_with (at_builtin; refine wpList_append_new elemStr rfl _ _ rfl w.heap.size _ _ _ rfl HO.out _ 1 1 rfl ?c0 rfl ?c1 ?c2 ?c3 ?c4 ?_)
          case c0 => rfl
          case c1 => simp [Value.oneCell']
          case c2 => simp only [maxLen]; omega
          case c3 => omega
          try (case c4 => omega)
          intro v2 w2 hown2 hgrow2
          have HO2 := Lib.hid (show OwnS w2 w.heap.size (out ++ [s]) v2 by unfold OwnS; rw [List.length_append, List.flatMap_append]; exact hown2)
          have HX2 := Lib.hid (HX.out.grown hgrow2 (owns_base HO.out))
          have hcell2 := HX2.out.cell HC.out
          have hbl2 := block_lt hcell2
          simp only at hbl2
          have hz2 := HX2.out.size
          have hown3 := HO2.out
          unfold OwnS at hown3
          have hl2 : (out ++ [s]).length ≤ k + 1 := by simp; omega
          generalize out ++ [s] = out2 at *
          obtain ⟨ua2, uc2, rfl, -, -⟩ := strs_of_owns hown3 [] (by simp)
          clear hown2 hgrow2 hcell hown3 h1
          go_wp2_with (at_builtin; refine wpList_append_new elemStr rfl _ _ rfl w.heap.size _ _ _ rfl HO2.out _ 1 1 rfl ?d0 rfl ?d1 ?d2 ?d3 ?d4 ?_)
          case d0 => rfl
          case d1 => simp [Value.oneCell']
          case d2 => simp only [maxLen]; omega
          case d3 => omega
          try (case d4 => omega)
          intro v4 w4 hown4 hgrow4
          have HO4 := Lib.hid (show OwnS w4 w.heap.size (out2 ++ [x]) v4 by unfold OwnS; rw [List.length_append, List.flatMap_append]; exact hown4)
          have HX4 := Lib.hid (HX2.out.grown hgrow4 (owns_base HO2.out))
          clear hown4 hgrow4 hcell2
          go_wp2_with fail
          go_roundg (n - (k + 1))
          case measure => have := HM.out; omega
          case rel => exact ⟨k + 1, out2 ++ [x], true, by omega, rfl, by go_num, rfl, by simp; omega, fun h => (by cases h), HO4.out, HNX.out, HX4.out⟩
      · have HNX := Lib.hid (HFIN.out out true (.bool false) wr HEQ2.out (fun h => by cases h))
        have hz1 := HX.out.size
        go_wp2_with (at_builtin; refine wpList_append_new elemStr rfl _ _ rfl w.heap.size _ _ _ rfl HO.out _ 1 1 rfl ?c0 rfl ?c1 ?c2 ?c3 ?c4 ?_)
        case c0 => rfl
        case c1 => simp [Value.oneCell']
        case c2 => simp only [maxLen]; omega
        case c3 => omega
        try (case c4 => omega)
        intro v2 w2 hown2 hgrow2
        have HO2 := Lib.hid (show OwnS w2 w.heap.size (out ++ [x]) v2 by unfold OwnS; rw [List.length_append, List.flatMap_append]; exact hown2)
        have HX2 := Lib.hid (HX.out.grown hgrow2 (owns_base HO.out))
        clear hown2 hgrow2 hcell
        go_wp2_with fail
        go_roundg (n - (k + 1))
        case measure => have := HM.out; omega
        case rel => exact ⟨k + 1, out ++ [x], true, by omega, rfl, by go_num, rfl, by simp; omega, fun h => (by cases h), HO2.out, HNX.out, HX2.out⟩
    · have td : decide ((k : Int) < (n : Int)) = false := by simp; omega
      have HDR := Lib.hid (show l.drop k = [] from List.drop_eq_nil_of_le (by have := HN.out; omega))
      cases done
      · have HEND := Lib.hid (show out ++ [s] = putL s l by have := HEQ.out; rw [if_neg (by simp), HDR.out] at this; exact this)
        go_wp2_with (at_builtin; refine wpList_append_new elemStr rfl _ _ rfl w.heap.size _ _ _ rfl HO.out _ 1 1 rfl ?c0 rfl ?c1 ?c2 ?c3 ?c4 ?_)
        case c0 => rfl
        case c1 => simp [Value.oneCell']
        case c2 => simp only [maxLen]; omega
        case c3 => omega
        try (case c4 => omega)
        intro v2 w2 hown2 hgrow2
        have hown3 : w2.ownsRow w.heap.size 9 1 v2 (out ++ [s]).length ((out ++ [s]).flatMap strCells) := by rw [List.length_append, List.flatMap_append]; exact hown2
        have HX2 := Lib.hid (HX.out.grown hgrow2 (owns_base HO.out))
        obtain ⟨ua2, uc2, rfl, -, hst⟩ := strs_of_owns hown3 [] (by simp)
        have HST := Lib.hid hst
        clear hown2 hgrow2 hown3 hst
        go_wp2_with fail
        go_ret
        refine ⟨ua2, uc2, ?_, ?_, HX2.out⟩
        · rw [← HEND.out]; rfl
        · rw [← HEND.out]; exact HST.out
      · have HEND := Lib.hid (show out = putL s l by have := HEQ.out; rw [if_pos rfl, HDR.out, List.append_nil] at this; exact this)
        obtain ⟨ua2, uc2, e2, -, hst⟩ := strs_of_owns HO.out [] (by simp)
        simp only [Value.slice.injEq, true_and] at e2
        obtain ⟨rfl, rfl⟩ := e2
        have HST := Lib.hid hst
        clear hst
        go_wp2_with fail
        go_ret
        refine ⟨ua, uc, ?_, ?_, HX.out⟩
        · rw [← HEND.out]; rfl
        · rw [← HEND.out]; exact HST.out
open Go.RowKit Go.Maps
def gath (m l : List ByteArray) : List ByteArray := m.foldl (fun l s => putL s l) l
theorem gath_append (m k l : List ByteArray) : gath (m ++ k) l = gath k (gath m l) := by simp [gath]
theorem gath_nil (l : List ByteArray) : gath [] l = l := rfl
theorem gath_one (s : ByteArray) (l : List ByteArray) : gath [s] l = putL s l := rfl
theorem gath_len (m l : List ByteArray) : (gath m l).length ≤ m.length + l.length := fold_len m l
mutual
theorem namesE_len : (e : Ex) → (namesE e).length ≤ e.size
  | .mk op name words lo hi args => by
    have := namesL_len args
    rw [namesE, Ex.size, List.length_append]
    split <;> simp <;> omega
theorem namesL_len : (l : List Ex) → (namesL l).length ≤ sizes l
  | [] => by simp [namesL, sizes]
  | e :: r => by
    have := namesE_len e
    have := namesL_len r
    rw [namesL, sizes, List.length_append]; omega
end
set_option maxRecDepth 100000 in
set_option maxHeartbeats 4000000 in
theorem gather_calls (m : Nat) : m ≤ 1000000 → ∀ (e : Ex) (v : Value) (w : World) (l : List ByteArray) (a : Option Addr) (n c : Nat), e.size ≤ m → IsEx w e v → IsStrs w l a n c → n + e.size ≤ 1000000 →
    Calls Tryz.prog 107 #[.slice a n c, v] w (PutQ (gath (namesE e) l) w) := by
  induction m with
  | zero => intro _ e v w l a n c h; have := size_pos e; omega
  | succ m ih =>
    intro hMM e v w l a n c hm he hs hn
    obtain ⟨aw, nw, cw, aa, na, ca, rfl, hw, hna, hca, ha, hx⟩ := he.parts
    have hS : e.size = 1 + sizes e.args := e.size_eq
    have hla := length_le_sizes e.args
    have HX := Lib.hid ((Ext.refl w).alloc (.cells #[.int .i64 e.op, .string e.name, .slice aw nw cw, .int .i64 e.lo, .int .i64 e.hi, .slice aa na ca] 26))
    have HBX := Lib.hid (alloc_new w (.cells #[.int .i64 e.op, .string e.name, .slice aw nw cw, .int .i64 e.lo, .int .i64 e.hi, .slice aa na ca] 26))
    have HXS := Lib.hid (ExsD.ext HX.out e.args aa hx)
    have HS := Lib.hid (hs.ext HX.out)
    have HSN := Lib.hid hs.1
    have HNA := Lib.hid hna
    have HNM := Lib.hid (namesE_eq e)
    have IH := Lib.hid (ih (by omega))
    have hna2 : na ≤ 1000000 := by omega
    have hsz : sizes e.args ≤ m := by omega
    have hn2 : n + 1 + sizes e.args ≤ 1000000 := by omega
    clear hw hna hca ha hx he hs hS hla ih hm hn
    generalize namesE e = NE at *
    unfold exV
    go_enter Tryz.func107, Tryz.ntmps107
    go_upto_region 1 with fail
    generalize w.alloc (.cells #[.int .i64 e.op, .string e.name, .slice aw nw cw, .int .i64 e.lo, .int .i64 e.hi, .slice aa na ca] 26) = wb at *
    obtain ⟨b0, b1, b2, b3, b4, b5, bf⟩ := blk6 HBX.out
    have hlx := blk_lt HBX.out
    by_cases h3 : e.op = 3
    case' pos =>
      have t3 : (e.op == 3) = true := by simp [h3]
      have HNE := Lib.hid (show gath NE l = gath (namesL e.args) (putL e.name l) by rw [HNM.out, if_pos h3, gath_append, gath_one])
      have hpl := putL_len e.name l
      clear h3
      go_wp2_with fail
      refine (put_calls e.name l a n c _ HS.out (by omega)).mono ?_
      rintro r w1 ⟨a1, c1, rfl, hs1, hx1⟩
      have HS1 := Lib.hid hs1
      have HX1 := Lib.hid hx1
      have HB1 := Lib.hid (hx1.blk HBX.out)
      have hl1 : (putL e.name l).length ≤ n + 1 := by have := HSN.out; omega
      clear hs1 hx1 b0 b1 b2 b3 b4 b5 bf hlx HS HSN hpl
      generalize putL e.name l = l1 at *
      obtain ⟨n1, hn1⟩ : ∃ n1, n1 = l1.length := ⟨_, rfl⟩
      rw [← hn1] at HS1 hl1 ⊢
      clear hn1
      go_upto_region 3 with fail
    case' neg =>
      have t3 : (e.op == 3) = false := by simp [h3]
      have HNE := Lib.hid (show gath NE l = gath (namesL e.args) l by rw [HNM.out, if_neg h3]; simp)
      have HX1 := Lib.hid (Ext.refl wb)
      have HB1 := HBX
      have hl1 : n ≤ n + 1 := by omega
      have HS1 := HS
      clear h3 HS
      obtain ⟨l1, hl1e⟩ : ∃ l1, l1 = l := ⟨_, rfl⟩
      have HNE2 := Lib.hid (show gath NE l = gath (namesL e.args) l1 by rw [hl1e]; exact HNE.out)
      rw [← hl1e] at HS1 HSN
      clear hl1e HNE
      have HNE := HNE2
      clear HNE2
      go_upto_region 3 with fail
      clear b0 b1 b2 b3 b4 b5 bf hlx
    all_goals
      go_wp2_with fail
      go_loopg [0, 5] na (fun g u i wr => ∃ (j : Nat) (al : Option Addr) (nl cl : Nat), j ≤ na ∧ g = na - j ∧ i = .int .i64 j ∧ u = .slice al nl cl ∧ nl ≤ n + 1 + (namesL (e.args.take j)).length ∧ IsStrs wr (gath (namesL (e.args.take j)) l1) al nl cl ∧ Ext wb wr)
      case atStart => exact ⟨0, _, _, _, by omega, rfl, rfl, rfl, by omega, by simpa [namesL, gath_nil] using HS1.out, HX1.out⟩
      case round =>
        obtain ⟨j, al, nl, cl, hj, hgj, rfl, rfl, hnl, hsj, hxj⟩ := hrel
        have HGN := Lib.hid hgj
        have HSJ := Lib.hid hsj
        have HXJ := Lib.hid hxj
        have HNL := Lib.hid hnl
        have HBJ := Lib.hid (hxj.blk HBX.out)
        clear hsj hxj hgj hnl
        obtain ⟨b0, b1, b2, b3, b4, b5, bf⟩ := blk6 HBJ.out
        have hlx := blk_lt HBJ.out
        by_cases hlt : j < na
        · have hlt' : j < e.args.length := by have := HNA.out; omega
          have td : decide ((j : Int) < (na : Int)) = true := by simp; omega
          obtain ⟨bb, off, rfl, aw1, nw1, cw1, aa1, na1, ca1, c0, c1, c2, c3, c4, c5, c6⟩ := ExsD.at e.args _ (ExsD.ext HXJ.out _ _ HXS.out) j hlt'
          have HC6 := Lib.hid c6
          have HST := Lib.hid (sizes_take_succ e.args j hlt')
          have HSL := Lib.hid (sizes_take_le e.args (j + 1))
          have HNT := Lib.hid (namesL_take e.args j hlt')
          have HNE3 := Lib.hid (namesL_len (e.args.take j))
          clear c6
          generalize e.args[j] = a' at *
          go_wp2_with fail
          refine (IH.out a' _ _ _ al nl cl (by have := HST.out; have := HSL.out; omega) HC6.out HSJ.out (by have := HST.out; have := HSL.out; have := HNL.out; have := HNE3.out; omega)).mono ?_
          rintro r w2 ⟨a2, c2', rfl, hs2, hx2⟩
          have HL2 := Lib.hid (show (gath (namesE a') (gath (namesL (e.args.take j)) l1)).length ≤ n + 1 + (namesL (e.args.take (j + 1))).length by
            have h1 := gath_len (namesE a') (gath (namesL (e.args.take j)) l1)
            have h2 := HSJ.out.1
            have h3 := HNL.out
            rw [HNT.out, List.length_append]; omega)
          have HS2 := Lib.hid (show IsStrs w2 (gath (namesL (e.args.take (j + 1))) l1) a2 (gath (namesE a') (gath (namesL (e.args.take j)) l1)).length c2' by rw [HNT.out, gath_append]; exact hs2)
          have HX2 := Lib.hid (HXJ.out.trans hx2)
          clear hs2 hx2 c0 c1 c2 c3 c4 c5 b0 b1 b2 b3 b4 b5 bf hlx
          generalize (gath (namesE a') (gath (namesL (e.args.take j)) l1)).length = n2 at *
          go_wp2_with fail
          go_roundg (na - (j + 1))
          case measure => have := HGN.out; omega
          case rel => exact ⟨j + 1, a2, n2, c2', by omega, rfl, by go_num, rfl, HL2.out, HS2.out, HX2.out⟩
        · have HE2 := Lib.hid (show e.args.take j = e.args from List.take_of_length_le (by have := HNA.out; omega))
          have td : decide ((j : Int) < (na : Int)) = false := by simp; omega
          rw [HE2.out, ← HNE.out] at HSJ
          have HLN := Lib.hid HSJ.out.1
          go_wp2_with fail
          go_ret
          refine ⟨al, cl, ?_, ?_, HX.out.trans HXJ.out⟩
          · rw [← HLN.out]; rfl
          · rw [← HLN.out]; exact HSJ.out
theorem rnames_calls (e : Ex) (v : Value) (w : World) (hs : e.size ≤ 900000) (he : IsEx w e v) : Calls Tryz.prog 86 #[v] w (PutQ (refNames (namesE e)) w) := by
  obtain ⟨aw, nw, cw, aa, na, ca, rfl, -, -, -, -, -⟩ := he.parts
  have HX := Lib.hid ((Ext.refl w).alloc (.cells #[.int .i64 e.op, .string e.name, .slice aw nw cw, .int .i64 e.lo, .int .i64 e.hi, .slice aa na ca] 26))
  have HE := Lib.hid (he.ext HX.out)
  clear he
  unfold exV at *
  go_enter Tryz.func86, Tryz.ntmps86
  go_wp2_with fail
  refine (gather_calls 900000 (by omega) e _ _ [] none 0 0 hs HE.out ⟨rfl, Nat.le_refl 0, Or.inl ⟨rfl, rfl⟩, fun i hi => by simp at hi⟩ (by omega)).mono ?_
  rintro r w1 ⟨a1, c1, rfl, hs1, hx1⟩
  have HS1 := Lib.hid hs1
  have HX1 := Lib.hid (HX.out.trans hx1)
  clear hs1 hx1
  go_wp2_with fail
  go_ret
  exact ⟨a1, c1, rfl, HS1.out, HX1.out⟩
open Go.RowKit
theorem elemIntsR : ElemT 22 3 (.int .i64 0) 1 8 := ⟨by kernel_rfl, by kernel_rfl, rfl, by omega⟩
def natCs (l : List Nat) : List Value := l.map fun (i : Nat) => Value.int .i64 (i : Int)
theorem owns_formR {w : World} {base : Nat} {e : TypeId} {size : Nat} {v : Value} {n : Nat} {xs : List Value} (h : w.ownsRow base e size v n xs) : ∃ a c, v = .slice a n c := by
  rcases h.2 with ⟨rfl, h0⟩ | ⟨g, cap, cur, rfl, _⟩
  · exact ⟨none, 0, by rw [h0]⟩
  · exact ⟨_, _, rfl⟩
def ROrdQ (l : List Dfn) (w : World) (e : Ending) (w' : World) : Prop := Ext w w' ∧ ((Sorts l ∧ ∃ a n c, e = .returned (.tuple #[.slice a n c, .int .i64 0])) ∨ (¬ Sorts l ∧ e = .returned (.tuple #[.slice none 0 0, .int .i64 10])))
def RO1 (w wb : World) (l : List Dfn) (bs n m : Nat) (v : Value) (wr : World) : Prop := ∃ o, m = countOf l - o.length ∧ RInv l o ∧ wr.ownsRow wb.heap.size 3 1 v o.length (natCs o) ∧ SeenAt bs (marks o n) wr ∧ Ext w wr ∧ wb.heap.size ≤ wr.heap.size
def RO2 (w3 : World) (l : List Dfn) (o : List Nat) (n : Nat) (nx lf i : Value) (wr : World) : Prop := ∃ k : Nat, i = .int .i64 k ∧ k ≤ n ∧ Ext w3 wr ∧
  ((nx = .int .i64 (-1) ∧ (∃ b : Bool, lf = .bool b ∧ (b = true ↔ ∃ j, j < k ∧ isDef l j = true ∧ j ∉ o)) ∧ ∀ j, j < k → isDef l j = true → j ∉ o → missL l o j ≠ []) ∨ (∃ (p : Nat) (b : Bool), nx = .int .i64 p ∧ lf = .bool b ∧ p < n ∧ isDef l p = true ∧ p ∉ o ∧ missL l o p = []))
def RO3 (w5 : World) (l : List Dfn) (o : List Nat) (nm : List ByteArray) (rd i : Value) (wr : World) : Prop := ∃ (k : Nat) (b : Bool), i = .int .i64 k ∧ k ≤ nm.length ∧ rd = .bool b ∧ (b = true ↔ ∀ s ∈ nm.take k, ∀ d, firstAt l s = some d → d ∈ o) ∧ Ext w5 wr
theorem ro3_step {l : List Dfn} {o : List Nat} {nm : List ByteArray} {k : Nat} (hk : k < nm.length) {b : Bool} (h : b = true ↔ ∀ s ∈ nm.take k, ∀ d, firstAt l s = some d → d ∈ o) {b' : Bool} (hb : b' = true ↔ ∀ d, firstAt l nm[k] = some d → d ∈ o) : (b && b') = true ↔ ∀ s ∈ nm.take (k + 1), ∀ d, firstAt l s = some d → d ∈ o := by
  rw [Bool.and_eq_true, h, hb, List.take_succ_eq_append_getElem hk]
  constructor
  · rintro ⟨h1, h2⟩ s hs d hd
    rcases List.mem_append.1 hs with h3 | h3
    · exact h1 s h3 d hd
    · simp only [List.mem_singleton] at h3; subst h3; exact h2 d hd
  · intro h1
    exact ⟨fun s hs => h1 s (List.mem_append_left _ hs), h1 nm[k] (List.mem_append_right _ (by simp))⟩
set_option maxRecDepth 100000 in
set_option maxHeartbeats 8000000 in
theorem rOrder_calls (l : List Cla) (a : Option Addr) (n c : Nat) (w : World) (hl : IsClas w l a n c) (hn : n ≤ 1000) (hsz : ∀ x ∈ l, x.cond.size ≤ 100000) :
    Calls Tryz.prog 60 #[.slice a n c] w (ROrdQ (l.map Cla.dfn) w) := by
  have HL := Lib.hid hl
  have HN := Lib.hid hl.len
  have HSZ := Lib.hid hsz
  obtain ⟨dl, hdl⟩ : ∃ dl, dl = l.map Cla.dfn := ⟨_, rfl⟩
  have HDL := Lib.hid hdl
  have HDN := Lib.hid (show n = dl.length by rw [hdl]; simpa using hl.len)
  rw [← hdl]
  clear hl hsz hdl
  obtain ⟨i0, hi0, hz0, hz1, hz2⟩ := info_parts elemBools.info
  have hcn : countOf dl ≤ 1000 := by
    have h1 := HDN.out
    have h2 : countOf dl ≤ dl.length := by
      unfold countOf
      have := List.length_filter_le (isDef dl) (List.range dl.length)
      simpa using this
    omega
  go_enter Tryz.func60, Tryz.ntmps60
  go_wp2_with (at_make; refine wpList_make_full _ rfl _ _ 122 rfl w.heap.size 4 i0 (.bool false) 1 elemBools.ht hi0 hz0 hz1 _ _ _ _ n rfl rfl rfl rfl ?c1 ?c2 ?c3 ?_)
  case c1 => rw [hz2]; omega
  case c2 => unfold maxLen; omega
  case c3 => omega
  intro wb hown3 hgrow3
  obtain ⟨bs, hbs⟩ : ∃ bs, bs = w.heap.size := ⟨_, rfl⟩
  rw [← hbs] at hown3 ⊢
  have HS3 := Lib.hid (SeenAt.of_owns hown3)
  have HX3 := Lib.hid (show Ext w wb from ⟨hgrow3.os, hgrow3.tape, hgrow3.output, hgrow3.size, fun k hk => hgrow3.block k hk (by simp)⟩)
  have HBS := Lib.hid hbs
  have hbl := HS3.out.lt
  clear hown3 hgrow3 hbs
  go_wp2_with fail
  go_loopg [4] (countOf dl) (RO1 w wb dl bs n)
  case atStart => exact ⟨[], rfl, RInv.start dl, World.ownsRow_nil _ _ _ _, by rw [marks_nil]; exact HS3.out, HX3.out, Nat.le_refl _⟩
  case round =>
    obtain ⟨o, hm, hinv, hown, hseen, hx, hwbz⟩ := hrel
    obtain ⟨wo, rfl⟩ : ∃ wo : World, wo = wr := ⟨_, rfl⟩
    have HM := Lib.hid hm
    have HI := Lib.hid hinv
    have HO := Lib.hid hown
    have HSE := Lib.hid hseen
    have HX := Lib.hid hx
    obtain ⟨oa, oc, hov⟩ := owns_formR hown
    subst hov
    have hol := hinv.le
    clear hm hinv hown hseen hx HS3 HX3
    go_wp2_with fail
    go_loopw [6, 7, 8] (RO2 wo dl o n) (fun _ _ i _ => n - (intOf i).toNat)
    case atStart => exact ⟨0, rfl, by omega, Ext.refl _, Or.inl ⟨rfl, ⟨false, rfl, by simp⟩, fun j h => by omega⟩⟩
    case round =>
      obtain ⟨k, rfl, hk, hxk, hcase⟩ := hrel
      obtain ⟨wk, rfl⟩ : ∃ wk : World, wk = wr := ⟨_, rfl⟩
      have HXK := Lib.hid hxk
      clear hxk
      rcases hcase with ⟨rfl, ⟨b, rfl, hb⟩, hno⟩ | ⟨p, b, rfl, rfl, hpn, hpd, hpo, hpm⟩
      · have HB := Lib.hid hb
        have HNO := Lib.hid hno
        clear hb hno
        by_cases hkn : k < n
        · have hkl : k < l.length := by have := HN.out; omega
          have t1 : decide ((k : Int) < (n : Int)) = true := decide_eq_true (by omega)
          obtain ⟨cb, coff, v, rfl, hcla, hrow⟩ := (HL.out.ext (HX.out.trans HXK.out)).at hkl
          obtain ⟨c0, c1, c2, c3, c4, c5, c6, c7, c8, c9⟩ := hrow.ten
          have HEX := Lib.hid hcla.2.2.1
          have hkk := hcla.1
          have HID := Lib.hid (show isDef dl k = (l[k].kind == 1) by rw [HDL.out]; exact isDef_dfn hkl)
          have HUS := Lib.hid (show usesAt dl k = refNames (namesE l[k].cond) by rw [HDL.out]; exact usesAt_dfn hkl)
          rw [hkk] at c0
          have hLk : k < (marks o n).length := by rw [marks_len]; exact hkn
          have hcs := (HSE.out.ext HXK.out).cell hLk
          rw [marks_at hkn] at hcs
          have ti0 : (0 : Int) ≤ (k : Int) := by omega
          have ti1 : (k : Int) < (n : Int) := by omega
          clear hcla hrow hkk c1 c8 c9
          by_cases hgo : isDef dl k = true ∧ k ∉ o
          · obtain ⟨hgd, hgo⟩ := hgo
            have tk : (l[k].kind != 1) = false := by rw [HID.out] at hgd; simp [bne, hgd]
            have tdone : decide (k ∈ o) = false := decide_eq_false hgo
            rw [tdone] at hcs
            clear tdone
            have HGO := Lib.hid hgo
            have HGD := Lib.hid hgd
            clear hgo hgd
            go_wp2_with fail
            obtain ⟨nm, hnm⟩ : ∃ nm, nm = refNames (namesE l[k].cond) := ⟨_, rfl⟩
            have hszk := HSZ.out _ (List.getElem_mem hkl)
            refine (rnames_calls l[k].cond _ _ (by omega) HEX.out).mono ?_
            rw [← hnm]
            rw [← hnm] at HUS
            rintro r w5 ⟨na, nc, rfl, hst, hx5⟩
            have HST := Lib.hid hst
            have HX5 := Lib.hid (HXK.out.trans hx5)
            have hnml : nm.length ≤ 100000 := by
              rw [hnm]
              have h1 : (refNames (namesE l[k].cond)).length ≤ (namesE l[k].cond).length := by have := fold_len (namesE l[k].cond) []; simpa [refNames] using this
              exact Nat.le_trans h1 (Nat.le_trans (namesE_len _) hszk)
            clear hst hx5 hnm c0 c2 c3 c4 c5 c6 c7 hcs HEX
            go_wp2_with fail
            go_loopw [9, 11] (RO3 w5 dl o nm) (fun _ i _ => nm.length - (intOf i).toNat)
            case atStart => exact ⟨0, true, rfl, by omega, rfl, by simp, Ext.refl _⟩
            case round =>
              obtain ⟨q, rd, rfl, hq, rfl, hrd, hxq⟩ := hrel
              have HRD := Lib.hid hrd
              have HXQ := Lib.hid hxq
              clear hrd hxq
              by_cases hqn : q < nm.length
              · have t2 : decide ((q : Int) < (nm.length : Int)) = true := decide_eq_true (by omega)
                obtain ⟨nb, noff, rfl, cn⟩ := (HST.out.ext HXQ.out).2.2.2 q hqn
                have hXall := HX.out.trans (HX5.out.trans HXQ.out)
                have HDC := Lib.hid (rDef_calls l _ n c nm[q] wr (HL.out.ext hXall) (by omega))
                have HFA := Lib.hid (show firstAt dl nm[q] = defAt l nm[q] by rw [HDL.out]; exact firstAt_dfn l _)
                cases hda : defAt l nm[q] with
                | none =>
                  rw [hda, optV_none] at HDC
                  have HN3 := Lib.hid (ro3_step hqn HRD.out (b' := true) (by rw [HFA.out, hda]; simp))
                  clear hda hXall
                  cases rd
                  all_goals
                    go_wp2_with fail
                    refine HDC.out.mono ?_
                    rintro r w6 ⟨rfl, rfl⟩
                    go_wp2_with fail
                    go_roundw
                    case rel => exact ⟨q + 1, _, by go_num, by omega, rfl, HN3.out, HXQ.out⟩
                    case measure => simp [intOf]; omega
                | some d =>
                  rw [hda, optV_some] at HDC
                  have hdl' : d < l.length := by
                    have := hda
                    unfold defAt at this
                    rw [List.findIdx?_eq_some_iff_getElem] at this
                    exact this.1
                  have hdn : d < n := by have := HN.out; omega
                  have HN3 := Lib.hid (ro3_step hqn HRD.out (b' := decide (d ∈ o)) (by rw [HFA.out, hda]; simp))
                  have hLd : d < (marks o n).length := by rw [marks_len]; exact hdn
                  have hcd := (HSE.out.ext (HX5.out.trans HXQ.out)).cell hLd
                  rw [marks_at hdn] at hcd
                  have td0 : (0 : Int) ≤ (d : Int) := by omega
                  have td1 : (d : Int) < (n : Int) := by omega
                  clear hda hXall
                  cases rd
                  all_goals
                    go_wp2_with fail
                    refine HDC.out.mono ?_
                    rintro r w6 ⟨rfl, rfl⟩
                    go_wp2_with fail
                    go_roundw
                    case rel => exact ⟨q + 1, _, by go_num, by omega, rfl, HN3.out, HXQ.out⟩
                    case measure => simp [intOf]; omega
              · have t2 : decide ((q : Int) < (nm.length : Int)) = false := decide_eq_false (by omega)
                have HMI := Lib.hid (show rd = true ↔ missL dl o k = [] by
                  rw [HRD.out, List.take_of_length_le (by omega), miss_nil, HUS.out])
                cases rd
                · go_wp2_with fail
                  go_roundw
                  case rel =>
                    refine ⟨k + 1, by go_num, by omega, HX5.out.trans HXQ.out, Or.inl ⟨rfl, ⟨true, rfl, ?_⟩, fun j hj hd ho => ?_⟩⟩
                    · exact ⟨fun _ => ⟨k, by omega, HGD.out, HGO.out⟩, fun _ => rfl⟩
                    · by_cases e : j = k
                      · subst e; intro h; have := HMI.out.2 h; cases this
                      · exact HNO.out j (by omega) hd ho
                  case measure => simp [intOf]; omega
                · go_wp2_with fail
                  go_roundw
                  case rel => exact ⟨k + 1, by go_num, by omega, HX5.out.trans HXQ.out, Or.inr ⟨k, true, rfl, rfl, hkn, HGD.out, HGO.out, HMI.out.1 rfl⟩⟩
                  case measure => simp [intOf]; omega
          · have HSK := Lib.hid (show ∃ b' : Bool, Value.bool b = .bool b' ∧ (b' = true ↔ ∃ j, j < k + 1 ∧ isDef dl j = true ∧ j ∉ o) from ⟨b, rfl, by
              rw [HB.out]
              constructor
              · rintro ⟨j, h1, h2⟩; exact ⟨j, by omega, h2⟩
              · rintro ⟨j, h1, h2, h3⟩
                refine ⟨j, ?_, h2, h3⟩
                rcases Nat.lt_or_ge j k with h | h
                · exact h
                · obtain rfl : j = k := by omega
                  exact absurd ⟨h2, h3⟩ hgo⟩)
            have HN2 := Lib.hid (show ∀ j, j < k + 1 → isDef dl j = true → j ∉ o → missL dl o j ≠ [] from fun j hj hd ho => by
              rcases Nat.lt_or_ge j k with h | h
              · exact HNO.out j h hd ho
              · obtain rfl : j = k := by omega
                exact absurd ⟨hd, ho⟩ hgo)
            by_cases hkd : isDef dl k = true
            · have tk : (l[k].kind != 1) = false := by rw [HID.out] at hkd; simp [bne, hkd]
              have hin : decide (k ∈ o) = true := decide_eq_true (Classical.byContradiction fun h => hgo ⟨hkd, h⟩)
              rw [hin] at hcs
              clear hin hgo hkd
              go_wp2_with fail
              go_roundw
              case rel => exact ⟨k + 1, by go_num, by omega, HXK.out, Or.inl ⟨rfl, HSK.out, HN2.out⟩⟩
              case measure => simp [intOf]; omega
            · have tk : (l[k].kind != 1) = true := by rw [HID.out] at hkd; simp [bne, hkd]
              clear hgo hkd
              go_wp2_with fail
              go_roundw
              case rel => exact ⟨k + 1, by go_num, by omega, HXK.out, Or.inl ⟨rfl, HSK.out, HN2.out⟩⟩
              case measure => simp [intOf]; omega
        · have t1 : decide ((k : Int) < (n : Int)) = false := decide_eq_false (by omega)
          have hkd : k = dl.length := by have := HDN.out; omega
          have HXE := Lib.hid (HX.out.trans HXK.out)
          cases hbc : b
          · have HTS := Lib.hid (show Sorts dl from ⟨o, HI.out.done fun i hi => Classical.byContradiction fun h => by
              have := HB.out.2 ⟨i, by rw [hkd]; exact isDef_lt hi, hi, h⟩
              rw [hbc] at this; cases this⟩)
            clear hkd
            go_wp2_with fail
            go_ret2
            exact ⟨HXE.out, Or.inl ⟨HTS.out, oa, _, oc, rfl⟩⟩
          · obtain ⟨j, hj1, hj2, hj3⟩ := HB.out.1 hbc
            have HTS := Lib.hid (show ¬ Sorts dl from RInv.stuck (fun i hi ho => HNO.out i (by rw [hkd]; exact isDef_lt hi) hi ho) hj2 hj3)
            clear hkd
            go_wp2_with fail
            go_ret2
            exact ⟨HXE.out, Or.inr ⟨HTS.out, rfl⟩⟩
      · have t2 : decide ((p : Int) < 0) = false := decide_eq_false (by omega)
        have HSN := Lib.hid (HI.out.snoc hpd hpo hpm)
        have hlt := HI.out.lt hpd hpo
        have HOK := Lib.hid (owns_chg HO.out (HXK.out.chg []) (by simp))
        have HSK := Lib.hid (HSE.out.ext HXK.out)
        have hbk := HSK.out.lt
        have hLp : p < (marks o n).length := by rw [marks_len]; exact hpn
        have hzk := HXK.out.size
        have hfs := HSK.out.free p
        have hcp := HSK.out.cell hLp
        have HSS := Lib.hid HSK.out
        have tp0 : (0 : Int) ≤ (p : Int) := by omega
        have tp1 : (p : Int) < (n : Int) := by omega
        clear hpd hpo hpm
        by_cases hkn : k < n
        case' pos => have t1 : decide ((k : Int) < (n : Int)) = true := decide_eq_true (by omega)
        case' neg => have t1 : decide ((k : Int) < (n : Int)) = false := decide_eq_false (by omega)
        all_goals
          go_wp2_with (at_builtin; refine wpList_append_at elemIntsR rfl _ _ rfl wb.heap.size _ o.length _ rfl HOK.out _ 1 1 rfl rfl rfl (by simp [Value.oneCell']) (by unfold maxLen; omega) (by omega) (by omega) ?_)
          intro v8 w8 hown8 hc8 hw8
          obtain ⟨a8, c8, hv8⟩ := owns_formR hown8
          subst hv8
          have hbr : bs ∉ rowOf (.slice oa o.length oc) := fun hm => by have := (HO.out.lt bs (mem_rowOf.1 hm)).1; omega
          have hS8 : SeenAt bs (marks o n) w8 := by
            obtain ⟨cur, g1, g2⟩ := HSS.out.row
            exact ⟨cur, hc8.blk g1 hbr, g2⟩
          have hf8 := hS8.free p
          have hc8' := hS8.cell hLp
          have HS9 := Lib.hid (hS8.set p true)
          rw [marks_set] at HS9
          have hbl8 := hS8.lt
          have HO8 := Lib.hid (show w8.ownsRow wb.heap.size 3 1 (.slice a8 (o.length + 1) c8) (o ++ [p]).length (natCs (o ++ [p])) by simpa [natCs] using hown8)
          have HX8 := Lib.hid (hc8.ext (HX.out.trans HXK.out) (fun q hq => by have h1 := (HO.out.lt q (mem_rowOf.1 hq)).1; have h2 := HBS.out; omega))
          have hz8 := hc8.size
          have hne8 : ∀ q, (Value.slice a8 (o.length + 1) c8).ownBlock = some q → q ∉ [bs] := fun q hq hm => by
            simp only [List.mem_singleton] at hm
            subst hm
            rcases hw8 q hq with e | e
            · exact hbr (mem_rowOf.2 e)
            · omega
          have HO9 := Lib.hid (owns_chg HO8.out ((Chg.refl [bs] w8).setCell (p := ⟨bs, p, none⟩) (Or.inl (by simp)) (.bool true)) hne8)
          clear hown8 hc8 hw8 hS8 hfs hcp hbr hne8
          go_wp2_with fail
          go_roundg (countOf dl - (o.length + 1))
          case rel => exact ⟨o ++ [p], by simp, HSN.out, HO9.out, HS9.out, HX8.out.setAbove (by simp; rw [HBS.out]; exact Nat.le_refl _) _, by simp; omega⟩
          case measure => have := HM.out; omega
end Go.Proofs.YtpkljcgihobaiaaGreatDoor
