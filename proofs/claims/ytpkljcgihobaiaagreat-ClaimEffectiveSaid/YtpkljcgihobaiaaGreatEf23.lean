/-
  Texts of the claim, joined: ChH, EffW.
-/
import Derived.Test.YtpkljcgihobaiaaGreatEf22
import Derived.Lib.RowBridge
import Derived.Test.YtpkljcgihobaiaaGreatEf20
import Derived.Test.YtpkljcgihobaiaaGreatEf21
namespace Go.Proofs.YtpkljcgihobaiaaGreat
set_option maxRecDepth 100000
set_option maxHeartbeats 32000000
open Go.RowKit Go.Sort
theorem chg_putRow (w : World) (q g off : Nat) (d : Array Int) : Chg [g] w (putRow (Value.int .i64) (Sort.ahead w q) g off d) := by
 refine ⟨rfl, rfl, rfl, by simp [putRow, mapBlock, Sort.ahead], fun k hk hn => ?_⟩
 have hkg : g ≠ k := fun e => hn (by simp [e])
 simp [putRow, mapBlock, Sort.ahead, Array.getElem?_modify, hkg]
theorem chg_grow (N : ZN) (w : World) (os : Array Obj) : Chg N w (grow w os) := by
 refine ⟨rfl, rfl, rfl, by simp [grow], fun k hk hn => ?_⟩
 unfold grow
 exact Array.getElem?_append_left hk
theorem ints_holds {w : World} {g : Nat} {zs ys : ZI} (h : Holds (Value.int .i64) w g 0 (zs ++ ys).toArray) : IsIntF w zs (some ⟨g, 0, none⟩) zs.length := by
 refine ⟨rfl, fun i hi => ⟨g, 0, rfl, ?_⟩⟩
 have := (h i (by simp; omega)).1
 rw [this]
 congr 1
 rw [getElem!_pos _ i (by simp; omega)]
 simp [List.getElem_append_left hi]
def ChL (l : List Ev) (n g : Nat) (w : World) (i : Value) (wr : World) : Prop := ∃ (k : Nat) (cs : Array Value), i = .int .i64 k /\ k <= n /\ wr.heap[g]? = some (.cells cs 3 (0, 0)) /\ cs.size = n /\ (∀ j (hj : j < l.length), j < k -> cs[j]? = some (.int .i64 l[j].known)) /\ Ext w wr
theorem chHours_calls (c : Clm) (a : OA) (n cap : Nat) (w : World) (hi : IsEvs w c.events a n cap) (hn1 : 0 < n) (hn2 : n <= 1000000) :
  Calls Tryz.prog 22 #[ClmArg c a n cap] w (IntsQ (Lib.compact ((c.events.map (·.known)).mergeSort fun x y => decide (x <= y))) w) := by
 have HN := hI hi.len
 obtain ⟨vs, hrows, hvs, -⟩ := hi
 obtain ⟨l, hl⟩ : ∃ l, l = c.events := ⟨_, rfl⟩
 rw [<- hl] at HN hvs ⊢
 have HV := hI hvs
 have HROWS := hI hrows
 clear hrows hvs hl
 unfold ClmArg
 obtain ⟨wa, hwa⟩ : ∃ wa, wa = w.alloc (.cells #[.int .i64 c.id, .int .i64 c.policy, .int .i64 c.risk, .int .i64 c.hour, .int .i64 c.peril, .int .i64 c.area, .slice a n cap] 27) := ⟨_, rfl⟩
 have HXA := hI (show Ext w wa by rw [hwa]; exact (Ext.refl _).alloc _)
 have HB0 := hI (show wa.heap[w.heap.size]? = some (.cells #[.int .i64 c.id, .int .i64 c.policy, .int .i64 c.risk, .int .i64 c.hour, .int .i64 c.peril, .int .i64 c.area, .slice a n cap] 27 (0, 0)) by rw [hwa]; exact alloc_new w _)
 obtain ⟨b0, b1, b2, b3, b4, b5, b6, bf⟩ := blk7 HB0.out
 go_enter Tryz.func22, Tryz.ntmps22
 go_upto_region 1 with fail
 rw [<- hwa]
 clear hwa
 go_wp2_with fail
 rw [run_make1 elemInts wa n (by omega) (by omega)]
 generalize hmade : madeCells _ _ = cs0
 have hcs0 : cs0.size = n := by rw [<- hmade]; have := size_madeCells (Value.int .i64 0).cells (n * 1); omega
 have HC0 := hI hcs0
 obtain ⟨wm, hwm⟩ : ∃ wm, wm = wa.alloc (.cells cs0 3) := ⟨_, rfl⟩
 have HXM := hI (show Ext wa wm by rw [hwm]; exact (Ext.refl _).alloc _)
 have HBM := hI (show wm.heap[wa.heap.size]? = some (.cells cs0 3 (0, 0)) by rw [hwm]; exact alloc_new wa _)
 rw [<- hwm]
 obtain ⟨d0, d1, d2, d3, d4, d5, d6, df⟩ := blk7 (HXM.out.blk HB0.out)
 clear hmade hcs0 hwm b0 b1 b2 b3 b4 b5 b6 bf
 go_wp2_with fail
 clear d0 d1 d2 d3 d4 d5 d6 df
 go_loopw [13] (ChL l n wa.heap.size wa) (fun i _ => n - (intOf i).toNat)
 case atStart => exact ⟨0, cs0, rfl, Nat.zero_le _, HBM.out, HC0.out, fun j _ h => by omega, HXM.out⟩
 case round =>
  obtain ⟨k, cs, rfl, hk, hb, hcs, hall, hx⟩ := hrel
  obtain ⟨wo, rfl⟩ : ∃ wo : World, wo = wr := ⟨_, rfl⟩
  have HB := hI hb
  have HCS := hI hcs
  have HALL := hI hall
  have HX := hI hx
  clear hb hcs hall hx
  by_cases hkn : k < n
  ·have hkl : k < l.length := by have := HN.out; omega
   have hkv : k < vs.length := by have := HV.out; rw [this] at hkl; simpa using hkl
   have HLK := hI (show l[k] = vs[k].x by simp [HV.out])
   have t1 : decide ((k : Int) < (n : Int)) = true := decide_eq_true (by omega)
   have tk0 : (0 : Int) <= (k : Int) := by omega
   have tk1 : (k : Int) < (n : Int) := by omega
   obtain ⟨b, off, rfl, c0, c1, c2, c3, c4, c5, c6⟩ := rows_seven (HROWS.out.ext (HXA.out.trans HX.out)) hkv
   obtain ⟨wb, hwb⟩ : ∃ wb, wb = wo.alloc (.cells #[.int .i64 vs[k].x.number, .int .i64 vs[k].x.known, .int .i64 vs[k].x.kind, .slice vs[k].a vs[k].n vs[k].c, .int .i64 vs[k].x.cur, .int .i64 vs[k].x.amount, .int .i64 vs[k].x.target] 30) := ⟨_, rfl⟩
   have HXB := hI (show Ext wo wb by rw [hwb]; exact (Ext.refl _).alloc _)
   have HBE := hI (show wb.heap[wo.heap.size]? = some (.cells #[.int .i64 vs[k].x.number, .int .i64 vs[k].x.known, .int .i64 vs[k].x.kind, .slice vs[k].a vs[k].n vs[k].c, .int .i64 vs[k].x.cur, .int .i64 vs[k].x.amount, .int .i64 vs[k].x.target] 30 (0, 0)) by rw [hwb]; exact alloc_new wo _)
   go_upto_region 5 with fail
   rw [<- hwb]
   clear hwb c0 c1 c2 c3 c4 c5 c6
   obtain ⟨y0, y1, y2, y3, y4, y5, y6, yf⟩ := blk7 HBE.out
   have HBB := hI (HXB.out.blk HB.out)
   have hcell : wb.cell? ⟨wa.heap.size, k, none⟩ = some (cs[k]'(by rw [HCS.out]; exact hkn)) := by
    rw [blk_cell HBB.out]; exact Array.getElem?_eq_getElem _
   have hfree : wb.frozen? ⟨wa.heap.size, k, none⟩ = false := blk_free HBB.out _
   go_wp2_with fail
   go_roundw
   case rel =>
    refine ⟨k + 1, cs.setIfInBounds k (.int .i64 vs[k].x.known), by go_num, by omega, heap_setCell_same _ _ _ _ _ _ HBB.out, by rw [Array.size_setIfInBounds]; exact HCS.out, fun j hj hjk => ?_, Ext.setAbove (HX.out.trans HXB.out) (by simp) _⟩
    rw [Array.getElem?_setIfInBounds]
    by_cases e : k = j
    ·subst e
     rw [if_pos rfl, if_pos (by rw [HCS.out]; exact hkn), HLK.out]
    rw [if_neg e]
    exact HALL.out j hj (by omega)
   case measure => simp [intOf]; omega
  have t1 : decide ((k : Int) < (n : Int)) = false := decide_eq_false (by omega)
  obtain ⟨zs, hzs⟩ : ∃ zs, zs = l.map (·.known) := ⟨_, rfl⟩
  have hzl : zs.length = n := by rw [hzs, List.length_map]; exact HN.out.symm
  have hH : Holds (Value.int .i64) wo wa.heap.size 0 zs.toArray := by
   intro j hj
   have hjl : j < l.length := by simp [hzs] at hj; exact hj
   refine ⟨?_, blk_free HB.out _⟩
   rw [Nat.zero_add, blk_cell HB.out, HALL.out j hjl (by have := HN.out; omega)]
   congr 2
   rw [getElem!_pos _ j hj]
   simp [hzs]
  have hglt : wa.heap.size < wo.heap.size := blk_lt HB.out
  have hS := Tryz.slices_Sort_int wa.heap.size 0 n zs wo hH hglt (by omega)
  rw [hzl] at hS
  have HS := hI hS
  obtain ⟨ss, hss⟩ : ∃ ss, ss = zs.mergeSort fun x y => decide (x <= y) := ⟨_, rfl⟩
  rw [<- hss] at HS
  have HSS := hI hss
  have HZS := hI hzs
  have HSL := hI (show ss.length = n by rw [hss, List.length_mergeSort]; exact hzl)
  have HH := hI hH
  have HZL := hI hzl
  clear hS hss hzs hH hzl
  go_wp2_with fail
  refine HS.out.mono ?_
  rintro r w6 ⟨rfl, q, os, hw6⟩
  have HX6 := hI (show Ext wa w6 by
   have h : Chg [wa.heap.size] wo w6 := by rw [hw6]; exact (chg_putRow wo q _ _ _).trans (chg_grow [wa.heap.size] _ _) (fun x hx => Or.inl hx)
   exact h.ext HX.out (fun y hy => by simp at hy; omega))
  have hH6 : Holds (Value.int .i64) w6 wa.heap.size 0 ss.toArray := by
   rw [hw6]
   refine holds_grow _ _ os _ 0 _ (by simpa [putRow, mapBlock, Sort.ahead] using hglt) (holds_putRow _ _ _ 0 zs.toArray _ (holds_ahead _ _ _ _ 0 _ HH.out) ?_)
   have h1 := HSL.out
   have h2 := HZL.out
   simp; omega
  have hC := Tryz.slices_Compact_int wa.heap.size 0 n ss w6 hH6 (by have := HSL.out; omega) (by have := HSL.out; omega)
  rw [HSL.out] at hC
  have HC := hI hC
  have HH6 := hI hH6
  have HCL := hI (Lib.compact_length_le ss)
  clear hw6 hC hH6 HS
  go_wp2_with fail
  refine HC.out.mono ?_
  rintro r w8 ⟨rfl, q8, hw8⟩
  have HX8 := hI (show Ext wa w8 by
   have h : Chg [wa.heap.size] w6 w8 := by rw [hw8]; exact chg_putRow w6 q8 _ _ _
   exact h.ext HX6.out (fun y hy => by simp at hy; omega))
  have HI := hI (show IsIntF w8 (Lib.compact ss) (some ⟨wa.heap.size, 0, none⟩) (Lib.compact ss).length by
   refine ints_holds (ys := List.replicate (n - (Lib.compact ss).length) 0) ?_
   rw [hw8]
   refine holds_putRow _ _ _ 0 ss.toArray _ (holds_ahead _ _ _ _ 0 _ HH6.out) ?_
   have h1 := HSL.out
   have h2 := HCL.out
   simp; omega)
  clear hw8
  go_wp2_with fail
  go_ret
  rw [<- HZS.out, <- HSS.out]
  exact ⟨_, _, rfl, HI.out, HXA.out.trans HX8.out⟩
open Go.RowKit
theorem known_asc {attrs : List Attr} : (n : Nat) -> (l : List Ev) -> l.length = n -> (∀ j (h : j < l.length), evErr attrs (l.take j) l[j] = 0) -> (l.map (·.known)).Pairwise (· <= ·) /\ ∀ z, l.getLast? = some z -> ∀ y ∈ l, y.known <= z.known
 | 0, l, hl, _ => by
  rw [List.eq_nil_of_length_eq_zero hl]
  exact ⟨List.Pairwise.nil, fun z h => by simp at h⟩
 | n + 1, l, hl, h => by
  rcases List.eq_nil_or_concat l with rfl | ⟨L, x, rfl⟩
  ·simp at hl
  simp only [List.concat_eq_append] at hl h ⊢
  have hL : L.length = n := by simp at hl; omega
  obtain ⟨ih1, ih2⟩ := known_asc (attrs := attrs) n L hL (fun j hj => by
   have := h j (by simp; omega)
   rw [List.take_append_of_le_length (by omega), List.getElem_append_left hj] at this
   exact this)
  have hx := h L.length (by simp)
  rw [List.take_append_of_le_length (Nat.le_refl _), List.take_of_length_le (Nat.le_refl _), List.getElem_append_right (Nat.le_refl _)] at hx
  simp only [Nat.sub_self, List.getElem_cons_zero] at hx
  have ho := (evErr_zero_inv hx).1
  have hle : ∀ y ∈ L, y.known <= x.known := by
   intro y hy
   unfold orderB at ho
   cases hg : L.getLast? with
   | none => rw [List.getLast?_eq_none_iff] at hg; rw [hg] at hy; simp at hy
   | some z =>
    rw [hg] at ho
    simp only [Bool.or_eq_false_iff, decide_eq_false_iff_not] at ho
    have := ih2 z hg y hy
    omega
  refine ⟨?_, fun z hz y hy => ?_⟩
  ·rw [List.map_append, List.pairwise_append]
   refine ⟨ih1, by simp, fun a ha b hb => ?_⟩
   simp only [List.map_cons, List.map_nil, List.mem_singleton] at hb
   subst hb
   obtain ⟨y, hy, rfl⟩ := List.mem_map.1 ha
   exact hle y hy
  simp only [List.getLast?_append, List.getLast?_singleton, Option.some_or, Option.some.injEq] at hz
  subst hz
  rcases List.mem_append.1 hy with h' | h'
  ·exact hle y h'
  simp only [List.mem_singleton] at h'; subst h'; exact Int.le_refl _
theorem made_known {attrs : List Attr} {id : Int} {c : Clm} (h : ClmMade attrs id c) : Lib.compact ((c.events.map (·.known)).mergeSort fun x y => decide (x <= y)) = knownL c.events :=
 sorted_compact (known_asc _ c.events rfl h.2.2.2.2.1).1
theorem made_eff {attrs : List Attr} {id : Int} {c : Clm} (h : ClmMade attrs id c) (hour : Int) : effL c.events hour = effFwd hour c.events :=
 effL_fwd (ok_sound _ c.events rfl h.2.2.2.2.1).1 hour
theorem small_wf {x : Int} (h0 : 0 <= x) (h1 : x <= 1000) : (Lit.int .i64 x).wf = true := by
 have e1 : IntKind.i64.min = -9223372036854775808 := rfl
 have e2 : IntKind.i64.max = 9223372036854775807 := rfl
 simp only [Lit.wf]
 rw [e1, e2]
 simp; omega
theorem ev_items {s : List Attr} {l : List Ev} {x : Ev} (h : evErr s l x = 0) : x.items.length <= 64 /\ ∀ y ∈ x.items, y.facts.length = s.length := by
 unfold evErr at h
 by_cases h1 : inB 1 1048576 x.number = false \/ inB 0 876599 x.known = false
 ·rw [if_pos h1] at h; cases h
 rw [if_neg h1] at h
 by_cases h2 : orderB l x = true
 ·rw [if_pos h2] at h; cases h
 rw [if_neg h2] at h
 by_cases h3 : inB 1 7 x.kind = false
 ·rw [if_pos h3] at h; cases h
 rw [if_neg h3] at h
 by_cases h4 : fieldB x = true
 ·rw [if_pos h4] at h; cases h
 rw [if_neg h4] at h
 by_cases hk : x.kind = 1 \/ x.kind = 2
 ·unfold partErr at h
  rw [if_pos hk] at h
  by_cases h6 : 64 < x.items.length
  ·rw [if_pos h6] at h; cases h
  rw [if_neg h6] at h
  refine ⟨by omega, fun y hy => ?_⟩
  obtain ⟨i, hi, rfl⟩ := List.getElem_of_mem hy
  have := firstI_none _ h i hi
  rw [List.getD_eq_getElem?_getD, List.getElem?_eq_getElem hi, Option.getD_some] at this
  cases hf : factsB s x.items[i].facts
  ·rw [itErr_bad hf] at this; cases this
  unfold factsB at hf
  rw [Bool.and_eq_true] at hf
  exact factsAll_len hf.2
 have hk1 : (x.kind == 1) = false := by simp; omega
 have hk2 : (x.kind == 2) = false := by simp; omega
 have : x.items = [] := by
  unfold fieldB at h4
  rw [hk1, hk2] at h4
  simp only [Bool.or_self, Bool.not_false, Bool.and_true, Bool.or_eq_true, not_or, decide_eq_true_eq] at h4
  exact List.eq_nil_of_length_eq_zero (by omega)
 rw [this]
 simp
def EfO (v : Wv) (b3 : Nat) (w : World) (i : Value) (wr : World) : Prop := ∃ (q : Nat) (h : Int), i = .int .i64 q /\ q <= 2 /\ wr.heap[b3]? = some (Wv.obj { v with h := h }) /\ Ext w wr
def effw7R (b3 : Nat) (c : Clm) (ea : OA) (en ec : Nat) (hh : Int) (NL : ZI) (KB : Bool) (ia ja : OA) (ni ic nj jc : Nat) : Nat -> Value -> World -> Prop
 | 0, u, _ => u = .pointer (some ⟨b3, 4, none⟩)
 | 1, u, _ => u = .agg #[.int .i64 c.id, .int .i64 c.policy, .int .i64 c.risk, .int .i64 c.hour, .int .i64 c.peril, .int .i64 c.area, .slice ea en ec]
 | 2, u, _ => u = .pointer (some ⟨b3, 11, none⟩)
 | 3, u, _ => u = .int .i64 hh
 | 4, u, W => ∃ (p1 : OA) (q1 : Nat), u = .slice p1 NL.length q1 /\ IsIntF W NL p1 NL.length
 | 5, u, _ => u = .pointer (some ⟨b3, 4, none⟩)
 | 6, u, _ => u = .agg #[.int .i64 c.id, .int .i64 c.policy, .int .i64 c.risk, .int .i64 c.hour, .int .i64 c.peril, .int .i64 c.area, .slice ea en ec]
 | 7, u, _ => u = .pointer (some ⟨b3, 11, none⟩)
 | 8, u, _ => u = .int .i64 hh
 | 9, u, W => ∃ (p2 : OA) (q2 : Nat), u = .slice p2 NL.length q2 /\ IsIntF W NL p2 NL.length
 | 10, u, _ => u = .bool true
 | 11, u, _ => u = .bool false
 | 12, u, _ => u = .bool false
 | 13, u, _ => u = .bool KB
 | 14, u, _ => u = .bool KB
 | 15, u, _ => u = .bool false
 | 16, u, _ => u = .bool false
 | 17, u, _ => u = .bool false
 | 18, u, _ => u = .slice ia ni ic
 | 19, u, _ => u = .slice ja nj jc
 | 20, u, _ => u = .bool true
 | 21, u, _ => u = .bool false
 | _, u, _ => u = .bool false
def effw10R (b3 : Nat) (c : Clm) (ea : OA) (en ec : Nat) (NL : ZI) : Nat -> Value -> World -> Prop
 | 0, u, _ => u = .pointer (some ⟨b3, 4, none⟩)
 | 1, u, _ => u = .agg #[.int .i64 c.id, .int .i64 c.policy, .int .i64 c.risk, .int .i64 c.hour, .int .i64 c.peril, .int .i64 c.area, .slice ea en ec]
 | 2, u, W => ∃ (p1 : OA) (q1 : Nat), u = .slice p1 NL.length q1 /\ IsIntF W NL p1 NL.length
 | 3, u, _ => u = .pointer (some ⟨b3, 4, none⟩)
 | 4, u, _ => u = .agg #[.int .i64 c.id, .int .i64 c.policy, .int .i64 c.risk, .int .i64 c.hour, .int .i64 c.peril, .int .i64 c.area, .slice ea en ec]
 | 5, u, W => ∃ (y5 : Nat), u = .slice (some ⟨y5, 0, none⟩) 1 1 /\ W.heap[y5]? = some (.cells #[.int .i64 c.id, .int .i64 c.policy, .int .i64 c.risk, .int .i64 c.hour, .int .i64 c.peril, .int .i64 c.area, .slice ea en ec] 27 (0, 0))
 | 6, u, W => ∃ (y6 : Nat), u = .agg #[.slice none 0 0, .slice none 0 0, .slice (some ⟨y6, 0, none⟩) 1 1, .slice none 0 0] /\ W.heap[y6]? = some (.cells #[.int .i64 c.id, .int .i64 c.policy, .int .i64 c.risk, .int .i64 c.hour, .int .i64 c.peril, .int .i64 c.area, .slice ea en ec] 27 (0, 0))
 | 7, u, W => ∃ (p2 : OA) (q2 : Nat), u = .slice p2 NL.length q2 /\ IsIntF W NL p2 NL.length
 | 8, u, _ => u = .bool true
 | 9, u, _ => u = .bool true
 | 10, u, _ => u = .bool true
 | 11, u, _ => u = .bool true
 | _, u, _ => u = .bool true
theorem effW_calls (da : OA) (dn dc : Nat) (hour : Int) (w : World) (h : IntsAt w da dn) (hdl : dn <= 1000000000000000) : Calls Tryz.prog 5 #[.slice da dn dc, .int .i64 hour] w (GivesE (.bool true) w) := by
 have HMD := hI (made18_calls da dn dc w h hdl)
 clear h
 go_enter Tryz.func5, Tryz.ntmps5
 go_wp2_with fail
 refine HMD.out.mono ?_
 rintro r w1 ⟨attrs, rts, x, ⟨sa, sn, sc, ta, tn, tc, wa, wn, wc, xa, xn, xc, c, ea, en, ec, h0, kk⟩, bd, rfl, hw, -, hx1⟩
 have HX1 := hI hx1
 have HCLM := hI hw.clm
 have HAT := hI hw.mem
 have HEV := hI (hw.evs.mono (mask_sub _ _))
 have HEN := hI hw.evs.len
 clear hw hx1 HMD
 unfold Wv.cells
 dsimp only at HCLM HEV HEN ⊢
 go_upto_region 2 with fail
 obtain ⟨w2, hw2⟩ : ∃ w2, w2 = w1.alloc (.cells (Wv.cells ⟨sa, sn, sc, ta, tn, tc, wa, wn, wc, xa, xn, xc, c, ea, en, ec, h0, kk⟩) 39) := ⟨_, rfl⟩
 have HX2 := hI (show Ext w1 w2 by rw [hw2]; exact (Ext.refl _).alloc _)
 have HB2 := hI (show w2.heap[w1.heap.size]? = some (Wv.obj ⟨sa, sn, sc, ta, tn, tc, wa, wn, wc, xa, xn, xc, c, ea, en, ec, h0, kk⟩) by rw [hw2]; exact alloc_new w1 _)
 obtain ⟨b3, hb3⟩ : ∃ b3, b3 = w1.heap.size := ⟨_, rfl⟩
 unfold Wv.cells at hw2
 dsimp only at hw2
 rw [<- hw2, <- hb3]
 rw [<- hb3] at HB2
 have HB3 := hI hb3
 clear hw2 hb3
 have hen1 : 0 < en := by
  have := HCLM.out.2.2.1
  have h2 := HEN.out
  rcases Nat.eq_zero_or_pos en with h3 | h3
  ·exact absurd (List.eq_nil_of_length_eq_zero (by omega)) this
  exact h3
 have hen2 : en <= 7 := by have := HCLM.out.2.2.2.1; have := HEN.out; omega
 have HFIT := hI (show ∀ y ∈ c.events, fitEv y from fun y hy => by
  obtain ⟨_, h1, h2, h3, h4, _⟩ := HCLM.out.2.2.2.2.2 y hy
  exact ⟨small_wf h1 h2, small_wf h3 h4⟩)
 have HFEW := hI (show ∀ y ∈ c.events, y.items.length <= 1000000 /\ ∀ z ∈ y.items, z.facts.length <= 1000000 from fun y hy => by
  obtain ⟨i, hi, rfl⟩ := List.getElem_of_mem hy
  obtain ⟨h1, h2⟩ := ev_items (HCLM.out.2.2.2.2.1 i hi)
  have h3 := (schemas_ok attrs HAT.out).2.2
  exact ⟨by omega, fun z hz => by have := h2 z hz; omega⟩)
 have HEFF := hI (fun (hh : Int) W (hW : Ext w1 W) => effs_calls c ea en ec hh W (HEV.out.ext hW) (by omega) HFIT.out)
 have HREF := hI (fun (hh : Int) W (hW : Ext w1 W) => rEffs_calls c ea en ec hh W (HEV.out.ext hW) (by omega))
 have HITM := hI (fun (hh : Int) W (hW : Ext w1 W) => cItems_calls c ea en ec hh W (HEV.out.ext hW) (by omega) HFIT.out HFEW.out)
 have HRIT := hI (fun (hh : Int) W (hW : Ext w1 W) => rItems_calls c ea en ec hh W (HEV.out.ext hW) (by omega))
 have HEQ := hI (fun (hh : Int) => made_eff HCLM.out hh)
 simp only [HEQ.out] at HEFF HITM
 have HCH := hI (fun W (hW : Ext w1 W) => chHours_calls c ea en ec W (HEV.out.ext hW) hen1 (by omega))
 rw [made_known HCLM.out] at HCH
 have HKN := hI (fun (B : Nat) W (hW : Ext w1 W) hb => rKnown_calls c ea en ec B W hb (HEV.out.ext hW) (by omega))
 unfold ClmArg at HEFF HREF HITM HRIT HCH
 unfold PfArg ClmCells at HKN
 clear HEQ
 go_wp2_with fail
 go_loopw [7] (EfO ⟨sa, sn, sc, ta, tn, tc, wa, wn, wc, xa, xn, xc, c, ea, en, ec, h0, kk⟩ b3 w1) (fun i _ => 2 - (intOf i).toNat)
 case atStart => exact ⟨0, h0, rfl, by omega, HB2.out, HX2.out⟩
 case round =>
  obtain ⟨q, hh, rfl, hq, hb, hx⟩ := hrel
  obtain ⟨wo, rfl⟩ : ∃ wo : World, wo = wr := ⟨_, rfl⟩
  have HB := hI hb
  have HX := hI hx
  clear hb hx
  obtain ⟨b0, b1, b2, b3', b4, b5, b6, b7, b8, b9, b10, b11, b12, bf⟩ := blk13 HB.out
  dsimp only at b0 b1 b2 b3' b4 b5 b6 b7 b8 b9 b10 b11 b12
  have hlb := blk_lt HB.out
  by_cases hq2 : q < 2
  ·have t1 : decide ((q : Int) < 2) = true := decide_eq_true (by omega)
   go_wp2_with fail
   refine (HITM.out hh wo HX.out).mono ?_
   rintro r w5 ⟨ia, ni, ic, rfl, hi5, hx5⟩
   have HI5 := hI hi5
   have HX5 := hI (HX.out.trans hx5)
   have HB5 := hI (hx5.blk HB.out)
   clear hi5 hx5 b0 b1 b2 b3' b4 b5 b6 b7 b8 b9 b10 b11 b12 bf hlb
   obtain ⟨b0, b1, b2, b3', b4, b5, b6, b7, b8, b9, b10, b11, b12, bf⟩ := blk13 HB5.out
   dsimp only at b0 b1 b2 b3' b4 b5 b6 b7 b8 b9 b10 b11 b12
   have hlb := blk_lt HB5.out
   go_wp2_with fail
   refine (HRIT.out hh w5 HX5.out).mono ?_
   rintro r w6 ⟨ja, nj, jc, rfl, hi6, hx6⟩
   have HI6 := hI hi6
   have HI56 := hI (HI5.out.ext hx6)
   have HX6 := hI (HX5.out.trans hx6)
   have HB6 := hI (hx6.blk HB5.out)
   clear hi6 hx6 b0 b1 b2 b3' b4 b5 b6 b7 b8 b9 b10 b11 b12 bf hlb
   obtain ⟨b0, b1, b2, b3', b4, b5, b6, b7, b8, b9, b10, b11, b12, bf⟩ := blk13 HB6.out
   dsimp only at b0 b1 b2 b3' b4 b5 b6 b7 b8 b9 b10 b11 b12
   have hlb := blk_lt HB6.out
   have hfw := itsK_few (l := effFwd hh c.events) (fun y hy => HFEW.out y (by rw [<- made_eff HCLM.out] at hy; exact effL_mem hy))
   have HFW := hI (show (itsKn (effFwd hh c.events)).2.length <= 1000000 /\ ∀ y ∈ (itsKn (effFwd hh c.events)).2, y.facts.length <= 1000000 by
    unfold itsKn
    by_cases e : (itsK (effFwd hh c.events)).1 = true
    ·rw [if_pos e]; exact hfw
    rw [if_neg e]; simp)
   obtain ⟨K, hK⟩ : ∃ K, K = itsKn (effFwd hh c.events) := ⟨_, rfl⟩
   rw [<- hK] at HI6 HI56 HI5 HFW ⊢
   obtain ⟨KB, KI⟩ := K
   clear hK
   have hni : ni <= 1000000 := by have := HI6.out.len; have := HI5.out.len; have := HFW.out.1; omega
   have HNL := hI (show ((effFwd hh c.events).map (·.number)).length <= 1000000 by rw [List.length_map]; have := effFwd_len hh c.events; have := HEN.out; omega)
   have HE1 := hI (HEFF.out hh)
   have HE2 := hI (HREF.out hh)
   obtain ⟨NL, hNL⟩ : ∃ NL, NL = (effFwd hh c.events).map (·.number) := ⟨_, rfl⟩
   rw [<- hNL] at HE1 HE2 HNL
   clear hNL hfw
   dsimp only at HI6 HI56 HI5 HFW ⊢
   go_upto_region 7 with fail
   refine wp_region_growLG (n := 74) (m := 23) [22] (GrGZ w6) GrE (GrP (effw7R b3 c ea en ec hh NL KB ia ja ni ic nj jc)) (by kernel_rfl) (by kernel_rfl) (Nat.le_of_ble_eq_true rfl) ?gd ((Ext.refl w6).drew) ?_ ?_ ?_
   case gd =>
    intro i o j b hi ho hg
    rcases ltc23 hi with rfl | rfl | rfl | rfl | rfl | rfl | rfl | rfl | rfl | rfl | rfl | rfl | rfl | rfl | rfl | rfl | rfl | rfl | rfl | rfl | rfl | rfl | rfl <;> (cases ho; first | (cases hg; done) | (cases hg; intro v W h; exact h))
   ·intro i k v W W' hi hk hne hout h hE
    have hE : Ext W W' := hE
    have hi' := ltc23 hi
    clear hi hk hne hout
    rcases hi' with rfl | rfl | rfl | rfl | rfl | rfl | rfl | rfl | rfl | rfl | rfl | rfl | rfl | rfl | rfl | rfl | rfl | rfl | rfl | rfl | rfl | rfl | rfl
    ·exact h
    ·exact h
    ·exact h
    ·exact h
    ·obtain ⟨p1, q1, e0, h⟩ := h
     exact ⟨p1, q1, e0, h.mono hE.sub⟩
    ·exact h
    ·exact h
    ·exact h
    ·exact h
    ·obtain ⟨p2, q2, e0, h⟩ := h
     exact ⟨p2, q2, e0, h.mono hE.sub⟩
    ·exact h
    ·exact h
    ·exact h
    ·exact h
    ·exact h
    ·exact h
    ·exact h
    ·exact h
    ·exact h
    ·exact h
    ·exact h
    ·exact h
    exact h
   ·intro q op hq ho L vs W hqL hcL hW hd ρ hρ
    have hq' := ltc23 hq
    clear hq
    have o5 : ρ (.tmp 5) = .pointer (some ⟨b3, 0, none⟩) := hρ.out 5 rfl
    have i0 := hρ.i 0 37
    have i2 := hρ.i 2 39
    have i1 := hρ.i 1 38
    have i3 := hρ.i 3 40
    have i5 := hρ.i 5 42
    have i7 := hρ.i 7 44
    have i6 := hρ.i 6 43
    have i8 := hρ.i 8 45
    have i4 := hρ.i 4 41
    have i9 := hρ.i 9 46
    have i10 := hρ.i 10 47
    have i11 := hρ.i 11 48
    have o9 : ρ (.tmp 9) = .bool KB := hρ.out 9 rfl
    have o11 : ρ (.tmp 11) = .bool KB := hρ.out 11 rfl
    have i13 := hρ.i 13 50
    have i14 := hρ.i 14 51
    have i12 := hρ.i 12 49
    have i15 := hρ.i 15 52
    have i16 := hρ.i 16 53
    have o8 : ρ (.tmp 8) = .slice ia ni ic := hρ.out 8 rfl
    have o10 : ρ (.tmp 10) = .slice ja nj jc := hρ.out 10 rfl
    have i18 := hρ.i 18 55
    have i19 := hρ.i 19 56
    have i20 := hρ.i 20 57
    have i17 := hρ.i 17 54
    have i21 := hρ.i 21 58
    have hc := hρ.const
    have hfn := hρ.func
    clear hρ
    have HG := hI hW
    have HW := hI (show Ext w6 W from hW)
    have HQL := hI hqL
    clear hW hqL hcL
    rcases hq' with rfl | rfl | rfl | rfl | rfl | rfl | rfl | rfl | rfl | rfl | rfl | rfl | rfl | rfl | rfl | rfl | rfl | rfl | rfl | rfl | rfl | rfl | rfl
    ·cases ho
     clear hd
     unfold GivesOp
     go_simp
     exact ⟨Ext.refl _, HW.out, rfl⟩
    ·cases ho
     have h0 : vs 0 = _ := hd ⟨0, .data⟩ (by simp) rfl
     rw [h0] at i0
     clear hd
     have g0 := HW.out.cell b4
     have g1 := HW.out.cell b5
     have g2 := HW.out.cell b6
     have g3 := HW.out.cell b7
     have g4 := HW.out.cell b8
     have g5 := HW.out.cell b9
     have g6 := HW.out.cell b10
     unfold GivesOp
     go_simp
     exact ⟨Ext.refl _, HW.out, rfl⟩
    ·cases ho
     clear hd
     unfold GivesOp
     go_simp
     exact ⟨Ext.refl _, HW.out, rfl⟩
    ·cases ho
     have h2 : vs 2 = _ := hd ⟨2, .data⟩ (by simp) rfl
     rw [h2] at i2
     clear hd
     have g0 := HW.out.cell b11
     unfold GivesOp
     go_simp
     exact ⟨Ext.refl _, HW.out, rfl⟩
    ·cases ho
     have h1 : vs 1 = _ := hd ⟨1, .data⟩ (by simp) rfl
     rw [h1] at i1
     have h3 : vs 3 = _ := hd ⟨3, .data⟩ (by simp) rfl
     rw [h3] at i3
     clear hd
     unfold GivesOp
     go_simp
     refine (HE1.out W (HX6.out.trans HW.out)).mono ?_
     rintro r5 w5 ⟨a5, c5, rfl, hi5, hx5⟩
     exact ⟨_, rfl, hx5, HW.out.trans hx5, a5, c5, rfl, hi5⟩
    ·cases ho
     clear hd
     unfold GivesOp
     go_simp
     exact ⟨Ext.refl _, HW.out, rfl⟩
    ·cases ho
     have h5 : vs 5 = _ := hd ⟨5, .data⟩ (by simp) rfl
     rw [h5] at i5
     clear hd
     have g0 := HW.out.cell b4
     have g1 := HW.out.cell b5
     have g2 := HW.out.cell b6
     have g3 := HW.out.cell b7
     have g4 := HW.out.cell b8
     have g5 := HW.out.cell b9
     have g6 := HW.out.cell b10
     unfold GivesOp
     go_simp
     exact ⟨Ext.refl _, HW.out, rfl⟩
    ·cases ho
     clear hd
     unfold GivesOp
     go_simp
     exact ⟨Ext.refl _, HW.out, rfl⟩
    ·cases ho
     have h7 : vs 7 = _ := hd ⟨7, .data⟩ (by simp) rfl
     rw [h7] at i7
     clear hd
     have g0 := HW.out.cell b11
     unfold GivesOp
     go_simp
     exact ⟨Ext.refl _, HW.out, rfl⟩
    ·cases ho
     have h6 : vs 6 = _ := hd ⟨6, .data⟩ (by simp) rfl
     rw [h6] at i6
     have h8 : vs 8 = _ := hd ⟨8, .data⟩ (by simp) rfl
     rw [h8] at i8
     clear hd
     unfold GivesOp
     go_simp
     refine (HE2.out W (HX6.out.trans HW.out)).mono ?_
     rintro r5 w5 ⟨a5, c5, rfl, hi5, hx5⟩
     exact ⟨_, rfl, hx5, HW.out.trans hx5, a5, c5, rfl, hi5⟩
    ·cases ho
     obtain ⟨p1, q1, h4, hs4⟩ : ∃ (p1 : OA) (q1 : Nat), vs 4 = .slice p1 NL.length q1 /\ IsIntF W NL p1 NL.length := hd ⟨4, .data⟩ (by simp) rfl
     have HS4 := hI hs4
     clear hs4
     rw [h4] at i4
     obtain ⟨p2, q2, h9, hs9⟩ : ∃ (p2 : OA) (q2 : Nat), vs 9 = .slice p2 NL.length q2 /\ IsIntF W NL p2 NL.length := hd ⟨9, .data⟩ (by simp) rfl
     have HS9 := hI hs9
     clear hs9
     rw [h9] at i9
     clear hd
     unfold GivesOp
     go_simp
     refine (sameIntsF_calls NL NL _ _ _ _ _ _ W HS4.out HS9.out (by have := HNL.out; omega)).mono ?_
     rintro r5 w5 ⟨rfl, ⟨m5, rfl⟩⟩
     exact ⟨_, rfl, (Ext.refl W).drewN _, HW.out.trans ((Ext.refl W).drewN _), by rw [decide_eq_true rfl]; rfl⟩
    ·cases ho
     have h10 : vs 10 = _ := hd ⟨10, .data⟩ (by simp) rfl
     rw [h10] at i10
     clear hd
     unfold GivesOp
     go_simp
     exact ⟨Ext.refl _, HW.out, rfl⟩
    ·cases ho
     have h11 : vs 11 = _ := hd ⟨11, .data⟩ (by simp) rfl
     rw [h11] at i11
     clear hd
     unfold GivesOp
     go_simp
     exact ⟨Ext.refl _, HW.out, rfl⟩
    ·cases ho
     clear hd
     unfold GivesOp
     go_simp
     exact ⟨Ext.refl _, HW.out, rfl⟩
    ·cases ho
     clear hd
     unfold GivesOp
     go_simp
     exact ⟨Ext.refl _, HW.out, rfl⟩
    ·cases ho
     have h13 : vs 13 = _ := hd ⟨13, .data⟩ (by simp) rfl
     rw [h13] at i13
     have h14 : vs 14 = _ := hd ⟨14, .data⟩ (by simp) rfl
     rw [h14] at i14
     clear hd
     unfold GivesOp
     go_simp
     exact ⟨Ext.refl _, HW.out, rfl⟩
    ·cases ho
     have h12 : vs 12 = _ := hd ⟨12, .data⟩ (by simp) rfl
     rw [h12] at i12
     have h15 : vs 15 = _ := hd ⟨15, .data⟩ (by simp) rfl
     rw [h15] at i15
     clear hd
     unfold GivesOp
     go_simp
     exact ⟨Ext.refl _, HW.out, rfl⟩
    ·cases ho
     have h16 : vs 16 = _ := hd ⟨16, .data⟩ (by simp) rfl
     rw [h16] at i16
     clear hd
     unfold GivesOp
     go_simp
     exact ⟨Ext.refl _, HW.out, rfl⟩
    ·cases ho
     clear hd
     unfold GivesOp
     go_simp
     exact ⟨Ext.refl _, HW.out, rfl⟩
    ·cases ho
     clear hd
     unfold GivesOp
     go_simp
     exact ⟨Ext.refl _, HW.out, rfl⟩
    ·cases ho
     have h18 : vs 18 = _ := hd ⟨18, .data⟩ (by simp) rfl
     rw [h18] at i18
     have h19 : vs 19 = _ := hd ⟨19, .data⟩ (by simp) rfl
     rw [h19] at i19
     clear hd
     unfold GivesOp
     go_simp
     refine (rSameIts_calls KI ia ni ic ja nj jc W (HI56.out.ext HW.out) (HI6.out.ext HW.out) hni HFW.out.2).mono ?_
     rintro r5 w5 ⟨rfl, hx5⟩
     exact ⟨_, rfl, hx5, HW.out.trans hx5, rfl⟩
    ·cases ho
     have h20 : vs 20 = _ := hd ⟨20, .data⟩ (by simp) rfl
     rw [h20] at i20
     clear hd
     unfold GivesOp
     go_simp
     exact ⟨Ext.refl _, HW.out, rfl⟩
    cases ho
    have h17 : vs 17 = _ := hd ⟨17, .data⟩ (by simp) rfl
    rw [h17] at i17
    have h21 : vs 21 = _ := hd ⟨21, .data⟩ (by simp) rfl
    rw [h21] at i21
    clear hd
    unfold GivesOp
    go_simp
    exact ⟨Ext.refl _, HW.out, rfl⟩
   intro L vs W hLm hW hR
   rw [if_pos (by decide +kernel)]
   have h22 : vs 22 = .bool false := hR 22 (by simp) (by omega)
   simp only [acts, dstAt, List.range, List.range.loop, List.foldl_cons, List.foldl_nil, h22]
   go_simp
   have hW2 : Ext w6 W := hW
   clear hR hW hLm h22
   have HW2 := hI hW2
   have HB7 := hI (hW2.blk HB6.out)
   clear hW2 b0 b1 b2 b3' b4 b5 b6 b7 b8 b9 b10 b11 b12 bf hlb
   have hBQ := HB7.out
   unfold Wv.obj Wv.cells at hBQ
   dsimp only at hBQ
   have p11 := blk_cell hBQ 11
   have pf := blk_free hBQ 11
   clear hBQ
   go_wp2_with fail
   go_roundw
   case rel => exact ⟨q + 1, hour, by go_num, by omega, heap_setCell_same _ _ _ _ _ _ HB7.out, Ext.setAbove (HX6.out.trans HW2.out) (by rw [HB3.out]; simp) _⟩
   case measure => simp [intOf]; omega
  have t1 : decide ((q : Int) < 2) = false := decide_eq_false (by omega)
  obtain ⟨NL, hNL⟩ : ∃ NL, NL = knownL c.events := ⟨_, rfl⟩
  have HNL := hI (show NL.length <= 1000000 by
   rw [hNL]
   have h1 := knF_len c.events c.events.length
   unfold KnF at h1
   rw [List.take_length] at h1
   have h2 := HEN.out
   unfold knownL
   omega)
  have HCH2 := hI HCH.out
  have HKN2 := hI HKN.out
  rw [<- hNL] at HCH2 HKN2
  clear hNL
  go_upto_region 10 with fail
  refine wp_region_growLG (n := 74) (m := 13) [12] (GrGZ wo) GrE (GrP (effw10R b3 c ea en ec NL)) (by kernel_rfl) (by kernel_rfl) (Nat.le_of_ble_eq_true rfl) ?gd ((Ext.refl wo).drew) ?_ ?_ ?_
  case gd =>
   intro i o j b hi ho hg
   rcases ltc13 hi with rfl | rfl | rfl | rfl | rfl | rfl | rfl | rfl | rfl | rfl | rfl | rfl | rfl <;> (cases ho; first | (cases hg; done) | (cases hg; intro v W h; exact h))
  ·intro i k v W W' hi hk hne hout h hE
   have hE : Ext W W' := hE
   have hi' := ltc13 hi
   clear hi hk hne hout
   rcases hi' with rfl | rfl | rfl | rfl | rfl | rfl | rfl | rfl | rfl | rfl | rfl | rfl | rfl
   ·exact h
   ·exact h
   ·obtain ⟨p1, q1, e0, h⟩ := h
    exact ⟨p1, q1, e0, h.mono hE.sub⟩
   ·exact h
   ·exact h
   ·obtain ⟨y5, e0, h⟩ := h
    exact ⟨y5, e0, hE.blk h⟩
   ·obtain ⟨y6, e0, h⟩ := h
    exact ⟨y6, e0, hE.blk h⟩
   ·obtain ⟨p2, q2, e0, h⟩ := h
    exact ⟨p2, q2, e0, h.mono hE.sub⟩
   ·exact h
   ·exact h
   ·exact h
   ·exact h
   exact h
  ·intro q op hq ho L vs W hqL hcL hW hd ρ hρ
   have hq' := ltc13 hq
   clear hq
   have o5 : ρ (.tmp 5) = .pointer (some ⟨b3, 0, none⟩) := hρ.out 5 rfl
   have i0 := hρ.i 0 62
   have i1 := hρ.i 1 63
   have i3 := hρ.i 3 65
   have i4 := hρ.i 4 66
   have i5 := hρ.i 5 67
   have i6 := hρ.i 6 68
   have i2 := hρ.i 2 64
   have i7 := hρ.i 7 69
   have i8 := hρ.i 8 70
   have i9 := hρ.i 9 71
   have i10 := hρ.i 10 72
   have i11 := hρ.i 11 73
   have hc := hρ.const
   have hfn := hρ.func
   clear hρ
   have HG := hI hW
   have HW := hI (show Ext wo W from hW)
   have HQL := hI hqL
   clear hW hqL hcL
   rcases hq' with rfl | rfl | rfl | rfl | rfl | rfl | rfl | rfl | rfl | rfl | rfl | rfl | rfl
   ·cases ho
    clear hd
    unfold GivesOp
    go_simp
    exact ⟨Ext.refl _, HW.out, rfl⟩
   ·cases ho
    have h0 : vs 0 = _ := hd ⟨0, .data⟩ (by simp) rfl
    rw [h0] at i0
    clear hd
    have g0 := HW.out.cell b4
    have g1 := HW.out.cell b5
    have g2 := HW.out.cell b6
    have g3 := HW.out.cell b7
    have g4 := HW.out.cell b8
    have g5 := HW.out.cell b9
    have g6 := HW.out.cell b10
    unfold GivesOp
    go_simp
    exact ⟨Ext.refl _, HW.out, rfl⟩
   ·cases ho
    have h1 : vs 1 = _ := hd ⟨1, .data⟩ (by simp) rfl
    rw [h1] at i1
    clear hd
    unfold GivesOp
    go_simp
    refine (HCH2.out W (HX.out.trans HW.out)).mono ?_
    rintro r5 w5 ⟨a5, c5, rfl, hi5, hx5⟩
    exact ⟨_, rfl, hx5, HW.out.trans hx5, a5, c5, rfl, hi5⟩
   ·cases ho
    clear hd
    unfold GivesOp
    go_simp
    exact ⟨Ext.refl _, HW.out, rfl⟩
   ·cases ho
    have h3 : vs 3 = _ := hd ⟨3, .data⟩ (by simp) rfl
    rw [h3] at i3
    clear hd
    have g0 := HW.out.cell b4
    have g1 := HW.out.cell b5
    have g2 := HW.out.cell b6
    have g3 := HW.out.cell b7
    have g4 := HW.out.cell b8
    have g5 := HW.out.cell b9
    have g6 := HW.out.cell b10
    unfold GivesOp
    go_simp
    exact ⟨Ext.refl _, HW.out, rfl⟩
   ·cases ho
    have h4 : vs 4 = _ := hd ⟨4, .data⟩ (by simp) rfl
    rw [h4] at i4
    clear hd
    unfold GivesOp
    go_simp
    exact ⟨(Ext.refl W).alloc _, HW.out.alloc _, W.heap.size, rfl, alloc_new W _⟩
   ·cases ho
    obtain ⟨y5, h5, hs5⟩ : ∃ (y5 : Nat), vs 5 = .slice (some ⟨y5, 0, none⟩) 1 1 /\ W.heap[y5]? = some (.cells #[.int .i64 c.id, .int .i64 c.policy, .int .i64 c.risk, .int .i64 c.hour, .int .i64 c.peril, .int .i64 c.area, .slice ea en ec] 27 (0, 0)) := hd ⟨5, .data⟩ (by simp) rfl
    have HS5 := hI hs5
    clear hs5
    rw [h5] at i5
    clear hd
    unfold GivesOp
    go_simp
    exact ⟨Ext.refl _, HW.out, y5, rfl, HS5.out⟩
   ·cases ho
    obtain ⟨y6, h6, hs6⟩ : ∃ (y6 : Nat), vs 6 = .agg #[.slice none 0 0, .slice none 0 0, .slice (some ⟨y6, 0, none⟩) 1 1, .slice none 0 0] /\ W.heap[y6]? = some (.cells #[.int .i64 c.id, .int .i64 c.policy, .int .i64 c.risk, .int .i64 c.hour, .int .i64 c.peril, .int .i64 c.area, .slice ea en ec] 27 (0, 0)) := hd ⟨6, .data⟩ (by simp) rfl
    have HS6 := hI hs6
    clear hs6
    rw [h6] at i6
    clear hd
    unfold GivesOp
    go_simp
    refine (HKN2.out y6 W (HX.out.trans HW.out) HS6.out).mono ?_
    rintro r5 w5 ⟨a5, c5, rfl, hi5, hx5⟩
    exact ⟨_, rfl, hx5, HW.out.trans hx5, a5, c5, rfl, hi5⟩
   ·cases ho
    obtain ⟨p1, q1, h2, hs2⟩ : ∃ (p1 : OA) (q1 : Nat), vs 2 = .slice p1 NL.length q1 /\ IsIntF W NL p1 NL.length := hd ⟨2, .data⟩ (by simp) rfl
    have HS2 := hI hs2
    clear hs2
    rw [h2] at i2
    obtain ⟨p2, q2, h7, hs7⟩ : ∃ (p2 : OA) (q2 : Nat), vs 7 = .slice p2 NL.length q2 /\ IsIntF W NL p2 NL.length := hd ⟨7, .data⟩ (by simp) rfl
    have HS7 := hI hs7
    clear hs7
    rw [h7] at i7
    clear hd
    unfold GivesOp
    go_simp
    refine (sameIntsF_calls NL NL _ _ _ _ _ _ W HS2.out HS7.out (by have := HNL.out; omega)).mono ?_
    rintro r5 w5 ⟨rfl, ⟨m5, rfl⟩⟩
    exact ⟨_, rfl, (Ext.refl W).drewN _, HW.out.trans ((Ext.refl W).drewN _), by rw [decide_eq_true rfl]; rfl⟩
   ·cases ho
    have h8 : vs 8 = _ := hd ⟨8, .data⟩ (by simp) rfl
    rw [h8] at i8
    clear hd
    unfold GivesOp
    go_simp
    exact ⟨Ext.refl _, HW.out, rfl⟩
   ·cases ho
    clear hd
    unfold GivesOp
    go_simp
    refine (awake18_calls W).mono ?_
    rintro r5 w5 ⟨rfl, hx5⟩
    exact ⟨_, rfl, hx5, HW.out.trans hx5, rfl⟩
   ·cases ho
    have h9 : vs 9 = _ := hd ⟨9, .data⟩ (by simp) rfl
    rw [h9] at i9
    have h10 : vs 10 = _ := hd ⟨10, .data⟩ (by simp) rfl
    rw [h10] at i10
    clear hd
    unfold GivesOp
    go_simp
    exact ⟨Ext.refl _, HW.out, rfl⟩
   cases ho
   have h11 : vs 11 = _ := hd ⟨11, .data⟩ (by simp) rfl
   rw [h11] at i11
   clear hd
   unfold GivesOp
   go_simp
   exact ⟨Ext.refl _, HW.out, rfl⟩
  intro L vs W hLm hW hR
  rw [if_pos (by decide +kernel)]
  have h12 : vs 12 = .bool true := hR 12 (by simp) (by omega)
  simp only [acts, dstAt, List.range, List.range.loop, List.foldl_cons, List.foldl_nil, h12]
  go_simp
  have hW2 : Ext wo W := hW
  clear hR hW hLm h12
  go_wp2_with fail
  go_ret
  exact givesE_bool rfl (HX1.out.trans (HX.out.trans hW2))
end Go.Proofs.YtpkljcgihobaiaaGreat
