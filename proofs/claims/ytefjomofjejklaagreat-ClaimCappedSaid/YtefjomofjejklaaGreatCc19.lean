/-
  Texts of the claim, joined: Effs, Hour, Itms, SetRow, Cln, CItm, REvs, Wts.
-/
import Derived.Test.YtefjomofjejklaaGreatCc18
import Derived.Lib.SliceRun
namespace Go.Proofs.YtefjomofjejklaaGreat
set_option maxRecDepth 100000
set_option maxHeartbeats 32000000
open Go.RowKit
theorem effGo_len (hour : Int) : (l : List Ev) -> (v : ZI) -> (effGo hour v l).length <= l.length
 | [], _ => by simp [effGo]
 | x :: r, v => by
  unfold effGo
  by_cases h : hour < x.known \/ v.any (· == x.number) = true
  ·rw [if_pos h]; have := effGo_len hour r v; simp; omega
  rw [if_neg h]; have := effGo_len hour r (if isVoid x then x.target :: v else v); simp; omega
theorem effL_len (l : List Ev) (hour : Int) : (effL l hour).length <= l.length := by
 unfold effL
 by_cases h : soundEvs [] l = true
 ·rw [if_pos h, List.length_reverse]; have := effGo_len hour l.reverse []; simpa using this
 rw [if_neg h]; simp
def EffN (l : List Ev) (n base : Nat) (w : World) (v i : Value) (wr : World) : Prop := ∃ f : ZI, i = .int .i64 (f.length : Nat) /\ f.length <= n /\ f = (l.take f.length).map (·.number) /\ wr.ownsRow base 3 1 v f.length (f.flatMap intCells) /\ Ext w wr
theorem effs_calls (c : Clm) (a : OA) (n cap : Nat) (hour : Int) (w : World) (hi : IsEvs w c.events a n cap) (hn2 : n <= 1000000000000) (hfit : ∀ x ∈ c.events, fitEv x) :
  Calls Tryz.prog 29 #[ClmArg c a n cap, .int .i64 hour] w (IntsQ ((effL c.events hour).map (·.number)) w) := by
 obtain ⟨wa, hwa⟩ : ∃ wa, wa = w.alloc (.cells #[.int .i64 c.id, .int .i64 c.policy, .int .i64 c.risk, .int .i64 c.hour, .int .i64 c.peril, .int .i64 c.area, .slice a n cap] 33) := ⟨_, rfl⟩
 have HXA := hI (show Ext w wa by rw [hwa]; exact (Ext.refl _).alloc _)
 have HB0 := hI (show wa.heap[w.heap.size]? = some (.cells #[.int .i64 c.id, .int .i64 c.policy, .int .i64 c.risk, .int .i64 c.hour, .int .i64 c.peril, .int .i64 c.area, .slice a n cap] 33 (0, 0)) by rw [hwa]; exact alloc_new w _)
 have HE := hI (effective_calls c a n cap hour wa (hi.ext HXA.out) hn2 hfit)
 unfold ClmArg at HE
 obtain ⟨l, hl⟩ : ∃ l, l = effL c.events hour := ⟨_, rfl⟩
 have HLL := hI (show l.length <= n by rw [hl]; have := effL_len c.events hour; have := hi.len; omega)
 unfold EffQ at HE
 rw [<- hl] at HE ⊢
 clear hl hi hfit
 unfold ClmArg
 obtain ⟨b0, b1, b2, b3, b4, b5, b6, bf⟩ := blk7 HB0.out
 go_enter Tryz.func29, Tryz.ntmps29
 go_upto_region 1 with fail
 rw [<- hwa]
 clear hwa
 go_wp2_with fail
 refine HE.out.mono ?_
 rintro r w1 ⟨ra, rn, rc, rfl, hev, hx1⟩
 have HEV := hI hev
 have HX1 := hI (HXA.out.trans hx1)
 have HRN := hI hev.len
 have hrn : rn <= 1000000000000 := by have := HRN.out; have := HLL.out; omega
 clear hev hx1 HE b0 b1 b2 b3 b4 b5 b6 bf HB0 HXA
 go_wp2_with fail
 go_loopw [5, 12] (EffN l rn w1.heap.size w1) (fun _ i _ => rn - (intOf i).toNat)
 case atStart => exact ⟨[], rfl, Nat.zero_le _, rfl, ⟨rfl, Or.inl ⟨rfl, rfl⟩⟩, Ext.refl _⟩
 case round =>
  obtain ⟨f, rfl, hk, hfe, hown, hx⟩ := hrel
  obtain ⟨wo, rfl⟩ : ∃ wo : World, wo = wr := ⟨_, rfl⟩
  obtain ⟨k, hkf⟩ : ∃ k, k = f.length := ⟨_, rfl⟩
  rw [<- hkf] at hown hk hfe ⊢
  have HKF := hI hkf
  have HFE := hI hfe
  have HOWN := hI hown
  have HX := hI hx
  clear hkf hfe hown hx
  by_cases hkn : k < rn
  ·have hkl : k < l.length := by have := HRN.out; omega
   have t1 : decide ((k : Int) < (rn : Int)) = true := decide_eq_true (by omega)
   have HXE := hI (HEV.out.ext HX.out)
   obtain ⟨b, off, v, rfl, hvx, hits, hrow⟩ := HXE.out.at hkl
   obtain ⟨c0, c1, c2, c3, c4, c5, c6⟩ := hrow.seven
   have HVX := hI hvx
   clear hvx hits hrow
   obtain ⟨wb, hwb⟩ : ∃ wb, wb = wo.alloc (.cells #[.int .i64 v.x.number, .int .i64 v.x.known, .int .i64 v.x.kind, .slice v.a v.n v.c, .int .i64 v.x.cur, .int .i64 v.x.amount, .int .i64 v.x.target] 71) := ⟨_, rfl⟩
   have HXB := hI (show Ext wo wb by rw [hwb]; exact (Ext.refl _).alloc _)
   have HBE := hI (show wb.heap[wo.heap.size]? = some (.cells #[.int .i64 v.x.number, .int .i64 v.x.known, .int .i64 v.x.kind, .slice v.a v.n v.c, .int .i64 v.x.cur, .int .i64 v.x.amount, .int .i64 v.x.target] 71 (0, 0)) by rw [hwb]; exact alloc_new wo _)
   go_upto_region 5 with fail
   rw [<- hwb]
   clear hwb c0 c1 c2 c3 c4 c5 c6
   obtain ⟨y0, y1, y2, y3, y4, y5, y6, yf⟩ := blk7 HBE.out
   have HO2 := hI (owns_ext HOWN.out HXB.out)
   have hsz := (HX.out.trans HXB.out).size
   go_wp2_with (at_builtin; refine wpList_append_at elemInts rfl _ _ rfl w1.heap.size _ k _ rfl HO2.out _ 1 1 rfl ?f0 rfl ?f1 ?f2 ?f3 ?f4 ?_)
   case f0 => simp
   case f1 => simp [Value.oneCell']
   case f2 => unfold maxLen; omega
   case f3 => omega
   case f4 => omega
   intro v8 w8 hown8 hc8 hw8
   have HO8 := hI (own_snoc HKF.out hown8)
   have HX8 := hI (hc8.ext (HX.out.trans HXB.out) (fun y hy => (HO2.out.lt y (mem_rowOf.1 hy)).1))
   obtain ⟨a8, c8, hv8⟩ := owns_formG hown8
   subst hv8
   clear hown8 hc8 hw8 y0 y1 y2 y3 y4 y5 y6 yf
   go_wp2_with fail
   go_roundw
   case rel =>
    have e1 : (f ++ [v.x.number]).length = k + 1 := by rw [List.length_append, <- HKF.out]; rfl
    refine ⟨f ++ [v.x.number], by rw [e1]; go_num, by omega, ?_, ?_, HX8.out⟩
    ·rw [e1, List.take_succ_eq_append_getElem hkl, List.map_append, <- HFE.out, <- HVX.out]
     rfl
    exact HO8.out
   case measure => simp [intOf]; omega
  have t1 : decide ((k : Int) < (rn : Int)) = false := decide_eq_false (by omega)
  have hke : k = l.length := by have := HRN.out; omega
  have HQ := hI (show f = l.map (·.number) by have := HFE.out; rwa [hke, List.take_length] at this)
  obtain ⟨fa, fc, e, hints⟩ := ints_own (M := []) (by rw [<- HKF.out]; exact HOWN.out) (fun k _ => by simp)
  subst e
  rw [<- HKF.out] at hints
  have HI := hI hints
  clear hints hke
  go_wp2_with fail
  go_ret
  refine ⟨fa, fc, ?_, ?_, HX1.out.trans HX.out⟩
  ·rw [<- HQ.out, <- HKF.out]; rfl
  rw [<- HQ.out, <- HKF.out]
  exact HI.out.mono (mask_sub _ _)
theorem money_calls {w0 w : World} {bd : Nat} (h : DeckAt w0 w bd) : Calls Tryz.prog 66 #[.pointer (some ⟨bd, 0, none⟩)] w (NextQ 0 1073741825 w0 bd w) := by
 have HU := hI (upto_calls h 1073741824 (by omega) (by omega))
 clear h
 go_enter Tryz.func66, Tryz.ntmps66
 go_wp2_with fail
 refine HU.out.mono ?_
 rintro e w1 ⟨r, rfl, hr0, hr1, hd, hc⟩
 go_wp2_with fail
 go_ret
 exact ⟨r, rfl, hr0, by omega, hd, hc⟩
theorem hour_calls {w0 w : World} {bd : Nat} (h : DeckAt w0 w bd) : Calls Tryz.prog 70 #[.pointer (some ⟨bd, 0, none⟩)] w (NextQ 0 876600 w0 bd w) := by
 go_enter Tryz.func70, Tryz.ntmps70
 go_wp2_with fail
 refine (next_calls h 4 (by omega) (by omega)).mono ?_
 rintro e w1 ⟨r, rfl, hr0, hr1, hd, hc⟩
 have HC := hI hc
 have H4 := hI (fun (k : Int) (hk : 0 < k) (hk2 : k <= 876600) => next_calls hd k hk (by omega))
 clear hc hd h
 have hr : r = 0 \/ r = 1 \/ r = 2 \/ r = 3 := by omega
 clear hr0 hr1
 rcases hr with rfl | rfl | rfl | rfl
 all_goals
  go_wp2_with fail
  refine (H4.out _ (by omega) (by omega)).mono ?_
  rintro e w2 ⟨q, rfl, hq0, hq1, hd2, hc2⟩
  have HC2 := hI (HC.out.then hc2)
  have HD2 := hI hd2
  clear hc2 hd2 H4 HC
  go_wp2_with fail
  go_ret
  exact ⟨_, rfl, by omega, by omega, HD2.out, HC2.out⟩
def PerQ (w0 : World) (bd : Nat) (w : World) (e : Ending) (w' : World) : Prop := ∃ f t : Int, e = .returned (.agg #[.int .i64 f, .int .i64 t]) /\ 0 <= f /\ f < t /\ t <= 876600 /\ DeckAt w0 w' bd /\ Chg [bd] w w'
theorem period_calls {w0 w : World} {bd : Nat} (h : DeckAt w0 w bd) : Calls Tryz.prog 35 #[.pointer (some ⟨bd, 0, none⟩)] w (PerQ w0 bd w) := by
 have hbw := h.lt
 have HD := hI h
 have HW0 := hI (show w0.heap.size <= w.heap.size by obtain ⟨_, _, _, _, _, _, _, _, hxw, _⟩ := h; exact hxw.size)
 clear h
 obtain ⟨wa, hwa⟩ : ∃ wa, wa = w.alloc (.cells #[.int .i64 0, .int .i64 0] 89) := ⟨_, rfl⟩
 have HXA := hI (show Ext w wa by rw [hwa]; exact (Ext.refl _).alloc _)
 have HBA := hI (show wa.heap[w.heap.size]? = some (.cells #[.int .i64 0, .int .i64 0] 89 (0, 0)) by rw [hwa]; exact alloc_new w _)
 have HDA := hI (HD.out.ext HXA.out)
 go_enter Tryz.func35, Tryz.ntmps35
 go_upto_region 1 with fail
 rw [<- hwa]
 clear hwa
 go_wp2_with fail
 refine (hour_calls HDA.out).mono ?_
 rintro e w1 ⟨r, rfl, hr0, hr1, hd1, hc1⟩
 have HD1 := hI hd1
 have HC1 := hI hc1
 have HB1 := hI (hc1.blk HBA.out (by simp; omega))
 clear hd1 hc1
 go_wp2_with fail
 refine (hour_calls HD1.out).mono ?_
 rintro e w2 ⟨q, rfl, hq0, hq1, hd2, hc2⟩
 have HD2 := hI hd2
 have HC2 := hI (HC1.out.then hc2)
 have HB2 := hI (hc2.blk HB1.out (by simp; omega))
 clear hd2 hc2 HD1 HC1 HB1
 obtain ⟨c0, c1, cf⟩ := blk2 HB2.out
 have hlt2 := blk_lt HB2.out
 have k0 : ∀ x : Value, (w2.setCell ⟨w.heap.size, 0, none⟩ x).cell? ⟨w.heap.size, 0, none⟩ = some x := fun x => by simpa using blk_cell (heap_setCell_same w2 w.heap.size 0 _ _ x HB2.out) 0
 have k1 : ∀ x y : Value, ((w2.setCell ⟨w.heap.size, 0, none⟩ x).setCell ⟨w.heap.size, 1, none⟩ y).cell? ⟨w.heap.size, 1, none⟩ = some y := fun x y => by simpa using blk_cell (heap_setCell_same _ w.heap.size 1 _ _ y (heap_setCell_same w2 w.heap.size 0 _ _ x HB2.out)) 1
 go_wp2_with fail
 all_goals
  refine bodyPost_ret (v := .agg #[.int .i64 _, .int .i64 _]) (by simp [results, Tryz.results35, go_sem, k0, k1]; exact ⟨rfl, rfl⟩) rfl ?_
  refine ⟨_, _, rfl, by omega, by omega, by omega, HD2.out.chg (N := [w.heap.size]) (((Chg.refl _ _).setCell (Or.inl (by simp)) _).setCell (Or.inl (by simp)) _) (by simp; omega) (by have := HW0.out; simp; omega), ?_⟩
  exact ((((HXA.out.chg [bd]).then HC2.out).setCell (Or.inr (by simp)) _).setCell (Or.inr (by simp)) _)
theorem elemIt : ElemT 61 120 (.agg #[.slice none 0 0, .int .i64 0, .int .i64 0, .int .i64 0]) 4 48 := ⟨by kernel_rfl, by kernel_rfl, rfl, by decide⟩
def ItmOk (attrs : List Attr) (x : It) : Prop := itErr attrs x = 0 /\ x.facts.length <= 1000
theorem itmOk_of {attrs : List Attr} {f : ZI} {a b c : Int} (h : factsB attrs f = true) (hl : f.length <= 1000) (a0 : 0 <= a) (a1 : a < 1073741825) (b0 : 0 <= b) (b1 : b < 1073741825) (c0 : 0 <= c) (c1 : c < 1073741825) : ItmOk attrs ⟨f, a, b, c⟩ := by
 refine ⟨itErr_ok h ?_, hl⟩
 unfold moneyB inB
 simp only [Bool.and_eq_true, decide_eq_true_eq]
 omega
def ItsQ (attrs : List Attr) (w0 : World) (bd n : Nat) (M : ZN) (w : World) (e : Ending) (w' : World) : Prop := ∃ (l : List It) (a : OA) (c : Nat), e = .returned (.slice a l.length c) /\ (∀ x ∈ l, ItmOk attrs x) /\ l.length <= n /\ IsIts (mask w' M) l a l.length c /\ DeckAt w0 w' bd /\ Chg [bd] w w'
def ItsP (attrs : List Attr) (w0 w : World) (bd bs base n : Nat) (M : ZN) (o : Obj) (v : Value) (K : Int) (vs : List ItV) (wr : World) : Prop := 0 <= K /\ vs.length + K <= n /\ (∀ u ∈ vs, ItmOk attrs u.x /\ IsIntF (mask wr (bd :: rowOf v ++ M)) u.x.facts u.a u.n) /\ wr.ownsRow base 120 4 v vs.length (vs.flatMap ItV.cells) /\ wr.heap[bs]? = some o /\ DeckAt w0 wr bd /\ Chg [bd] w wr
def ItsL (attrs : List Attr) (w0 w : World) (bd bs base n : Nat) (M : ZN) (o : Obj) (v i : Value) (wr : World) : Prop := ∃ (K : Int) (vs : List ItV), i = .int .i64 K /\ ItsP attrs w0 w bd bs base n M o v K vs wr
theorem its_own {w : World} {M : ZN} {base : Nat} {v : Value} {vs : List ItV} (h : w.ownsRow base 120 4 v vs.length (vs.flatMap ItV.cells)) (hM : ∀ k, v.ownBlock = some k -> k ∉ M) (hi : ∀ u ∈ vs, IsIntF (mask w M) u.x.facts u.a u.n) : ∃ a c, v = .slice a vs.length c /\ IsIts (mask w M) (vs.map (·.x)) a (vs.map (·.x)).length c := by
 obtain ⟨a, c, rfl, hr⟩ := IsRows.of_owns (f := ItV.cells) (fun _ => rfl) h
 refine ⟨a, c, rfl, vs, ?_, rfl, hi⟩
 rw [List.length_map]
 refine ⟨rfl, hr.2.1, hr.2.2.1, fun i hi => ?_⟩
 obtain ⟨b, off, rfl, hc⟩ := hr.2.2.2 i hi
 refine ⟨b, off, rfl, fun j hj => ?_⟩
 rw [mask_cell, if_neg (hM _ rfl)]
 exact hc j hj
theorem own_snocIt {w : World} {base : Nat} {v : Value} {vs : List ItV} {k : Nat} {u : ItV} (hk : k = vs.length) (h : w.ownsRow base 120 4 v (k + 1) (vs.flatMap ItV.cells ++ (#[Value.slice u.a u.n u.c, .int .i64 u.x.value, .int .i64 u.x.sum, .int .i64 u.x.gross] : Array Value).toList)) : w.ownsRow base 120 4 v (vs ++ [u]).length ((vs ++ [u]).flatMap ItV.cells) := by
 have : (vs ++ [u]).length = k + 1 := by simp [hk]
 rw [this]
 simpa [ItV.cells] using h
theorem isIntF_mono {w w' : World} {f : ZI} {a : OA} {n : Nat} (h : IsIntF w f a n) (hs : Sub w w') : IsIntF w' f a n := h.mono hs
theorem items_calls {attrs : List Attr} (h0 : schemaErr attrs = 0) (hf : ∀ x ∈ attrs, x.fits) {w0 w : World} {bd : Nat} (hd : DeckAt w0 w bd) (sa : OA) (sn sc : Nat) (M : ZN) (hs : IsSchema (mask w [bd]) attrs (.agg #[.slice sa sn sc])) (hM : ∀ y ∈ M, y < w.heap.size) (n : Nat) (hn : n <= 1000) :
  Calls Tryz.prog 32 #[.pointer (some ⟨bd, 0, none⟩), .agg #[.slice sa sn sc], .int .i64 n] w (ItsQ attrs w0 bd n M w) := by
 have hbw := hd.lt
 have HD := hI hd
 have HM := hI hM
 have HFC := hI (fun (M' : ZN) W (hW : Chg [bd] w W) (hdW : DeckAt w0 W bd) (hM' : ∀ y ∈ M', y < W.heap.size) => dfacts_calls h0 hf hdW sa sn sc M' (hs.mono (mask_step hW (by simp))) hM')
 have HW0 := hI (show w0.heap.size <= w.heap.size by obtain ⟨_, _, _, _, _, _, _, _, hxw, _⟩ := hd; exact hxw.size)
 have HFB := hI (fun (f : ZI) (h : factsAll attrs f = true) => (show factsB attrs f = true by unfold factsB; rw [h0, h]; rfl))
 clear hs hM hf hd
 obtain ⟨wa, hwa⟩ : ∃ wa, wa = w.alloc (.cells #[.slice sa sn sc] 25) := ⟨_, rfl⟩
 have hxa : Ext w wa := by rw [hwa]; exact (Ext.refl _).alloc _
 have HB0 := hI (show wa.heap[w.heap.size]? = some (.cells #[.slice sa sn sc] 25 (0, 0)) by rw [hwa]; exact alloc_new w _)
 have HDA := hI (HD.out.ext hxa)
 have HCA := hI (hxa.chg [bd])
 clear hxa
 go_enter Tryz.func32, Tryz.ntmps32
 go_upto_region 1 with fail
 rw [<- hwa]
 clear hwa
 go_wp2_with fail
 refine (next_calls HDA.out ((n : Int) + 1) (by omega) (by omega)).mono ?_
 rintro r w1 ⟨q, rfl, hq0, hq1, hd1, hc1⟩
 have HD1 := hI hd1
 have HC1 := hI (HCA.out.then hc1)
 have HB1 := hI (hc1.blk HB0.out (by simp; omega))
 clear hd1 hc1
 go_wp2_with fail
 go_loopw [7, 8] (ItsL attrs w0 w bd w.heap.size (w.heap.size + 1) n M (.cells #[.slice sa sn sc] 25 (0, 0))) (fun _ i _ => (intOf i).toNat)
 case atStart => exact ⟨q, [], rfl, hq0, by simp; omega, fun u h => by simp at h, ⟨rfl, Or.inl ⟨rfl, rfl⟩⟩, HB1.out, HD1.out, HC1.out⟩
 case round =>
  obtain ⟨K, vs, rfl, hk0, hkn, hall, hown, hb0, hd, hc⟩ := hrel
  obtain ⟨wo, rfl⟩ : ∃ wo : World, wo = wr := ⟨_, rfl⟩
  obtain ⟨k, hkf⟩ : ∃ k, k = vs.length := ⟨_, rfl⟩
  rw [<- hkf] at hown hkn
  have HKF := hI hkf
  have HALL := hI hall
  have HOWN := hI hown
  have HBB := hI hb0
  have HDR := hI hd
  have HCR := hI hc
  obtain ⟨e0, ef⟩ := blk1 hb0
  have HRO := hI (show ∀ z ∈ rowOf u7, w.heap.size + 1 <= z /\ z < wo.heap.size from fun z hz => ⟨(hown.lt z (mem_rowOf.1 hz)).1, (hown.lt z (mem_rowOf.1 hz)).2⟩)
  clear hkf hall hown hb0 hd hc
  by_cases hkp : 0 < K
  ·have t1 : decide (0 < K) = true := decide_eq_true hkp
   have hMR : ∀ y ∈ bd :: rowOf u7 ++ M, y < wo.heap.size := by
    intro y hy
    simp only [List.cons_append, List.mem_cons, List.mem_append] at hy
    have := HCR.out.size
    rcases hy with h | h | h
    ·omega
    ·exact (HRO.out y h).2
    have := HM.out y h; omega
   have HF1 := hI (HFC.out (bd :: rowOf u7 ++ M) wo HCR.out HDR.out hMR)
   clear hMR
   go_wp2_with fail
   refine HF1.out.mono ?_
   rintro r w1 ⟨f, fa, fc, rfl, hfa, hfl, hfi, hd1, hc1⟩
   have HFA := hI hfa
   have HFI1 := hI hfi
   have HD1 := hI hd1
   have HC1 := hI hc1
   have HFL := hI hfl
   obtain ⟨fl, hfln⟩ : ∃ fl, fl = f.length := ⟨_, rfl⟩
   rw [<- hfln]
   have HFLN := hI hfln
   clear hfa hfi hd1 hc1 e0 ef hfl hfln
   go_wp2_with fail
   refine (money_calls HD1.out).mono ?_
   rintro r w2 ⟨m1, rfl, hm10, hm11, hd2, hc2⟩
   have HD2 := hI hd2
   have HC2 := hI (HC1.out.then hc2)
   have HC22 := hI hc2
   clear hd2 hc2
   go_wp2_with fail
   refine (money_calls HD2.out).mono ?_
   rintro r w3 ⟨m2, rfl, hm20, hm21, hd3, hc3⟩
   have HD3 := hI hd3
   have HC3 := hI (HC2.out.then hc3)
   have HC24 := hI (HC22.out.then hc3)
   clear hd3 hc3
   go_wp2_with fail
   refine (money_calls HD3.out).mono ?_
   rintro r w4 ⟨m3, rfl, hm30, hm31, hd4, hc4⟩
   have HD4 := hI hd4
   have HC4 := hI (HC3.out.then hc4)
   have HC14 := hI (HC24.out.then hc4)
   clear hd4 hc4
   have HOK := hI (itmOk_of (HFB.out f HFA.out) HFL.out hm10 hm11 hm20 hm21 hm30 hm31)
   have hsx := (HCR.out.then HC4.out).size
   have HO4 := hI (owns_chg HOWN.out HC4.out (fun q hq hm => by have := (HRO.out q (mem_rowOf.2 hq)).1; simp only [List.mem_singleton] at hm; omega))
   have HB4 := hI (HC4.out.blk HBB.out (by simp; omega))
   have hbl4 := blk_lt HB4.out
   go_wp2_with (at_builtin; refine wpList_append_at elemIt rfl _ _ rfl (w.heap.size + 1) _ k _ rfl HO4.out _ 1 1 rfl ?f0 rfl ?f1 ?f2 ?f3 ?f4 ?_)
   case f0 => simp
   case f1 => simp [Value.oneCell']
   case f2 => unfold maxLen; omega
   case f3 => omega
   case f4 => omega
   intro v8 w8 hown8 hc8 hw8
   have hnb : bd ∉ rowOf u7 := fun hm => by have := (HRO.out _ hm).1; omega
   have HO8 := hI (own_snocIt (u := ⟨⟨f, m1, m2, m3⟩, fa, fl, fc⟩) HKF.out hown8)
   have HB8 := hI (hc8.blk HB4.out (fun hm => by have := (HRO.out _ hm).1; omega))
   have HD8 := hI (HD4.out.chg hc8 hnb (fun y hy => by have := (HRO.out _ hy).1; have := HW0.out; omega))
   have HC8 := hI ((HCR.out.then HC4.out).trans hc8 (fun y hy => Or.inr (by have := (HRO.out _ hy).1; omega)))
   have HKP := hI (keep_rows (bd := bd) (M := M) hc8 hw8)
   have HI8 := hI (show ∀ u ∈ vs ++ [⟨⟨f, m1, m2, m3⟩, fa, fl, fc⟩], ItmOk attrs u.x /\ IsIntF (mask w8 (bd :: rowOf v8 ++ M)) u.x.facts u.a u.n by
    intro u hu
    rcases List.mem_append.1 hu with h | h
    ·obtain ⟨g1, g2⟩ := HALL.out u h
     exact ⟨g1, isIntF_mono g2 (((mask_step HC4.out (by simp))).trans HKP.out)⟩
    simp only [List.mem_singleton] at h
    subst h
    exact ⟨HOK.out, by rw [HFLN.out]; exact isIntF_mono HFI1.out ((mask_step HC14.out (by simp)).trans HKP.out)⟩)
   obtain ⟨a8, c8, hv8⟩ := owns_formG hown8
   subst hv8
   clear hown8 hc8 hw8
   go_wp2_with fail
   go_roundw
   case rel => exact ⟨K - 1, vs ++ [⟨⟨f, m1, m2, m3⟩, fa, fl, fc⟩], rfl, by omega, by rw [List.length_append, <- HKF.out]; simp; omega, HI8.out, HO8.out, HB8.out, HD8.out, HC8.out⟩
   case measure => simp [intOf]; omega
  have t1 : decide (0 < K) = false := decide_eq_false hkp
  have hos := HOWN.out
  rw [HKF.out] at hos
  obtain ⟨a', c', rfl, hii⟩ := its_own (M := M) hos (fun z hz hm => by have := (HRO.out z (mem_rowOf.2 hz)).1; have := HM.out z hm; omega) (fun u hu => isIntF_mono (HALL.out u hu).2 (mask_less _ (fun y hy => by simp [hy])))
  have HII := hI hii
  have HLN := hI (show (vs.map (·.x)).length = vs.length by simp)
  clear hos hii
  go_wp2_with fail
  go_ret
  refine ⟨vs.map (·.x), a', c', (by rw [HLN.out]; rfl), fun x hx => ?_, by rw [HLN.out, <- HKF.out]; omega, HII.out, HDR.out, HCR.out⟩
  obtain ⟨u, hu, rfl⟩ := List.mem_map.1 hx
  exact (HALL.out u hu).1
theorem run_append_zero {P : Program} (W : World) (t ty e : TypeId) (i : TypeInfo) (ht : P.underlying t = some (.slice e)) (hi : P.info? e = some i) (b : OA) (n cap : Nat) (hnc : n <= cap) (ax : OA) (c : Nat) :
  (Builtin.append_ #[t, t] ty #[.slice b n cap, .slice ax 0 c]).run P W = .ok (.slice b n cap) W := by
 cases b <;> cases ax <;> simp [Builtin.append_, run_underlying ht, sizeOf, typeInfo, hi, Builtin.lenOf, Builtin.firstCells, hnc, storeCells, loadCells, loadCellsFrom]
theorem wpList_append_all {t e : TypeId} {z : Value} {size bytes : Nat} (E : ElemT t e z size bytes) {ops : Array Oper} {rest : List Oper} {o : Oper} {a : Act} {Q : Exit -> Act -> World -> Prop} {W : World}
  (hgd : o.guard = none) (s x : Operand) (ho : o.op = .call { callee := .builtin .append, args := #[s, x], argTypes := #[t, t] }) (base : Nat) (v : Value) (n : Nat) (xs : List Value) (hs : a.eval s = v) (hown : W.ownsRow base e size v n xs)
  (ax : OA) (m c : Nat) (news : List Value) (hx : a.eval x = .slice ax m c) (hl : news.length = m * size) (hnews : 0 < m -> ∃ b off, ax = some ⟨b, off, none⟩ /\ ∀ j (h : j < news.length), W.cell? ⟨b, off + j, none⟩ = some news[j]) (h1 : ∀ u ∈ news, u.oneCell' = true)
  (hn : n + m <= 100000000) (hb : bytes <= 1000) (hbase : base <= W.heap.size)
  (h : ∀ v' w', w'.ownsRow base e size v' (n + m) (xs ++ news) -> W.grownBy w' v.ownBlock -> (∀ k, v'.ownBlock = some k -> v.ownBlock = some k \/ k = W.heap.size) -> wpList Tryz.prog ops Q rest (a.put o.dst v') w') : wpList Tryz.prog ops Q (o :: rest) a W := by
 obtain ⟨i, hi, hz, hsz, hby⟩ := info_parts E.info
 by_cases hm : m = 0
 ·subst hm
  have hnil : news = [] := List.eq_nil_of_length_eq_zero (by simpa using hl)
  subst hnil
  obtain ⟨b, cap, rfl, hnc⟩ : ∃ b cap, v = .slice b n cap /\ n <= cap := by
   rcases hown.2 with ⟨rfl, rfl⟩ | ⟨g, cap, cur, rfl, _, _, hnc, _⟩
   ·exact ⟨none, 0, rfl, by omega⟩
   exact ⟨_, cap, rfl, hnc⟩
  refine wpList_plain hgd fun K hK => ?_
  have hrun := run_append_zero (P := Tryz.prog) W t o.type e i E.ht hi b n cap hnc ax c
  unfold Oper.wp
  simp [execOp, ho, resolve, invoke, builtin, hs, hx, hrun, Result.andThen]
  refine hK _ _ (h _ _ (by simpa using hown) ⟨rfl, rfl, rfl, Nat.le_refl _, fun _ _ _ => rfl⟩ (fun k hk => Or.inl hk))
 obtain ⟨b, off, rfl, hcell⟩ := hnews (by omega)
 refine wpList_append_lies W hgd s x t ho base e i z size bytes E.ht hi hz hsz hby E.hzs E.hsz v n xs hs hown ⟨b, off, none⟩ m c news hx hl ?_ h1 (by omega) (by simp only [maxLen]; omega) (by
  calc (n + m) * bytes <= 100000000 * 1000 := Nat.mul_le_mul hn hb
   _ <= 140737488355328 := by omega) hbase _ rfl ?_
 ·intro j u hu
  obtain ⟨hj, rfl⟩ := List.getElem?_eq_some_iff.1 hu
  have : (⟨b, off, none⟩ : Addr).add j = ⟨b, off + j, none⟩ := by unfold Addr.add; split <;> simp_all
  rw [this]
  exact hcell j hj
 intro g cap w' h2 h3 h4 _
 refine h _ w' h2 h3 fun k hk => ?_
 simp only [Value.ownBlock] at hk
 injection hk with hk
 subst hk
 exact h4
theorem int_flatC (l : ZI) : (l.flatMap intCells).length = l.length * 1 := by
 have := length_flatMap_of intCells 1 (fun _ => rfl) l
 omega
theorem int_mapC (l : ZI) : l.flatMap intCells = l.map (Value.int .i64) := by
 induction l with
 | nil => rfl
 | cons x r ih => rw [List.flatMap_cons, ih]; rfl
theorem int_srcC {w : World} {l : ZI} {a : OA} {n : Nat} (h : IsIntF w l a n) : 0 < n -> ∃ b off, a = some ⟨b, off, none⟩ /\ ∀ j (hj : j < (l.flatMap intCells).length), w.cell? ⟨b, off + j, none⟩ = some (l.flatMap intCells)[j] := by
 intro hn
 obtain ⟨b, off, rfl, _⟩ := h.2 0 (by have := h.1; omega)
 refine ⟨b, off, rfl, fun j hj => ?_⟩
 obtain ⟨b', off', e, hc⟩ := h.2 j (by simpa [int_mapC] using hj)
 simp only [Option.some.injEq, Addr.mk.injEq, and_true] at e
 obtain ⟨rfl, rfl⟩ := e
 rw [hc]
 simp [int_mapC]
theorem int_onesC (l : ZI) : ∀ u ∈ l.flatMap intCells, u.oneCell' = true := by
 intro u hu
 rw [int_mapC] at hu
 obtain ⟨x, _, rfl⟩ := List.mem_map.1 hu
 rfl
def itsKn (l : List Ev) : Bool × List It := if (itsK l).1 = true then itsK l else (false, [])
theorem effFwd_step (hour : Int) {l : List Ev} {k : Nat} (hk : k < l.length) : effFwd hour (l.drop k) = if countsB hour l[k] (l.drop (k + 1)) = true then l[k] :: effFwd hour (l.drop (k + 1)) else effFwd hour (l.drop (k + 1)) := by
 rw [List.drop_eq_getElem_cons hk]
 rfl
theorem effFwd_len (hour : Int) : (l : List Ev) -> (effFwd hour l).length <= l.length
 | [] => Nat.le_refl _
 | x :: r => by
  rw [effFwd]
  have := effFwd_len hour r
  by_cases h : countsB hour x r = true
  ·rw [if_pos h]; simp; omega
  rw [if_neg h]; simp; omega
theorem own_snocEw {w : World} {base : Nat} {v : Value} {vs : List EvV} {k : Nat} {u : EvV} (hk : k = vs.length) (h : w.ownsRow base 71 7 v (k + 1) (vs.flatMap EvV.cells ++ (#[Value.int .i64 u.x.number, .int .i64 u.x.known, .int .i64 u.x.kind, .slice u.a u.n u.c, .int .i64 u.x.cur, .int .i64 u.x.amount, .int .i64 u.x.target] : Array Value).toList)) : w.ownsRow base 71 7 v (vs ++ [u]).length ((vs ++ [u]).flatMap EvV.cells) := by
 have : (vs ++ [u]).length = k + 1 := by simp [hk]
 rw [this]
 simpa [EvV.cells] using h
def REvL (hour : Int) (l : List Ev) (vs : List EvV) (n base : Nat) (w : World) (v i : Value) (wr : World) : Prop := ∃ (KP : List EvV) (k : Nat), i = .int .i64 k /\ k <= n /\ KP.length <= k /\ (∀ u ∈ KP, u ∈ vs) /\ KP.map (·.x) ++ effFwd hour (l.drop k) = effFwd hour l /\ wr.ownsRow base 71 7 v KP.length (KP.flatMap EvV.cells) /\ Ext w wr
def REvQ (hour : Int) (l : List Ev) (w : World) (e : Ending) (w' : World) : Prop := ∃ ra rn rc, e = .returned (.slice ra rn rc) /\ IsEvs w' (effFwd hour l) ra rn rc /\ Ext w w'
theorem rEvents_calls (c : Clm) (a : OA) (n cap : Nat) (hour : Int) (w : World) (hi : IsEvs w c.events a n cap) (hn2 : n <= 1000000000000) :
  Calls Tryz.prog 25 #[ClmArg c a n cap, .int .i64 hour] w (REvQ hour c.events w) := by
 have HCN := hI (fun (k : Nat) (W : World) (hk : k < n) (hW : Ext w W) => rcounts_calls c a n cap hour hn2 (n - k) k W (Nat.le_refl _) hk (hi.ext hW))
 have HN := hI hi.len
 obtain ⟨vs, hrows, hvs, hits⟩ := hi
 obtain ⟨l, hl⟩ : ∃ l, l = c.events := ⟨_, rfl⟩
 rw [<- hl] at HCN HN hvs ⊢
 have HV := hI hvs
 have HROWS := hI hrows
 have HITS := hI hits
 clear hrows hvs hits hl
 unfold ClmArg at HCN ⊢
 obtain ⟨wa, hwa⟩ : ∃ wa, wa = w.alloc (.cells #[.int .i64 c.id, .int .i64 c.policy, .int .i64 c.risk, .int .i64 c.hour, .int .i64 c.peril, .int .i64 c.area, .slice a n cap] 33) := ⟨_, rfl⟩
 have HXA := hI (show Ext w wa by rw [hwa]; exact (Ext.refl _).alloc _)
 have HB0 := hI (show wa.heap[w.heap.size]? = some (.cells #[.int .i64 c.id, .int .i64 c.policy, .int .i64 c.risk, .int .i64 c.hour, .int .i64 c.peril, .int .i64 c.area, .slice a n cap] 33 (0, 0)) by rw [hwa]; exact alloc_new w _)
 go_enter Tryz.func25, Tryz.ntmps25
 go_upto_region 1 with fail
 rw [<- hwa]
 clear hwa
 go_wp2_with fail
 go_loopw [5, 6] (REvL hour l vs n wa.heap.size wa) (fun _ i _ => n - (intOf i).toNat)
 case atStart => exact ⟨[], 0, rfl, Nat.zero_le _, Nat.zero_le _, by simp, rfl, ⟨rfl, Or.inl ⟨rfl, rfl⟩⟩, Ext.refl _⟩
 case round =>
  obtain ⟨KP, k, rfl, hk, hkl, hmem, hinv, hown, hx⟩ := hrel
  obtain ⟨wo, rfl⟩ : ∃ wo : World, wo = wr := ⟨_, rfl⟩
  have HMEM := hI hmem
  have HINV := hI hinv
  have HX := hI hx
  obtain ⟨kn, hkn⟩ : ∃ kn, kn = KP.length := ⟨_, rfl⟩
  have HKN := hI hkn
  rw [<- hkn] at hown hkl
  have HOWN := hI hown
  have HBR := hI (hx.blk HB0.out)
  obtain ⟨a0, a1, a2, a3, a4, a5, a6, af⟩ := blk7 HBR.out
  clear hmem hinv hx hkn hown
  by_cases hlt : k < n
  ·have hll : k < l.length := by have := HN.out; omega
   have hkv : k < vs.length := by have := HV.out; rw [this] at hll; simpa using hll
   have t1 : decide ((k : Int) < (n : Int)) = true := decide_eq_true (by omega)
   have HLK := hI (show l[k] = vs[k].x by simp [HV.out])
   have HST := hI (effFwd_step hour hll)
   have hgd : l.getD k ev0 = l[k] := by rw [List.getD_eq_getElem?_getD, List.getElem?_eq_getElem hll, Option.getD_some]
   have HCK := hI (HCN.out k wo hlt (HXA.out.trans HX.out))
   rw [hgd] at HCK
   obtain ⟨B, hB⟩ : ∃ B, B = countsB hour l[k] (l.drop (k + 1)) := ⟨_, rfl⟩
   rw [<- hB] at HCK HST
   clear hB hgd
   go_wp2_with fail
   refine HCK.out.mono ?_
   rintro r w5 ⟨rfl, hx5⟩
   have HX5 := hI (HX.out.trans hx5)
   have HO5 := hI (owns_ext HOWN.out hx5)
   have HX05 := hI hx5
   obtain ⟨d0, d1, d2, d3, d4, d5, d6, df⟩ := blk7 (hx5.blk HBR.out)
   clear hx5 HCK a0 a1 a2 a3 a4 a5 a6 af HBR HOWN
   cases hB : B
   ·have HBB := hI hB
    clear hB
    go_wp2_with fail
    go_roundw
    case rel => exact ⟨KP, k + 1, by go_num, by omega, by have := HKN.out; omega, HMEM.out, by rw [<- HINV.out, HST.out, HBB.out]; rfl, by rw [<- HKN.out]; exact HO5.out, HX5.out⟩
    case measure => simp [intOf]; omega
   have HBB := hI hB
   clear hB
   obtain ⟨b, off, rfl, c0, c1, c2, c3, c4, c5, c6⟩ := rows_seven (HROWS.out.ext (HXA.out.trans HX5.out)) hkv
   have hsz := HX5.out.size
   go_wp2_with (at_builtin; refine wpList_append_at elemEv rfl _ _ rfl wa.heap.size _ kn _ rfl HO5.out _ 1 1 rfl (by simp) rfl (by simp [Value.oneCell']) (by unfold maxLen; omega) (by omega) (by omega) ?_)
   intro v8 w8 hown8 hc8 hw8
   have HO8 := hI (own_snocEw (u := vs[k]) HKN.out hown8)
   have HX8 := hI (hc8.ext HX5.out (fun y hy => (HO5.out.lt y (mem_rowOf.1 hy)).1))
   obtain ⟨a8, c8, hv8⟩ := owns_formG hown8
   subst hv8
   clear hown8 hc8 hw8 c0 c1 c2 c3 c4 c5 c6 d0 d1 d2 d3 d4 d5 d6 df
   go_wp2_with fail
   go_roundw
   case rel =>
    have e1 : (KP ++ [vs[k]]).length = kn + 1 := by rw [List.length_append, <- HKN.out]; rfl
    refine ⟨KP ++ [vs[k]], k + 1, by go_num, by omega, by rw [e1]; omega, ?_, ?_, ?_, HX8.out⟩
    ·intro u hu
     rcases List.mem_append.1 hu with h | h
     ·exact HMEM.out u h
     simp only [List.mem_singleton] at h; subst h; exact List.getElem_mem hkv
    ·rw [<- HINV.out, HST.out, HBB.out, List.map_append, HLK.out]
     simp
    rw [e1]; have := HO8.out; rwa [e1] at this
   case measure => simp [intOf]; omega
  have t1 : decide ((k : Int) < (n : Int)) = false := decide_eq_false (by omega)
  have HQ := hI (show effFwd hour l = KP.map (·.x) by
   have := HINV.out
   rw [show k = l.length by have := HN.out; omega, List.drop_length] at this
   simpa [effFwd] using this.symm)
  obtain ⟨fa, fc, e, hrr⟩ := IsRows.of_owns (f := EvV.cells) (fun _ => rfl) (by rw [<- HKN.out]; exact HOWN.out)
  subst e
  have HRR := hI hrr
  clear hrr
  go_wp2_with fail
  go_ret
  exact ⟨fa, _, fc, rfl, ⟨KP, HRR.out, HQ.out, fun u hu => (HITS.out u (HMEM.out u hu)).ext (HXA.out.trans HX.out)⟩, HXA.out.trans HX.out⟩
def RItQ (l : List Ev) (w : World) (e : Ending) (w' : World) : Prop := ∃ ia ni ic, e = .returned (.tuple #[.slice ia ni ic, .bool (itsKn l).1]) /\ IsIts w' (itsKn l).2 ia ni ic /\ Ext w w'
def RItL (l : List Ev) (n : Nat) (w : World) (t ok i : Value) (wr : World) : Prop := ∃ (k : Nat) (ia : OA) (ni ic : Nat), t = .slice ia ni ic /\ ok = .bool (itsK (l.take k)).1 /\ i = .int .i64 k /\ k <= n /\ IsIts wr (itsK (l.take k)).2 ia ni ic /\ Ext w wr
theorem rItems_calls (c : Clm) (a : OA) (n cap : Nat) (hour : Int) (w : World) (hi : IsEvs w c.events a n cap) (hn2 : n <= 1000000000000) :
  Calls Tryz.prog 23 #[ClmArg c a n cap, .int .i64 hour] w (RItQ (effFwd hour c.events) w) := by
 obtain ⟨wa, hwa⟩ : ∃ wa, wa = w.alloc (.cells #[.int .i64 c.id, .int .i64 c.policy, .int .i64 c.risk, .int .i64 c.hour, .int .i64 c.peril, .int .i64 c.area, .slice a n cap] 33) := ⟨_, rfl⟩
 have HXA := hI (show Ext w wa by rw [hwa]; exact (Ext.refl _).alloc _)
 have HB0 := hI (show wa.heap[w.heap.size]? = some (.cells #[.int .i64 c.id, .int .i64 c.policy, .int .i64 c.risk, .int .i64 c.hour, .int .i64 c.peril, .int .i64 c.area, .slice a n cap] 33 (0, 0)) by rw [hwa]; exact alloc_new w _)
 have HE := hI (rEvents_calls c a n cap hour wa (hi.ext HXA.out) hn2)
 unfold ClmArg at HE
 obtain ⟨l, hl⟩ : ∃ l, l = effFwd hour c.events := ⟨_, rfl⟩
 have HLL := hI (show l.length <= n by rw [hl]; have := effFwd_len hour c.events; have := hi.len; omega)
 unfold REvQ at HE
 rw [<- hl] at HE ⊢
 clear hl hi
 unfold ClmArg
 obtain ⟨b0, b1, b2, b3, b4, b5, b6, bf⟩ := blk7 HB0.out
 go_enter Tryz.func23, Tryz.ntmps23
 go_upto_region 1 with fail
 rw [<- hwa]
 clear hwa
 go_wp2_with fail
 refine HE.out.mono ?_
 rintro r w1 ⟨ra, rn, rc, rfl, hev, hx1⟩
 have HEV := hI hev
 have HX1 := hI (HXA.out.trans hx1)
 have HRN := hI hev.len
 have hrn : rn <= 1000000000000 := by have := HRN.out; have := HLL.out; omega
 clear hev hx1 HE b0 b1 b2 b3 b4 b5 b6 bf HB0 HXA
 go_wp2_with fail
 go_loopw [7, 8, 9] (RItL l rn w1) (fun _ _ i _ => rn - (intOf i).toNat)
 case atStart => exact ⟨0, none, 0, 0, rfl, rfl, rfl, Nat.zero_le _, IsIts.nil _, Ext.refl _⟩
 case round =>
  obtain ⟨k, ia, ni, ic, rfl, rfl, rfl, hk, hits, hx⟩ := hrel
  obtain ⟨wo, rfl⟩ : ∃ wo : World, wo = wr := ⟨_, rfl⟩
  have HIT := hI hits
  have HX := hI hx
  clear hits hx
  by_cases hkn : k < rn
  ·have hkl : k < l.length := by have := HRN.out; omega
   have HST := hI (itsK_take hkl)
   obtain ⟨K, hK⟩ : ∃ K, K = itsK (l.take k) := ⟨_, rfl⟩
   rw [<- hK] at HST HIT ⊢
   obtain ⟨K1, K2⟩ := K
   clear hK
   have t1 : decide ((k : Int) < (rn : Int)) = true := decide_eq_true (by omega)
   have HXE := hI (HEV.out.ext HX.out)
   obtain ⟨b, off, v, rfl, hvx, hits, hrow⟩ := HXE.out.at hkl
   obtain ⟨c0, c1, c2, c3, c4, c5, c6⟩ := hrow.seven
   have HIK := hI hits
   have HVX := hI hvx
   clear hvx hits hrow
   dsimp only at HIT ⊢
   rcases (by omega : v.x.kind = 1 \/ v.x.kind = 2 \/ (v.x.kind ≠ 1 /\ v.x.kind ≠ 2)) with h1 | h2 | ⟨h1, h2⟩
   ·have k1 : (v.x.kind == 1) = true := by simp [h1]
    have k2 : (v.x.kind == 2) = false := by simp [h1]
    have HQ := hI (show itsK (l.take (k + 1)) = (true, l[k].items) by rw [HST.out, itStep, <- HVX.out, if_pos h1])
    clear h1
    cases K1
    all_goals
     go_wp2_with fail
     go_roundw
     case rel => exact ⟨k + 1, _, _, _, rfl, by rw [HQ.out], by go_num, by omega, by rw [HQ.out]; exact HIK.out, HX.out⟩
     case measure => simp [intOf]; omega
   ·have k1 : (v.x.kind == 1) = false := by simp [h2]
    have k2 : (v.x.kind == 2) = true := by simp [h2]
    have HQ := hI (show itsK (l.take (k + 1)) = (K1, l[k].items) by rw [HST.out, itStep, <- HVX.out, if_neg (by omega), if_pos h2])
    clear h2
    cases K1
    all_goals
     go_wp2_with fail
     go_roundw
     case rel => exact ⟨k + 1, _, _, _, rfl, by rw [HQ.out], by go_num, by omega, by rw [HQ.out]; exact HIK.out, HX.out⟩
     case measure => simp [intOf]; omega
   have k1 : (v.x.kind == 1) = false := by simp [h1]
   have k2 : (v.x.kind == 2) = false := by simp [h2]
   have HQ := hI (show itsK (l.take (k + 1)) = (K1, K2) by rw [HST.out, itStep, <- HVX.out, if_neg h1, if_neg h2])
   clear h1 h2
   go_wp2_with fail
   go_roundw
   case rel => exact ⟨k + 1, _, _, _, rfl, by rw [HQ.out], by go_num, by omega, by rw [HQ.out]; exact HIT.out, HX.out⟩
   case measure => simp [intOf]; omega
  have t1 : decide ((k : Int) < (rn : Int)) = false := decide_eq_false (by omega)
  have hke : l.take k = l := List.take_of_length_le (by have := HRN.out; omega)
  rw [hke] at HIT ⊢
  clear hke
  unfold RItQ
  cases hb : (itsK l).1
  ·have HQ := hI (show itsKn l = (false, []) by unfold itsKn; rw [hb]; rfl)
   clear hb
   go_wp2_with fail
   go_ret2
   exact ⟨none, 0, 0, by rw [HQ.out]; rfl, by rw [HQ.out]; exact IsIts.nil _, HX1.out.trans HX.out⟩
  have HQ := hI (show itsKn l = itsK l by unfold itsKn; rw [hb]; rfl)
  have HBB := hI hb
  clear hb
  go_wp2_with fail
  go_ret2
  exact ⟨ia, ni, ic, by rw [HQ.out, HBB.out]; rfl, by rw [HQ.out]; exact HIT.out, HX1.out.trans HX.out⟩
def okW (l : ZI) : Prop := ∀ x ∈ l, 0 <= x /\ x <= 17592186044416
theorem okW_sum : (l : ZI) -> okW l -> 0 <= l.sum /\ l.sum <= 17592186044416 * l.length
 | [], _ => by simp
 | x :: r, h => by
  have h1 := okW_sum r (fun y hy => h y (by simp [hy]))
  have h2 := h x (by simp)
  simp only [List.sum_cons, List.length_cons]
  omega
theorem okW_take {l : ZI} (h : okW l) (k : Nat) : okW (l.take k) := fun x hx => h x (List.mem_of_mem_take hx)
theorem sum_take {l : ZI} {k : Nat} (hk : k < l.length) : (l.take (k + 1)).sum = (l.take k).sum + l[k] := by
 rw [List.take_succ_eq_append_getElem hk, List.sum_append]; simp
def WtsQ (l : ZI) (w : World) (e : Ending) (w' : World) : Prop := e = .returned (.tuple #[.int .i64 l.sum, .int .i64 0]) /\ Ext w w'
def WtL (l : ZI) (n : Nat) (w : World) (u v : Value) (wr : World) : Prop := ∃ (k : Nat) (z : Int), v = .int .i64 k /\ u = .int .i64 z /\ k <= n /\ z = (l.take k).sum /\ Ext w wr
theorem weights_calls (l : ZI) (a : OA) (n c : Nat) (w : World) (hl : IsIntF w l a n) (ho : okW l) (hn : n <= 64) :
  Calls Tryz.prog 94 #[.slice a n c] w (WtsQ l w) := by
 have HL := hI hl
 have HN := hI hl.1
 have HO := hI ho
 clear hl ho
 go_enter Tryz.func94, Tryz.ntmps94
 go_wp2_with fail
 go_loopw [4, 5] (WtL l n w) (fun _ v _ => n - (intOf v).toNat)
 case atStart => exact ⟨0, 0, rfl, rfl, Nat.zero_le _, by simp, Ext.refl w⟩
 case round =>
  obtain ⟨k, z, rfl, rfl, hk, hz, hx⟩ := hrel
  have HZ := hI hz
  have HX := hI hx
  have hb : 0 <= z /\ z <= 17592186044416 * 64 := by
   have h1 := okW_sum _ (okW_take HO.out k)
   rw [<- hz] at h1
   have h2 : (l.take k).length <= 64 := by rw [List.length_take]; omega
   omega
  obtain ⟨hz0, hz1⟩ := hb
  clear hz hx
  by_cases hkn : k < n
  ·have hkl : k < l.length := by have := HN.out; omega
   have t1 : decide ((k : Int) < (n : Int)) = true := decide_eq_true (by omega)
   have tk0 : (0 : Int) <= (k : Int) := by omega
   have tk1 : (k : Int) < (n : Int) := by omega
   obtain ⟨b, off, rfl, c0⟩ := HL.out.2 k hkl
   have c0 := HX.out.cell c0
   obtain ⟨v0, v1⟩ := HO.out _ (List.getElem_mem hkl)
   have HS := hI (sum_take hkl)
   obtain ⟨x, hx⟩ : ∃ x, x = l[k] := ⟨_, rfl⟩
   rw [<- hx] at c0 v0 v1 HS
   have t2 : decide (x < 0) = false := decide_eq_false (by omega)
   have t3 : decide (17592186044416 < x) = false := decide_eq_false (by omega)
   clear hx
   go_wp2_with fail
   go_roundw
   case rel => exact ⟨k + 1, z + x, by go_num, rfl, by omega, by rw [HS.out, HZ.out], HX.out⟩
   case measure => simp [intOf]; omega
  have t1 : decide ((k : Int) < (n : Int)) = false := decide_eq_false (by omega)
  have HQ := hI (show l.sum = z by rw [HZ.out, List.take_of_length_le (by have := HN.out; omega)])
  go_wp2_with fail
  go_ret2
  exact ⟨by rw [HQ.out]; rfl, HX.out⟩
end Go.Proofs.YtefjomofjejklaaGreat
