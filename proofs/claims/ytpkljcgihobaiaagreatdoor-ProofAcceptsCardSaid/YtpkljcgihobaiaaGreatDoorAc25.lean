/-
  Texts of the claim, joined: PV, Made11, Prv2, DPr0, DPrF.
-/
import Derived.Test.YtpkljcgihobaiaaGreatDoorAc22
import Derived.Test.YtpkljcgihobaiaaGreatDoorAc24
import Derived.SliceStrings
namespace Go.Proofs.YtpkljcgihobaiaaGreatDoor
open Go.RowKit Go.Maps
theorem In11.prove {w : World} {s : List Attr} {l : List Cla} {e : Ex} {f : List Int} (ho : Ok11 s l e f) {lv : LossV} {nm : Nat} {ev : Value} (M : List Nat) (hM : ∀ y ∈ M, y < w.heap.size) (hl : IsLoss w s l f lv nm) (he : IsEx w e ev) : Calls Tryz.prog 32 #[lv.val, ev] w (ProveQ (pf s l f e) M w) :=
 prove_calls s l f ho.chk ho.facts lv nm (l.length + 1) 300 e ev M w ho.size (by omega) ho.tree ho.node ho.exp hM hl he
theorem In11.verify {w : World} {s : List Attr} {l : List Cla} {e : Ex} {f : List Int} (ho : Ok11 s l e f) {lv : LossV} {nm : Nat} {ev : Value} {p : Pr} {pv : PrV} (hl : IsLoss w s l f lv nm) (he : IsEx w e ev) (hp : IsPr w p pv) : Calls Tryz.prog 39 #[lv.val, ev, pv.val] w (GivesE (.bool (prv s l f e p)) w) :=
 verify_calls s l f ho.chk ho.facts lv nm (l.length + 1) 300 e ev p pv w ho.size (by omega) ho.tree ho.node ho.exp hl he hp
def prN : Value := .agg #[.bool false, .int .i64 0, .slice none 0 0]
def ProvedQ (s : List Attr) (l : List Cla) (e : Ex) (f : List Int) (M : List Nat) (w : World) (r : Ending) (w' : World) : Prop := Ext w w' /\ ((evalErr s l e f ≠ 0 /\ r = .returned (.tuple #[prN, .int .i64 (evalErr s l e f)])) \/ (evalErr s l e f = 0 /\ ∃ pv : PrV, r = .returned (.tuple #[pv.val, .int .i64 0]) /\ IsPr (mask w' M) (pf s l f e) pv))
open Classical in
noncomputable def verB (s : List Attr) (l : List Cla) (e : Ex) (f : List Int) (p : Pr) : Bool := if evalErr s l e f = 0 then prv s l f e p else false
set_option maxRecDepth 100000 in
set_option maxHeartbeats 8000000 in
theorem proved_calls (s : List Attr) (l : List Cla) (e : Ex) (f : List Int) (sv ev : Value) (a : Option Addr) (n c : Nat) (fa : Option Addr) (fn fc : Nat) (M : List Nat) (w : World) (hi : In11 w s l e f sv ev a n c fa fn) (hM : ∀ y ∈ M, y < w.heap.size) :
  Calls Tryz.prog 13 #[sv, .slice a n c, ev, .slice fa fn fc] w (ProvedQ s l e f M w) := by
 obtain ⟨sa, sn, sc, rfl, -⟩ := hi.sch.slice
 have HCK := hI (fun W (hW : Ext w W) => (hi.ext hW).checked fc)
 obtain ⟨aw, nw, cw, aa, na, ca, rfl, -⟩ := hi.ex.parts
 have HVA := hI (fun (h0 : evalErr s l e f = 0) (lv : LossV) (N : List Nat) W (hW : Ext w W) (hN : ∀ y ∈ N, y < W.heap.size) (hl : IsLoss W s l f lv n) => In11.prove (evalErr_ok h0) N hN hl (hi.ex.ext hW))
 unfold CheckedQ at HCK
 obtain ⟨RQ, hRQ⟩ : ∃ RQ, RQ = ProvedQ s l e f M w := ⟨_, rfl⟩
 rw [<- hRQ]
 unfold ProvedQ at hRQ
 obtain ⟨E, hE⟩ : ∃ E, E = evalErr s l e f := ⟨_, rfl⟩
 rw [<- hE] at HCK HVA hRQ
 obtain ⟨q, hq⟩ : ∃ q, q = pf s l f e := ⟨_, rfl⟩
 rw [<- hq] at HVA hRQ
 have HRQ := hI hRQ
 have HM := hI hM
 clear hi hE hq hRQ hM
 unfold exV at *
 obtain ⟨wa, hwa⟩ : ∃ wa, wa = ((w.alloc (.cells #[.slice sa sn sc] 31)).alloc (.cells #[.int .i64 e.op, .string e.name, .slice aw nw cw, .int .i64 e.lo, .int .i64 e.hi, .slice aa na ca] 26)).alloc (.cells #[.bool false, .int .i64 0, .slice none 0 0] 40) := ⟨_, rfl⟩
 have hxa : Ext w wa := by rw [hwa]; exact (((Ext.refl _).alloc _).alloc _).alloc _
 have hb0 : wa.heap[w.heap.size]? = some (.cells #[.slice sa sn sc] 31 (0, 0)) := by rw [hwa]; exact blk_alloc (blk_alloc (alloc_new w _))
 have hb1 : wa.heap[w.heap.size + 1]? = some (.cells #[.int .i64 e.op, .string e.name, .slice aw nw cw, .int .i64 e.lo, .int .i64 e.hi, .slice aa na ca] 26 (0, 0)) := by rw [hwa]; exact blk_alloc (alloc_atR (by simp))
 have hb2 : wa.heap[w.heap.size + 1 + 1]? = some prZero := by rw [hwa]; exact alloc_atR (by simp)
 have HXA := hI hxa
 have HB1 := hI hb1
 have HB2 := hI hb2
 obtain ⟨e0, ef⟩ := blk1 hb0
 obtain ⟨f0, f1, f2, f3, f4, f5, ff⟩ := blk6 hb1
 clear hxa hb0 hb1 hb2
 go_enter Tryz.func13, Tryz.ntmps13
 go_upto_region 1 with fail
 rw [<- hwa]
 clear hwa
 go_wp2_with fail
 refine (HCK.out wa HXA.out).mono ?_
 rintro r w1 ⟨hx1, ⟨hz, rfl⟩ | ⟨hz, lv, rfl, hls⟩⟩
 ·have t1 : (E != 0) = true := by simp [hz]
  have HZ := hI hz
  have HX1 := hI (HXA.out.trans hx1)
  have HB21 := hI (hx1.blk HB2.out)
  clear hx1 hz e0 ef f0 f1 f2 f3 f4 f5 ff HCK HVA
  unfold lossZero
  obtain ⟨w2, hw2⟩ : ∃ w2, w2 = w1.alloc (.cells #[.slice none 0 0, .map none, .slice none 0 0] 71) := ⟨_, rfl⟩
  have hx2 : Ext w1 w2 := by rw [hw2]; exact (Ext.refl _).alloc _
  go_upto_region 2 with fail
  rw [<- hw2]
  clear hw2
  have HX2 := hI (HX1.out.trans hx2)
  have HB22 := hI (hx2.blk HB21.out)
  clear hx2 HB21 HX1
  obtain ⟨r0, r1, r2, rf⟩ := blk3 HB22.out
  have hltr := blk_lt HB22.out
  go_wp2_with fail
  obtain ⟨wz, hwz⟩ : ∃ wz, wz = put3 w2 (w.heap.size + 1 + 1) (.bool false) (.int .i64 0) (.slice none 0 0) := ⟨_, rfl⟩
  have HZB := hI (show wz.heap[w.heap.size + 1 + 1]? = some (.cells #[.bool false, .int .i64 0, .slice none 0 0] 40 (0, 0)) by rw [hwz]; exact put3_blk HB22.out _ _ _)
  have HXZ := hI (show Ext w wz by rw [hwz]; exact (put3_chg w2 (w.heap.size + 1 + 1) (.bool false) (.int .i64 0) (.slice none 0 0) (N := [w.heap.size + 1 + 1]) (by simp)).ext HX2.out (fun y hy => by simp only [List.mem_singleton] at hy; omega))
  unfold put3 at hwz
  rw [<- hwz]
  clear hwz
  obtain ⟨z0, z1, z2, zf⟩ := blk3 HZB.out
  refine bodyPost_ret (v := .tuple #[prN, .int .i64 E]) (by simp [results, Tryz.results13, go_sem, prN, z0, z1, z2]) rfl ?_
  rw [HRQ.out]
  exact ⟨HXZ.out, Or.inl ⟨HZ.out, rfl⟩⟩
 ·have HX1 := hI (HXA.out.trans hx1)
  have HB11 := hI (hx1.blk HB1.out)
  have HB21 := hI (hx1.blk HB2.out)
  have HLS := hI hls
  subst hz
  obtain ⟨la, ln, lc, bm, fa', fn', fc'⟩ := lv
  have HVV := hI (fun (N : List Nat) W (hW : Ext w1 W) hN => HVA.out rfl ⟨la, ln, lc, bm, fa', fn', fc'⟩ N W (HX1.out.trans hW) hN (HLS.out.ext hW))
  clear hx1 hls e0 ef f0 f1 f2 f3 f4 f5 ff HCK HVA
  unfold LossV.val at *
  simp only at *
  go_upto_region 2 with fail
  obtain ⟨y, hy⟩ : ∃ y : Nat, y = w1.heap.size := ⟨_, rfl⟩
  obtain ⟨w2, hw2⟩ : ∃ w2, w2 = w1.alloc (.cells #[.slice la ln lc, .map (some bm), .slice fa' fn' fc'] 71) := ⟨_, rfl⟩
  have hx2 : Ext w1 w2 := by rw [hw2]; exact (Ext.refl _).alloc _
  have HBL := hI (show w2.heap[y]? = some (.cells #[.slice la ln lc, .map (some bm), .slice fa' fn' fc'] 71 (0, 0)) by rw [hw2, hy]; exact alloc_new w1 _)
  rw [<- hw2, <- hy]
  clear hw2 hy
  have HX2 := hI (HX1.out.trans hx2)
  have HB22 := hI (hx2.blk HB21.out)
  obtain ⟨f0, f1, f2, f3, f4, f5, ff⟩ := blk6 (hx2.blk HB11.out)
  obtain ⟨l0, l1, l2, lf⟩ := blk3 HBL.out
  have HVW := hI (fun (N : List Nat) hN => HVV.out N w2 hx2 hN)
  clear hx2 HB11 HB21 HVV
  go_wp2_with fail
  refine (HVW.out ((w.heap.size + 1 + 1) :: M) (fun z hz => by
   have h1 := blk_lt HB22.out
   have h2 := HX2.out.size
   simp only [List.mem_cons] at hz
   rcases hz with rfl | hz
   ·omega
   ·have := HM.out z hz; omega)).mono ?_
  rintro r w5 ⟨pv, rfl, hpv, hx5⟩
  have HX5 := hI (HX2.out.trans hx5)
  have HB25 := hI (hx5.blk HB22.out)
  have HPV := hI hpv
  clear hx5 hpv f0 f1 f2 f3 f4 f5 ff l0 l1 l2 lf
  obtain ⟨pb, pk, pa, pn, pc⟩ := pv
  unfold PrV.val
  obtain ⟨r0, r1, r2, rf⟩ := blk3 HB25.out
  have hltr := blk_lt HB25.out
  have HZ := hI (prove_fin (w := w) (M := M) (pv := ⟨pb, pk, pa, pn, pc⟩) HB25.out (by omega) HX5.out HPV.out)
  simp only at HZ
  go_wp2_with fail
  obtain ⟨wz, hwz⟩ : ∃ wz, wz = put3 w5 (w.heap.size + 1 + 1) (.bool pb) (.int .i64 pk) (.slice pa pn pc) := ⟨_, rfl⟩
  rw [<- hwz] at HZ
  unfold put3 at hwz
  rw [<- hwz]
  clear hwz
  obtain ⟨z0, z1, z2, zf⟩ := blk3 HZ.out.1
  refine bodyPost_ret (v := .tuple #[PrV.val ⟨pb, pk, pa, pn, pc⟩, .int .i64 0]) (by simp [results, Tryz.results13, go_sem, PrV.val, z0, z1, z2]) rfl ?_
  rw [HRQ.out]
  obtain ⟨pv', hpe, hpi, hpx⟩ := HZ.out.2
  exact ⟨hpx, Or.inr ⟨by first | rfl | trivial, pv', by
   have : (PrV.val ⟨pb, pk, pa, pn, pc⟩) = pv'.val := by simpa using hpe
   rw [this], hpi⟩⟩
set_option maxRecDepth 100000 in
set_option maxHeartbeats 8000000 in
theorem verified_calls (s : List Attr) (l : List Cla) (e : Ex) (f : List Int) (p : Pr) (pv : PrV) (sv ev : Value) (a : Option Addr) (n c : Nat) (fa : Option Addr) (fn fc : Nat) (w : World) (hi : In11 w s l e f sv ev a n c fa fn) (hp : IsPr w p pv) :
  Calls Tryz.prog 18 #[sv, .slice a n c, ev, .slice fa fn fc, pv.val] w (GivesE (.bool (verB s l e f p)) w) := by
 obtain ⟨sa, sn, sc, rfl, -⟩ := hi.sch.slice
 have HCK := hI (fun W (hW : Ext w W) => (hi.ext hW).checked fc)
 obtain ⟨aw, nw, cw, aa, na, ca, rfl, -⟩ := hi.ex.parts
 have HVA := hI (fun (h0 : evalErr s l e f = 0) (lv : LossV) W (hW : Ext w W) (hl : IsLoss W s l f lv n) => In11.verify (evalErr_ok h0) hl (hi.ex.ext hW) (hp.ext hW))
 unfold CheckedQ at HCK
 obtain ⟨EV, hEV⟩ : ∃ EV, EV = verB s l e f p := ⟨_, rfl⟩
 rw [<- hEV]
 unfold verB at hEV
 obtain ⟨E, hE⟩ : ∃ E, E = evalErr s l e f := ⟨_, rfl⟩
 rw [<- hE] at HCK HVA hEV
 obtain ⟨V, hV⟩ : ∃ V, V = prv s l f e p := ⟨_, rfl⟩
 rw [<- hV] at HVA hEV
 have HE1 := hI (show E ≠ 0 -> EV = false from fun h => by rw [hEV, if_neg h])
 have HE2 := hI (show E = 0 -> EV = V from fun h => by rw [hEV, if_pos h])
 clear hi hE hV hEV hp
 obtain ⟨pb, pk, pa, pn, pc⟩ := pv
 unfold exV PrV.val at *
 obtain ⟨wa, hwa⟩ : ∃ wa, wa = ((w.alloc (.cells #[.slice sa sn sc] 31)).alloc (.cells #[.int .i64 e.op, .string e.name, .slice aw nw cw, .int .i64 e.lo, .int .i64 e.hi, .slice aa na ca] 26)).alloc (.cells #[.bool pb, .int .i64 pk, .slice pa pn pc] 40) := ⟨_, rfl⟩
 have hxa : Ext w wa := by rw [hwa]; exact (((Ext.refl _).alloc _).alloc _).alloc _
 have hb0 : wa.heap[w.heap.size]? = some (.cells #[.slice sa sn sc] 31 (0, 0)) := by rw [hwa]; exact blk_alloc (blk_alloc (alloc_new w _))
 have hb1 : wa.heap[w.heap.size + 1]? = some (.cells #[.int .i64 e.op, .string e.name, .slice aw nw cw, .int .i64 e.lo, .int .i64 e.hi, .slice aa na ca] 26 (0, 0)) := by rw [hwa]; exact blk_alloc (alloc_atR (by simp))
 have hb2 : wa.heap[w.heap.size + 1 + 1]? = some (.cells #[.bool pb, .int .i64 pk, .slice pa pn pc] 40 (0, 0)) := by rw [hwa]; exact alloc_atR (by simp)
 have HXA := hI hxa
 have HB1 := hI hb1
 have HB2 := hI hb2
 obtain ⟨e0, ef⟩ := blk1 hb0
 obtain ⟨f0, f1, f2, f3, f4, f5, ff⟩ := blk6 hb1
 clear hxa hb0 hb1 hb2
 go_enter Tryz.func18, Tryz.ntmps18
 go_upto_region 1 with fail
 rw [<- hwa]
 clear hwa
 go_wp2_with fail
 refine (HCK.out wa HXA.out).mono ?_
 rintro r w1 ⟨hx1, ⟨hz, rfl⟩ | ⟨hz, lv, rfl, hls⟩⟩
 ·have t1 : (E == 0) = false := by simp [hz]
  have HF := hI (HE1.out hz)
  have HX1 := hI (HXA.out.trans hx1)
  clear hx1 hz e0 ef f0 f1 f2 f3 f4 f5 ff HCK HVA HE1 HE2
  unfold lossZero
  go_wp2_with fail
  go_ret
  exact givesE_bool (by rw [HF.out]) (HX1.out.alloc _)
 ·have HX1 := hI (HXA.out.trans hx1)
  have HB11 := hI (hx1.blk HB1.out)
  have HB21 := hI (hx1.blk HB2.out)
  have HF := hI (HE2.out hz)
  have HVV := hI (fun W (hW : Ext w1 W) => HVA.out hz lv W (HX1.out.trans hW) (hls.ext hW))
  subst hz
  obtain ⟨la, ln, lc, bm, fa', fn', fc'⟩ := lv
  clear hx1 hls e0 ef f0 f1 f2 f3 f4 f5 ff HCK HVA HE1 HE2
  obtain ⟨f0, f1, f2, f3, f4, f5, ff⟩ := blk6 HB11.out
  obtain ⟨r0, r1, r2, rf⟩ := blk3 HB21.out
  have hlt1 := blk_lt HB21.out
  have hlt2 := blk_lt HB11.out
  unfold LossV.val at *
  simp only at *
  go_wp2_with fail
  refine (HVV.out _ ((Ext.refl w1).alloc _)).mono ?_
  rintro r w3 ⟨rfl, hx3⟩
  have HX3 := hI ((HX1.out.alloc _).trans hx3)
  clear hx3
  go_wp2_with fail
  go_ret
  exact givesE_bool (by rw [HF.out]) HX3.out
open Go.RowKit
structure WorldV where
 sa : Option Addr
 sn : Nat
 sc : Nat
 la : Option Addr
 ln : Nat
 lc : Nat
 x : ExV
 fa : Option Addr
 fn : Nat
 fc : Nat
def WorldV.val (v : WorldV) : Value := .agg #[.slice v.sa v.sn v.sc, .slice v.la v.ln v.lc, .int .i64 v.x.op, .string v.x.name, .slice v.x.aw v.x.nw v.x.cw, .int .i64 v.x.lo, .int .i64 v.x.hi, .slice v.x.aa v.x.na v.x.ca, .slice v.fa v.fn v.fc]
def WorldV.obj (v : WorldV) : Obj := .cells #[.slice v.sa v.sn v.sc, .slice v.la v.ln v.lc, .int .i64 v.x.op, .string v.x.name, .slice v.x.aw v.x.nw v.x.cw, .int .i64 v.x.lo, .int .i64 v.x.hi, .slice v.x.aa v.x.na v.x.ca, .slice v.fa v.fn v.fc] 34 (0, 0)
def worldV0 : WorldV := ⟨none, 0, 0, none, 0, 0, ⟨0, ⟨#[]⟩, none, 0, 0, 0, 0, none, 0, 0⟩, none, 0, 0⟩
structure IsWorld (w : World) (s : List Attr) (l : List Cla) (x : Ex) (f : List Int) (v : WorldV) : Prop where
 mem : s ∈ schemas
 sch : IsSchema w s (.agg #[.slice v.sa v.sn v.sc])
 clas : IsClas w l v.la v.ln v.lc
 glok : GLOk s pcd l
 len : l.length <= 6
 ex : IsEx w x v.x.val
 okay : MadeOk 4 x
 term : Term s l 4 40 1000 x
 facts : factsAll s f = true
 ints : IsIntF w f v.fa v.fn
theorem IsWorld.mono {w w' : World} {s : List Attr} {l : List Cla} {x : Ex} {f : List Int} {v : WorldV} (h : IsWorld w s l x f v) (hs : Sub w w') : IsWorld w' s l x f v :=
 ⟨h.mem, h.sch.mono hs, h.clas.mono hs, h.glok, h.len, h.ex.mono hs, h.okay, h.term, h.facts, h.ints.mono hs⟩
theorem IsWorld.cls {w : World} {s : List Attr} {l : List Cla} {x : Ex} {f : List Int} {v : WorldV} (h : IsWorld w s l x f v) : (clausesErr s l).2 = 0 := by rw [glok_good h.mem h.glok]
theorem IsWorld.ok {w : World} {s : List Attr} {l : List Cla} {x : Ex} {f : List Int} {v : WorldV} (h : IsWorld w s l x f v) : Ok11 s l x f := h.term.ok (by omega) (by omega) (by omega) h.cls h.facts
theorem IsWorld.fnl {w : World} {s : List Attr} {l : List Cla} {x : Ex} {f : List Int} {v : WorldV} (h : IsWorld w s l x f v) : v.fn <= 1000 := by
 rw [h.ints.1, factsAll_len h.facts]; exact (schemas_ok s h.mem).2.2
theorem good_fit1 {c : Cla} (h : CGood c) (hn : c.name.size <= 1000) : c.fit := by
 obtain ⟨g1, g2, g3, g4, g5, g6⟩ := h
 have hl := wbN_len c.unl
 exact ⟨by omega, g1, g2, slim_of_size _ (by omega), by omega, wbFits_of_ok _ g5 (by omega)⟩
theorem IsWorld.cfit {w : World} {s : List Attr} {l : List Cla} {x : Ex} {f : List Int} {v : WorldV} (h : IsWorld w s l x f v) : ∀ c ∈ l, c.fit := fun c hc => good_fit1 (h.glok.1 c hc).1 (by have := (h.glok.1 c hc).2; have h3 : pcd.size = 2 := rfl; omega)
theorem blk9 {w : World} {b : Nat} {v0 v1 v2 v3 v4 v5 v6 v7 v8 : Value} {t : TypeId} (h : w.heap[b]? = some (.cells #[v0, v1, v2, v3, v4, v5, v6, v7, v8] t (0, 0))) :
  w.cell? ⟨b, 0, none⟩ = some v0 /\ w.cell? ⟨b, 1, none⟩ = some v1 /\ w.cell? ⟨b, 2, none⟩ = some v2 /\ w.cell? ⟨b, 3, none⟩ = some v3 /\ w.cell? ⟨b, 4, none⟩ = some v4 /\ w.cell? ⟨b, 5, none⟩ = some v5 /\ w.cell? ⟨b, 6, none⟩ = some v6 /\ w.cell? ⟨b, 7, none⟩ = some v7 /\ w.cell? ⟨b, 8, none⟩ = some v8 /\
  (∀ j, w.frozen? ⟨b, j, none⟩ = false) :=
 ⟨blk_cell h 0, blk_cell h 1, blk_cell h 2, blk_cell h 3, blk_cell h 4, blk_cell h 5, blk_cell h 6, blk_cell h 7, blk_cell h 8, fun j => blk_free h j⟩
theorem put_blk {w : World} {b i : Nat} {cs : Array Value} {t : TypeId} (h : w.heap[b]? = some (.cells cs t (0, 0))) (v : Value) : (w.setCell ⟨b, i, none⟩ v).heap[b]? = some (.cells (cs.setIfInBounds i v) t (0, 0)) := Go.heap_setCell_same w b i cs t v h
theorem put_chg (w : World) (b i : Nat) (v : Value) : Chg [b] w (w.setCell ⟨b, i, none⟩ v) := (Chg.refl _ w).setCell (Or.inl (by simp)) _
def putE (w : World) (b : Nat) (x : ExV) : World := (((((w.setCell ⟨b, 2, none⟩ (.int .i64 x.op)).setCell ⟨b, 3, none⟩ (.string x.name)).setCell ⟨b, 4, none⟩ (.slice x.aw x.nw x.cw)).setCell ⟨b, 5, none⟩ (.int .i64 x.lo)).setCell ⟨b, 6, none⟩ (.int .i64 x.hi)).setCell ⟨b, 7, none⟩ (.slice x.aa x.na x.ca)
theorem putE_blk {w : World} {b : Nat} {v : WorldV} (h : w.heap[b]? = some v.obj) (x : ExV) : (putE w b x).heap[b]? = some (WorldV.obj { v with x := x }) := by
 unfold putE WorldV.obj at *
 have h1 := put_blk (i := 2) h (.int .i64 x.op)
 have h2 := put_blk (i := 3) h1 (.string x.name)
 have h3 := put_blk (i := 4) h2 (.slice x.aw x.nw x.cw)
 have h4 := put_blk (i := 5) h3 (.int .i64 x.lo)
 have h5 := put_blk (i := 6) h4 (.int .i64 x.hi)
 have h6 := put_blk (i := 7) h5 (.slice x.aa x.na x.ca)
 simpa using h6
theorem putE_chg (w : World) (b : Nat) (x : ExV) : Chg [b] w (putE w b x) := by
 unfold putE
 exact (((((put_chg w b 2 _).then (put_chg _ b 3 _)).then (put_chg _ b 4 _)).then (put_chg _ b 5 _)).then (put_chg _ b 6 _)).then (put_chg _ b 7 _)
def putW (w : World) (b : Nat) (v : WorldV) : World := ((putE ((w.setCell ⟨b, 0, none⟩ (.slice v.sa v.sn v.sc)).setCell ⟨b, 1, none⟩ (.slice v.la v.ln v.lc)) b v.x)).setCell ⟨b, 8, none⟩ (.slice v.fa v.fn v.fc)
theorem putW_blk {w : World} {b : Nat} {v0 : WorldV} (h : w.heap[b]? = some v0.obj) (v : WorldV) : (putW w b v).heap[b]? = some v.obj := by
 unfold putW
 have h1 := put_blk (i := 0) (cs := #[.slice v0.sa v0.sn v0.sc, .slice v0.la v0.ln v0.lc, .int .i64 v0.x.op, .string v0.x.name, .slice v0.x.aw v0.x.nw v0.x.cw, .int .i64 v0.x.lo, .int .i64 v0.x.hi, .slice v0.x.aa v0.x.na v0.x.ca, .slice v0.fa v0.fn v0.fc]) h (.slice v.sa v.sn v.sc)
 have h2 := put_blk (i := 1) h1 (.slice v.la v.ln v.lc)
 have h3 := putE_blk (v := { v0 with sa := v.sa, sn := v.sn, sc := v.sc, la := v.la, ln := v.ln, lc := v.lc }) (by simpa [WorldV.obj] using h2) v.x
 have h4 := put_blk (i := 8) (cs := #[.slice v.sa v.sn v.sc, .slice v.la v.ln v.lc, .int .i64 v.x.op, .string v.x.name, .slice v.x.aw v.x.nw v.x.cw, .int .i64 v.x.lo, .int .i64 v.x.hi, .slice v.x.aa v.x.na v.x.ca, .slice v0.fa v0.fn v0.fc]) h3 (.slice v.fa v.fn v.fc)
 simpa [WorldV.obj] using h4
theorem putW_chg (w : World) (b : Nat) (v : WorldV) : Chg [b] w (putW w b v) := by
 unfold putW
 exact (((put_chg w b 0 _).then (put_chg _ b 1 _)).then (putE_chg _ b _)).then (put_chg _ b 8 _)
def dfnNames (l : List Cla) : List ByteArray := (l.filter (fun c => c.kind == 1)).map (·.name)
theorem dfnNames_snoc {l : List Cla} {k : Nat} (h : k < l.length) : dfnNames (l.take (k + 1)) = dfnNames (l.take k) ++ (if l[k].kind == 1 then [l[k].name] else []) := by
 unfold dfnNames
 rw [List.take_succ_eq_append_getElem h, List.filter_append, List.map_append]
 congr 1
 by_cases hk : (l[k].kind == 1) = true
 ·simp [hk]
 ·simp [hk]
theorem dfnNames_ok {s : List Attr} {l : List Cla} (hc : Chk s l) : ∀ x ∈ dfnNames l, nameB x = true /\ attrAt s x = none /\ (defAt l x).isSome = true := by
 intro x hx
 unfold dfnNames at hx
 obtain ⟨c, hcm, rfl⟩ := List.mem_map.1 hx
 obtain ⟨hcl, hk⟩ := List.mem_filter.1 hcm
 obtain ⟨-, -, -, h1, h2⟩ := hc.good c hcl
 refine ⟨h1, h2, ?_⟩
 unfold defAt
 rw [List.findIdx?_isSome, List.any_eq_true]
 exact ⟨c, hcl, by simpa using hk⟩
def NmL (wL : World) (l : List Cla) (ln : Nat) (v i : Value) (wr : World) : Prop := ∃ k : Nat, i = .int .i64 ((k : Nat) : Int) /\ k <= ln /\ wr.ownsRow wL.heap.size 9 1 v (dfnNames (l.take k)).length ((dfnNames (l.take k)).flatMap strCells) /\ Ext wL wr
def MadeWQ (w : World) (e : Ending) (w' : World) : Prop := ∃ s l x f v bd, e = .returned (.tuple #[WorldV.val v, .pointer (some ⟨bd, 0, none⟩)]) /\ IsWorld (mask w' [bd]) s l x f v /\ DeckAt w w' bd /\ Ext w w'
theorem mask_chg {W W' : World} {K N : List Nat} (h : Chg K W W') (hk : ∀ y ∈ K, y ∈ N) : Sub (mask W N) (mask W' N) := mask_grow h fun y hy => Or.inl (hk y hy)
set_option maxRecDepth 100000 in
set_option maxHeartbeats 16000000 in
theorem made11_calls (da : Option Addr) (dn dc : Nat) (w0 : World) (h : IntsAt w0 da dn) (hdl : dn <= 1000000000000000) : Calls Tryz.prog 12 #[.slice da dn dc] w0 (MadeWQ w0) := by
 have HI := hI h
 clear h
 obtain ⟨rb, hrb⟩ : ∃ rb, rb = w0.heap.size := ⟨_, rfl⟩
 obtain ⟨wa, hwa⟩ : ∃ wa, wa = w0.alloc (.cells #[.slice none 0 0, .slice none 0 0, .int .i64 0, .string ⟨#[]⟩, .slice none 0 0, .int .i64 0, .int .i64 0, .slice none 0 0, .slice none 0 0] 34) := ⟨_, rfl⟩
 have HXA := hI (show Ext w0 wa by rw [hwa]; exact (Ext.refl _).alloc _)
 have HRA := hI (show wa.heap[rb]? = some worldV0.obj by rw [hwa, hrb]; exact alloc_new w0 _)
 have HRE := hI hrb
 go_enter Tryz.func12, Tryz.ntmps12
 go_upto_region 1 with fail
 rw [<- hwa, <- hrb]
 clear hwa hrb
 go_wp2_with fail
 refine (new_callsB da dn dc w0 wa HI.out HXA.out hdl).mono ?_
 rintro e w1 ⟨bd, rfl, hd1, hx1, hbl⟩
 go_upto_region 3 with fail
 obtain ⟨bw, hbw⟩ : ∃ bw, bw = w1.heap.size := ⟨_, rfl⟩
 obtain ⟨w2, hw2⟩ : ∃ w2, w2 = w1.alloc (.cells #[.slice none 0 0, .slice none 0 0, .int .i64 0, .string ⟨#[]⟩, .slice none 0 0, .int .i64 0, .int .i64 0, .slice none 0 0, .slice none 0 0] 34) := ⟨_, rfl⟩
 have hx2 : Ext w1 w2 := by rw [hw2]; exact (Ext.refl _).alloc _
 have HW2 := hI (show w2.heap[bw]? = some worldV0.obj by rw [hw2, hbw]; exact alloc_new w1 _)
 have HLT := hI (show rb < bd /\ bd < bw /\ w0.heap.size <= rb by have := blk_lt HRA.out; have := hd1.lt; have := HRE.out; omega)
 rw [<- hw2, <- hbw]
 clear hw2 hbw
 have HD2 := hI (hd1.ext hx2)
 have HX2 := hI ((HXA.out.trans hx1).trans hx2)
 have HR2 := hI (hx2.blk (hx1.blk HRA.out))
 clear hd1 hx1 hx2 hbl HXA HRA HRE
 go_wp2_with fail
 refine (next_calls HD2.out 6 (by omega) (by omega)).mono ?_
 rintro e w3 ⟨z, rfl, hz0, hz1, hd3, hc3⟩
 have HLB := hI (show ∀ y ∈ [bd, bw, rb], y < w3.heap.size from fun y hy => by
  have h1 := blk_lt HW2.out
  have h2 := HLT.out
  have h3 := hc3.size
  simp only [List.mem_cons, List.not_mem_nil, or_false] at hy
  rcases hy with rfl | rfl | rfl <;> omega)
 have HD3 := hI hd3
 have HW3 := hI (hc3.blk HW2.out (by have := HLT.out; simp; omega))
 have HR3 := hI (hc3.blk HR2.out (by have := HLT.out; simp; omega))
 clear hd3 hc3 HD2 HX2 HW2 HR2
 go_wp2_with fail
 refine (schema_calls z [bd, bw, rb] w3 HLB.out).mono ?_
 rintro e w4 ⟨attrs, v, rfl, hat, hsch, hx4⟩
 obtain ⟨sa, sn, sc, rfl, hsn⟩ := hsch.slice
 have HAT := hI hat
 have HW4 := hI (hx4.blk HW3.out)
 have HR4 := hI (hx4.blk HR3.out)
 have HD4 := hI (HD3.out.ext hx4)
 have HS4 := hI hsch
 have HLB4 := hI (show ∀ y ∈ [bd, bw, rb], y < w4.heap.size from fun y hy => Nat.lt_of_lt_of_le (HLB.out y hy) hx4.size)
 clear hat hsch hx4 HW3 HR3 HD3 HLB hsn
 have hw4 : w4.heap[bw]? = some (.cells #[.slice none 0 0, .slice none 0 0, .int .i64 0, .string ⟨#[]⟩, .slice none 0 0, .int .i64 0, .int .i64 0, .slice none 0 0, .slice none 0 0] 34 (0, 0)) := HW4.out
 obtain ⟨c0, c1, c2, c3, c4, c5, c6, c7, c8, cf⟩ := blk9 hw4
 go_upto_region 4 with fail
 obtain ⟨w5, hw5⟩ : ∃ w5, w5 = w4.setCell ⟨bw, 0, none⟩ (.slice sa sn sc) := ⟨_, rfl⟩
 have hc5 : Chg [bw] w4 w5 := by rw [hw5]; exact put_chg _ _ _ _
 have HW5 := hI (show w5.heap[bw]? = some (WorldV.obj { worldV0 with sa := sa, sn := sn, sc := sc }) by rw [hw5]; have := put_blk (i := 0) hw4 (.slice sa sn sc); simpa [WorldV.obj, worldV0] using this)
 rw [<- hw5]
 clear hw5 hw4 c0 c1 c2 c3 c4 c5 c6 c7 c8 cf HW4
 have HR5 := hI (hc5.blk HR4.out (by have := HLT.out; simp; omega))
 have HD5 := hI (HD4.out.chg hc5 (by have := HLT.out; simp; omega) (fun y hy => by simp only [List.mem_singleton] at hy; have := HLT.out; omega))
 have HS5 := hI (HS4.out.mono (mask_chg hc5 (by simp)))
 have HLB5 := hI (show ∀ y ∈ [bd, bw, rb], y < w5.heap.size from fun y hy => Nat.lt_of_lt_of_le (HLB4.out y hy) hc5.size)
 clear hc5 HR4 HD4 HS4 HLB4
 have hw5 : w5.heap[bw]? = some (.cells #[.slice sa sn sc, .slice none 0 0, .int .i64 0, .string ⟨#[]⟩, .slice none 0 0, .int .i64 0, .int .i64 0, .slice none 0 0, .slice none 0 0] 34 (0, 0)) := HW5.out
 obtain ⟨c0, c1, c2, c3, c4, c5, c6, c7, c8, cf⟩ := blk9 hw5
 clear hw5
 go_wp2_with fail
 refine (dfacts_calls (schema_zero HAT.out) (attrs_fits HAT.out) HD5.out sa sn sc [bd, bw, rb] (HS5.out.mono (mask_less _ (by simp))) HLB5.out).mono ?_
 rintro e w6 ⟨f, fa, fc, rfl, hfa, -, hif, hd6, hc6⟩
 have HFA := hI hfa
 have HIF6 := hI hif
 have HD6 := hI hd6
 have HW6 := hI (hc6.blk HW5.out (by have := HLT.out; simp; omega))
 have HR6 := hI (hc6.blk HR5.out (by have := HLT.out; simp; omega))
 have HS6 := hI (HS5.out.mono (mask_chg hc6 (by simp)))
 have HLB6 := hI (show ∀ y ∈ [bd, bw, rb], y < w6.heap.size from fun y hy => Nat.lt_of_lt_of_le (HLB5.out y hy) hc6.size)
 clear hfa hif hd6 hc6 c0 c1 c2 c3 c4 c5 c6 c7 c8 cf HD5 HW5 HR5 HS5 HLB5
 have hw6 : w6.heap[bw]? = some (.cells #[.slice sa sn sc, .slice none 0 0, .int .i64 0, .string ⟨#[]⟩, .slice none 0 0, .int .i64 0, .int .i64 0, .slice none 0 0, .slice none 0 0] 34 (0, 0)) := HW6.out
 obtain ⟨c0, c1, c2, c3, c4, c5, c6, c7, c8, cf⟩ := blk9 hw6
 obtain ⟨fn, hfn⟩ : ∃ fn, fn = f.length := ⟨_, rfl⟩
 rw [<- hfn]
 rw [<- hfn] at HIF6
 clear hfn
 go_upto_region 5 with fail
 obtain ⟨w7, hw7⟩ : ∃ w7, w7 = w6.setCell ⟨bw, 8, none⟩ (.slice fa fn fc) := ⟨_, rfl⟩
 have hc7 : Chg [bw] w6 w7 := by rw [hw7]; exact put_chg _ _ _ _
 have HW7 := hI (show w7.heap[bw]? = some (WorldV.obj { worldV0 with sa := sa, sn := sn, sc := sc, fa := fa, fn := fn, fc := fc }) by rw [hw7]; have := put_blk (i := 8) hw6 (.slice fa fn fc); simpa [WorldV.obj, worldV0] using this)
 rw [<- hw7]
 clear hw7 hw6 c0 c1 c2 c3 c4 c5 c6 c7 c8 cf HW6
 have HR7 := hI (hc7.blk HR6.out (by have := HLT.out; simp; omega))
 have HD7 := hI (HD6.out.chg hc7 (by have := HLT.out; simp; omega) (fun y hy => by simp only [List.mem_singleton] at hy; have := HLT.out; omega))
 have HS7 := hI (HS6.out.mono (mask_chg hc7 (by simp)))
 have HIF7 := hI (HIF6.out.mono (mask_chg hc7 (by simp)))
 have HLB7 := hI (show ∀ y ∈ [bd, bw, rb], y < w7.heap.size from fun y hy => Nat.lt_of_lt_of_le (HLB6.out y hy) hc7.size)
 clear hc7 HR6 HD6 HS6 HLB6 HIF6
 have hw7 : w7.heap[bw]? = some (.cells #[.slice sa sn sc, .slice none 0 0, .int .i64 0, .string ⟨#[]⟩, .slice none 0 0, .int .i64 0, .int .i64 0, .slice none 0 0, .slice fa fn fc] 34 (0, 0)) := HW7.out
 obtain ⟨c0, c1, c2, c3, c4, c5, c6, c7, c8, cf⟩ := blk9 hw7
 clear hw7
 have HCL := hI (show Calls Tryz.prog 29 #[.pointer (some ⟨bd, 0, none⟩), .agg #[.slice sa sn sc], .int .i64 5, .string ⟨#[99, 45]⟩] w7 (GenQ attrs pcd 5 w0 bd [bd, bw, rb] w7) from
  gclauses_calls HAT.out (schemas_ok attrs HAT.out).1 (schemas_ok attrs HAT.out).2.1 (schemas_ok attrs HAT.out).2.2 HD7.out sa sn sc [bd, bw, rb] (HS7.out.mono (mask_less _ (by simp))) HLB7.out 5 (by omega) pcd (by decide))
 go_wp2_with fail
 refine HCL.out.mono ?_
 rintro e w8 ⟨l, la, ln, lc, rfl, hcl, hgl, hl1, hl2, hd8, hc8⟩
 have HGL := hI hgl
 have HLL := hI (show l.length <= 6 from hl2)
 have HCL8 := hI hcl
 have HLN := hI (show ln = l.length by obtain ⟨vs, hr, hl, -⟩ := hcl; rw [hr.1, hl])
 have HD8 := hI hd8
 have HW8 := hI (hc8.blk HW7.out (by have := HLT.out; simp; omega))
 have HR8 := hI (hc8.blk HR7.out (by have := HLT.out; simp; omega))
 have HS8 := hI (HS7.out.mono (mask_chg hc8 (by simp)))
 have HIF8 := hI (HIF7.out.mono (mask_chg hc8 (by simp)))
 have HLB8 := hI (show ∀ y ∈ [bd, bw, rb], y < w8.heap.size from fun y hy => Nat.lt_of_lt_of_le (HLB7.out y hy) hc8.size)
 clear hcl hgl hl1 hl2 hd8 hc8 c0 c1 c2 c3 c4 c5 c6 c7 c8 cf HD7 HW7 HR7 HS7 HIF7 HLB7 HCL
 have hw8 : w8.heap[bw]? = some (.cells #[.slice sa sn sc, .slice none 0 0, .int .i64 0, .string ⟨#[]⟩, .slice none 0 0, .int .i64 0, .int .i64 0, .slice none 0 0, .slice fa fn fc] 34 (0, 0)) := HW8.out
 obtain ⟨c0, c1, c2, c3, c4, c5, c6, c7, c8, cf⟩ := blk9 hw8
 go_upto_region 6 with fail
 obtain ⟨w9, hw9⟩ : ∃ w9, w9 = w8.setCell ⟨bw, 1, none⟩ (.slice la ln lc) := ⟨_, rfl⟩
 have hc9 : Chg [bw] w8 w9 := by rw [hw9]; exact put_chg _ _ _ _
 have HW9 := hI (show w9.heap[bw]? = some (WorldV.obj { worldV0 with sa := sa, sn := sn, sc := sc, la := la, ln := ln, lc := lc, fa := fa, fn := fn, fc := fc }) by rw [hw9]; have := put_blk (i := 1) hw8 (.slice la ln lc); simpa [WorldV.obj, worldV0] using this)
 rw [<- hw9]
 clear hw9 hw8 c0 c1 c2 c3 c4 c5 c6 c7 c8 cf HW8
 have HR9 := hI (hc9.blk HR8.out (by have := HLT.out; simp; omega))
 have HD9 := hI (HD8.out.chg hc9 (by have := HLT.out; simp; omega) (fun y hy => by simp only [List.mem_singleton] at hy; have := HLT.out; omega))
 have HS9 := hI (HS8.out.mono (mask_chg hc9 (by simp)))
 have HIF9 := hI (HIF8.out.mono (mask_chg hc9 (by simp)))
 have HCL9 := hI (HCL8.out.mono (mask_chg hc9 (by simp)))
 have HLB9 := hI (show ∀ y ∈ [bd, bw, rb], y < w9.heap.size from fun y hy => Nat.lt_of_lt_of_le (HLB8.out y hy) hc9.size)
 clear hc9 HR8 HD8 HS8 HLB8 HIF8 HCL8
 go_wp2_with fail
 go_loopw [6, 7] (NmL w9 l ln) (fun _ i _ => ln - (intOf i).toNat)
 case atStart => exact ⟨0, rfl, by omega, World.ownsRow_nil _ _ _ _, Ext.refl _⟩
 case round =>
  obtain ⟨k, rfl, hk, hown, hx⟩ := hrel
  have HOW := hI hown
  have HX := hI hx
  have hxs := hx.size
  have hwr : wr.heap[bw]? = some (.cells #[.slice sa sn sc, .slice la ln lc, .int .i64 0, .string ⟨#[]⟩, .slice none 0 0, .int .i64 0, .int .i64 0, .slice none 0 0, .slice fa fn fc] 34 (0, 0)) := hx.blk HW9.out
  obtain ⟨c0, c1, c2, c3, c4, c5, c6, c7, c8, cf⟩ := blk9 hwr
  clear hown hx hwr
  by_cases hkn : k < ln
  ·have t1 : decide ((k : Int) < (ln : Int)) = true := decide_eq_true (by omega)
   have hkm : k < l.length := by have := HLN.out; omega
   have hll := HLL.out
   obtain ⟨b, off, v, rfl, hcla, hrow⟩ := ((HCL9.out.mono (mask_sub _ _)).ext HX.out).at hkm
   obtain ⟨d0, d1, -, -, -, -, -, -, -, -⟩ := hrow.ten
   have HKD := hI hcla.1
   have HNM := hI hcla.2.1
   have hnl : (dfnNames (l.take k)).length <= 6 := by
    unfold dfnNames
    rw [List.length_map]
    have := List.length_filter_le (fun c : Cla => c.kind == 1) (l.take k)
    have := List.length_take_le k l
    omega
   have ti0 : (0 : Int) <= (k : Int) := by omega
   have ti1 : (k : Int) < (ln : Int) := by omega
   clear hcla hrow
   cases hkd : (v.kind == 1)
   ·have HNS := hI (show dfnNames (l.take (k + 1)) = dfnNames (l.take k) by rw [dfnNames_snoc hkm, <- HKD.out, hkd]; simp)
    go_wp2_with fail
    go_roundw
    case rel => exact ⟨k + 1, by go_num, by omega, by rw [HNS.out]; exact HOW.out, HX.out⟩
    case measure => simp [intOf]; omega
   ·have HNS := hI (show dfnNames (l.take (k + 1)) = dfnNames (l.take k) ++ [v.name] by rw [dfnNames_snoc hkm, <- HKD.out, hkd, HNM.out]; simp)
    obtain ⟨nk, hnk⟩ : ∃ nk, nk = (dfnNames (l.take k)).length := ⟨_, rfl⟩
    rw [<- hnk] at hnl
    have hown := HOW.out
    rw [<- hnk] at hown
    have HOWK := hI hown
    have HNK := hI hnk
    clear hnk hown
    go_wp2_with (at_builtin; refine wpList_append_at elemStr rfl _ _ rfl w9.heap.size _ nk _ rfl HOWK.out _ 1 1 rfl ?f0 rfl ?f1 ?f2 ?f3 ?f4 ?_)
    case f0 => simp
    case f1 => simp [Value.oneCell']
    case f2 => unfold maxLen; omega
    case f3 => omega
    case f4 => omega
    intro v8 w10 hown8 hc8 hw8
    have HO8 := hI (show w10.ownsRow w9.heap.size 9 1 v8 (dfnNames (l.take (k + 1))).length ((dfnNames (l.take (k + 1))).flatMap strCells) by
     rw [HNS.out, List.length_append, <- HNK.out]
     simpa [strCells] using hown8)
    have HX8 := hI (hc8.ext HX.out (fun y hy => (HOW.out.lt y (mem_rowOf.1 hy)).1))
    obtain ⟨a8, c8', hv8⟩ := owns_formG hown8
    subst hv8
    clear hown8 hc8 hw8
    go_wp2_with fail
    go_roundw
    case rel => exact ⟨k + 1, by go_num, by omega, HO8.out, HX8.out⟩
    case measure => simp [intOf]; omega
  ·have t1 : decide ((k : Int) < (ln : Int)) = false := decide_eq_false (by omega)
   obtain rfl : k = ln := by omega
   obtain ⟨ns, hns⟩ : ∃ ns, ns = dfnNames l := ⟨_, rfl⟩
   have hCK := chk_of (show (clausesErr attrs l).2 = 0 by rw [glok_good HAT.out HGL.out])
   have HCK := hI hCK
   have HNO := hI (show ∀ x ∈ ns, nameB x = true /\ attrAt attrs x = none /\ (defAt l x).isSome = true by rw [hns]; exact dfnNames_ok hCK)
   have hnn : ns.length <= 1000 := by
    rw [hns]; unfold dfnNames
    rw [List.length_map]
    have := List.length_filter_le (fun c : Cla => c.kind == 1) l
    have := HLL.out
    omega
   obtain ⟨na', nc', rfl, hstr, -⟩ := strs_of_owns (l := ns) (by
    have h := HOW.out
    rw [List.take_of_length_le (by have := HLN.out; omega), <- hns] at h
    exact h) [bd, bw, rb] HLB9.out
   obtain ⟨nn, hnnv⟩ : ∃ nn, nn = ns.length := ⟨_, rfl⟩
   rw [<- hnnv] at hstr hnn ⊢
   have HSTR := hI hstr
   have HNN := hI hnnv
   have HDR := hI (HD9.out.ext HX.out)
   have HSR := hI (HS9.out.mono (mask_ext _ HX.out))
   have HCR := hI (HCL9.out.mono (mask_ext _ HX.out))
   have HIR := hI (HIF9.out.mono (mask_ext _ HX.out))
   have HWR := hI (HX.out.blk HW9.out)
   have HRR := hI (HX.out.blk HR9.out)
   have HLR := hI (show ∀ y ∈ [bd, bw, rb], y < wr.heap.size from fun y hy => Nat.lt_of_lt_of_le (HLB9.out y hy) HX.out.size)
   have HDX := hI (show Calls Tryz.prog 24 #[.pointer (some ⟨bd, 0, none⟩), .agg #[.slice sa sn sc], .slice na' nn nc', .int .i64 4] wr (MadeQ (MadeE attrs ns 4) w0 bd [bd, bw, rb] wr) from by
    rw [HNN.out]
    exact dexpr_calls attrs ns (schemas_ok attrs HAT.out).1 (schemas_ok attrs HAT.out).2.1 (schemas_ok attrs HAT.out).2.2 (by omega) 3 (by omega) HDR.out sa sn sc na' ns.length nc' [bd, bw, rb] (HSR.out.mono (mask_less _ (by simp))) (by have := HSTR.out; rw [HNN.out] at this; exact this.mono (mask_less _ (by simp))) HLR.out)
   clear hns hCK hstr hnnv HOW HX hxs HD9 HS9 HCL9 HIF9 HW9 HR9 HLB9 hnn
   go_wp2_with fail
   refine HDX.out.mono ?_
   rintro r w11 ⟨x, xv, rfl, hmx, hix, hd11, hc11⟩
   have HMX := hI hmx
   have HIX11 := hI hix
   have HD11 := hI hd11
   have HS11 := hI (HSR.out.mono (mask_chg hc11 (by simp)))
   have HC11 := hI (HCR.out.mono (mask_chg hc11 (by simp)))
   have HI11 := hI (HIR.out.mono (mask_chg hc11 (by simp)))
   have HW11 := hI (hc11.blk HWR.out (by have := HLT.out; simp; omega))
   have HR11 := hI (hc11.blk HRR.out (by have := HLT.out; simp; omega))
   have HL11 := hI (show ∀ y ∈ [bd, bw, rb], y < w11.heap.size from fun y hy => Nat.lt_of_lt_of_le (HLR.out y hy) hc11.size)
   clear hmx hix hd11 hc11 c0 c1 c2 c3 c4 c5 c6 c7 c8 cf HDX HDR HSR HCR HIR HWR HRR HLR
   have hw11 : w11.heap[bw]? = some (.cells #[.slice sa sn sc, .slice la k lc, .int .i64 0, .string ⟨#[]⟩, .slice none 0 0, .int .i64 0, .int .i64 0, .slice none 0 0, .slice fa fn fc] 34 (0, 0)) := HW11.out
   obtain ⟨c0, c1, c2, c3, c4, c5, c6, c7, c8, cf⟩ := blk9 hw11
   unfold ExV.val exV
   go_upto_region 13 with fail
   obtain ⟨w12, hw12⟩ : ∃ w12, w12 = putE w11 bw xv := ⟨_, rfl⟩
   have hc12 : Chg [bw] w11 w12 := by rw [hw12]; exact putE_chg _ _ _
   have HW12 := hI (show w12.heap[bw]? = some (WorldV.obj { worldV0 with sa := sa, sn := sn, sc := sc, la := la, ln := k, lc := lc, x := xv, fa := fa, fn := fn, fc := fc }) by rw [hw12]; exact putE_blk (v := { worldV0 with sa := sa, sn := sn, sc := sc, la := la, ln := k, lc := lc, fa := fa, fn := fn, fc := fc }) HW11.out xv)
   unfold putE at hw12
   rw [<- hw12]
   clear hw12 hw11 c0 c1 c2 c3 c4 c5 c6 c7 c8 cf HW11
   have HR12 := hI (hc12.blk HR11.out (by have := HLT.out; simp; omega))
   have HD12 := hI (HD11.out.chg hc12 (by have := HLT.out; simp; omega) (fun y hy => by simp only [List.mem_singleton] at hy; have := HLT.out; omega))
   have HS12 := hI (HS11.out.mono (mask_chg hc12 (by simp)))
   have HI12 := hI (HI11.out.mono (mask_chg hc12 (by simp)))
   have HC12 := hI (HC11.out.mono (mask_chg hc12 (by simp)))
   have HX12 := hI (HIX11.out.mono (mask_chg hc12 (by simp)))
   have HL12 := hI (show ∀ y ∈ [bd, bw, rb], y < w12.heap.size from fun y hy => Nat.lt_of_lt_of_le (HL11.out y hy) hc12.size)
   clear hc12 HR11 HD11 HS11 HI11 HC11 HIX11 HL11
   have hw12 : w12.heap[bw]? = some (.cells #[.slice sa sn sc, .slice la k lc, .int .i64 xv.op, .string xv.name, .slice xv.aw xv.nw xv.cw, .int .i64 xv.lo, .int .i64 xv.hi, .slice xv.aa xv.na xv.ca, .slice fa fn fc] 34 (0, 0)) := HW12.out
   obtain ⟨c0, c1, c2, c3, c4, c5, c6, c7, c8, cf⟩ := blk9 hw12
   have HMO := hI (made_okay HAT.out (fun y hy => by have := nameB_le (HNO.out y hy).1; omega) 4 x HMX.out)
   have HXP := hI (show Calls Tryz.prog 30 #[.slice la k lc, .agg #[.int .i64 xv.op, .string xv.name, .slice xv.aw xv.nw xv.cw, .int .i64 xv.lo, .int .i64 xv.hi, .slice xv.aa xv.na xv.ca]] w12 (GivesE (.int .i64 (expanded l x)) w12) from
    rExpanded_calls l la k lc (by have := HLL.out; have := HLN.out; omega) (fun c hc => by have := (HGL.out.1 c hc).1.2.2.1; omega) x xv.val w12 (by have := HMO.out.size; simp [bndS] at this; omega) (HC12.out.mono (mask_sub _ _)) (HX12.out.mono (mask_sub _ _)))
   obtain ⟨E, hE⟩ : ∃ E, E = expanded l x := ⟨_, rfl⟩
   rw [<- hE] at HXP
   have HE := hI hE
   clear hE hw12
   go_wp2_with fail
   refine HXP.out.mono ?_
   rintro r w13 ⟨rfl, hx13⟩
   have HW13 := hI (hx13.blk HW12.out)
   have HR13 := hI (hx13.blk HR12.out)
   have HD13 := hI (HD12.out.ext hx13)
   have HS13 := hI (HS12.out.mono (mask_ext _ hx13))
   have HI13 := hI (HI12.out.mono (mask_ext _ hx13))
   have HC13 := hI (HC12.out.mono (mask_ext _ hx13))
   have HX13 := hI (HX12.out.mono (mask_ext _ hx13))
   have HL13 := hI (show ∀ y ∈ [bd, bw, rb], y < w13.heap.size from fun y hy => Nat.lt_of_lt_of_le (HL12.out y hy) hx13.size)
   clear hx13 c0 c1 c2 c3 c4 c5 c6 c7 c8 cf HXP HW12 HR12 HD12 HS12 HI12 HC12 HX12 HL12
   have hw13 : w13.heap[bw]? = some (.cells #[.slice sa sn sc, .slice la k lc, .int .i64 xv.op, .string xv.name, .slice xv.aw xv.nw xv.cw, .int .i64 xv.lo, .int .i64 xv.hi, .slice xv.aa xv.na xv.ca, .slice fa fn fc] 34 (0, 0)) := HW13.out
   obtain ⟨c0, c1, c2, c3, c4, c5, c6, c7, c8, cf⟩ := blk9 hw13
   have hTM := made_tree HAT.out (fun y hy => (HNO.out y hy).1) 4 x HMX.out
   have hND := made_nodes HAT.out (l := l) (fun y hy => (HNO.out y hy).2) 4 x HMX.out
   have HTM := hI (And.intro hTM hND)
   clear hTM hND
   by_cases hbig : 1000 < E
   case pos =>
    have t2 : decide ((1000 : Int) < (E : Int)) = true := decide_eq_true (by omega)
    go_upto_region 15 with fail
    obtain ⟨w14, hw14⟩ : ∃ w14, w14 = putE w13 bw ⟨1, ⟨#[]⟩, none, 0, 0, 0, 0, none, 0, 0⟩ := ⟨_, rfl⟩
    have hc14 : Chg [bw] w13 w14 := by rw [hw14]; exact putE_chg _ _ _
    have HW14 := hI (show w14.heap[bw]? = some (WorldV.obj { worldV0 with sa := sa, sn := sn, sc := sc, la := la, ln := k, lc := lc, x := ⟨1, ⟨#[]⟩, none, 0, 0, 0, 0, none, 0, 0⟩, fa := fa, fn := fn, fc := fc }) by rw [hw14]; exact putE_blk (v := { worldV0 with sa := sa, sn := sn, sc := sc, la := la, ln := k, lc := lc, x := xv, fa := fa, fn := fn, fc := fc }) HW13.out _)
    unfold putE at hw14
    rw [<- hw14]
    clear hw14 hw13 c0 c1 c2 c3 c4 c5 c6 c7 c8 cf
    have HIW := hI (show IsWorld (mask w14 [bd, bw, rb]) attrs l (.mk 1 ⟨#[]⟩ [] 0 0 []) f ⟨sa, sn, sc, la, k, lc, ⟨1, ⟨#[]⟩, none, 0, 0, 0, 0, none, 0, 0⟩, fa, fn, fc⟩ from ⟨HAT.out, HS13.out.mono (mask_chg hc14 (by simp)), HC13.out.mono (mask_chg hc14 (by simp)), HGL.out, HLL.out, isEx_plain _ 1 0 0 _, made_okay HAT.out (names := []) (by simp) 4 _ (MadeE.atom ⟨rfl, Or.inl ⟨rfl, rfl, rfl, rfl, rfl⟩⟩ (by omega)), (term_true attrs l true).weak (by omega) (by omega) (by omega), HFA.out, HI13.out.mono (mask_chg hc14 (by simp))⟩)
    have HRZ := hI (hc14.blk HR13.out (by have := HLT.out; simp; omega))
    have HDZ := hI (HD13.out.chg hc14 (by have := HLT.out; simp; omega) (fun y hy => by simp only [List.mem_singleton] at hy; have := HLT.out; omega))
    clear hc14
    have hwz : w14.heap[bw]? = some (.cells #[.slice sa sn sc, .slice la k lc, .int .i64 1, .string ⟨#[]⟩, .slice none 0 0, .int .i64 0, .int .i64 0, .slice none 0 0, .slice fa fn fc] 34 (0, 0)) := HW14.out
    obtain ⟨c0, c1, c2, c3, c4, c5, c6, c7, c8, cf⟩ := blk9 hwz
    have hrz : w14.heap[rb]? = some (.cells #[.slice none 0 0, .slice none 0 0, .int .i64 0, .string ⟨#[]⟩, .slice none 0 0, .int .i64 0, .int .i64 0, .slice none 0 0, .slice none 0 0] 34 (0, 0)) := HRZ.out
    obtain ⟨r0, r1, r2, r3, r4, r5, r6, r7, r8, rf⟩ := blk9 hrz
    clear hwz hrz
    go_wp2_with fail
    obtain ⟨wz, hwz⟩ : ∃ wz, wz = putW w14 rb ⟨sa, sn, sc, la, k, lc, ⟨1, ⟨#[]⟩, none, 0, 0, 0, 0, none, 0, 0⟩, fa, fn, fc⟩ := ⟨_, rfl⟩
    have hcz : Chg [rb] w14 wz := by rw [hwz]; exact putW_chg _ _ _
    have HZ : wz.heap[rb]? = some (.cells #[.slice sa sn sc, .slice la k lc, .int .i64 1, .string ⟨#[]⟩, .slice none 0 0, .int .i64 0, .int .i64 0, .slice none 0 0, .slice fa fn fc] 34 (0, 0)) := by rw [hwz]; exact putW_blk (v0 := worldV0) HRZ.out ⟨sa, sn, sc, la, k, lc, ⟨1, ⟨#[]⟩, none, 0, 0, 0, 0, none, 0, 0⟩, fa, fn, fc⟩
    unfold putW putE at hwz
    rw [<- hwz]
    clear hwz c0 c1 c2 c3 c4 c5 c6 c7 c8 cf r0 r1 r2 r3 r4 r5 r6 r7 r8 rf
    obtain ⟨z0, z1, z2, z3, z4, z5, z6, z7, z8, zf⟩ := blk9 HZ
    have hdz := HDZ.out.chg hcz (by have := HLT.out; simp; omega) (fun y hy => by simp only [List.mem_singleton] at hy; have := HLT.out; omega)
    refine bodyPost_ret (v := .tuple #[WorldV.val ⟨sa, sn, sc, la, k, lc, ⟨1, ⟨#[]⟩, none, 0, 0, 0, 0, none, 0, 0⟩, fa, fn, fc⟩, .pointer (some ⟨bd, 0, none⟩)]) (by simp [results, Tryz.results12, go_sem, WorldV.val, z0, z1, z2, z3, z4, z5, z6, z7, z8]) rfl ?_
    exact ⟨attrs, l, _, f, _, bd, rfl, (HIW.out.mono (mask_chg hcz (by simp))).mono (mask_less _ (by simp)), hdz, by obtain ⟨_, _, _, _, _, _, _, _, hxw, _⟩ := hdz; exact hxw⟩
   have t2 : decide ((1000 : Int) < (E : Int)) = false := decide_eq_false (by omega)
   have HIW := hI (show IsWorld (mask w13 [bd, bw, rb]) attrs l x f ⟨sa, sn, sc, la, k, lc, xv, fa, fn, fc⟩ from ⟨HAT.out, HS13.out, HC13.out, HGL.out, HLL.out, HX13.out, HMO.out, ⟨HTM.out.1.1, HTM.out.1.2, by have := HMO.out.size; simpa [bndS] using this, HTM.out.2, by rw [<- HE.out]; omega⟩, HFA.out, HI13.out⟩)
   clear c0 c1 c2 c3 c4 c5 c6 c7 c8 cf hw13
   have hwz : w13.heap[bw]? = some (.cells #[.slice sa sn sc, .slice la k lc, .int .i64 xv.op, .string xv.name, .slice xv.aw xv.nw xv.cw, .int .i64 xv.lo, .int .i64 xv.hi, .slice xv.aa xv.na xv.ca, .slice fa fn fc] 34 (0, 0)) := HW13.out
   obtain ⟨c0, c1, c2, c3, c4, c5, c6, c7, c8, cf⟩ := blk9 hwz
   have hrz : w13.heap[rb]? = some (.cells #[.slice none 0 0, .slice none 0 0, .int .i64 0, .string ⟨#[]⟩, .slice none 0 0, .int .i64 0, .int .i64 0, .slice none 0 0, .slice none 0 0] 34 (0, 0)) := HR13.out
   obtain ⟨r0, r1, r2, r3, r4, r5, r6, r7, r8, rf⟩ := blk9 hrz
   clear hwz hrz
   go_wp2_with fail
   obtain ⟨wz, hwz⟩ : ∃ wz, wz = putW w13 rb ⟨sa, sn, sc, la, k, lc, xv, fa, fn, fc⟩ := ⟨_, rfl⟩
   have hcz : Chg [rb] w13 wz := by rw [hwz]; exact putW_chg _ _ _
   have HZ : wz.heap[rb]? = some (.cells #[.slice sa sn sc, .slice la k lc, .int .i64 xv.op, .string xv.name, .slice xv.aw xv.nw xv.cw, .int .i64 xv.lo, .int .i64 xv.hi, .slice xv.aa xv.na xv.ca, .slice fa fn fc] 34 (0, 0)) := by rw [hwz]; exact putW_blk (v0 := worldV0) HR13.out ⟨sa, sn, sc, la, k, lc, xv, fa, fn, fc⟩
   unfold putW putE at hwz
   rw [<- hwz]
   clear hwz c0 c1 c2 c3 c4 c5 c6 c7 c8 cf r0 r1 r2 r3 r4 r5 r6 r7 r8 rf
   obtain ⟨z0, z1, z2, z3, z4, z5, z6, z7, z8, zf⟩ := blk9 HZ
   have hdz := HD13.out.chg hcz (by have := HLT.out; simp; omega) (fun y hy => by simp only [List.mem_singleton] at hy; have := HLT.out; omega)
   refine bodyPost_ret (v := .tuple #[WorldV.val ⟨sa, sn, sc, la, k, lc, xv, fa, fn, fc⟩, .pointer (some ⟨bd, 0, none⟩)]) (by simp [results, Tryz.results12, go_sem, WorldV.val, z0, z1, z2, z3, z4, z5, z6, z7, z8]) rfl ?_
   exact ⟨attrs, l, _, f, _, bd, rfl, (HIW.out.mono (mask_chg hcz (by simp))).mono (mask_less _ (by simp)), hdz, by obtain ⟨_, _, _, _, _, _, _, _, hxw, _⟩ := hdz; exact hxw⟩
theorem prv_all {s : List Attr} {l : List Cla} {f : List Int} {g : Nat} {op : Int} {name : ByteArray} {words : List ByteArray} {lo hi : Int} {args : List Ex} {V : Bool} (hop : op = 7 \/ op = 8) (hV : valF s l f (g + 1) (.mk op name words lo hi args) = V) (h7 : V = decide (op = 7)) {ps : List Pr} (hl : args.length = ps.length)
  (h : ∀ i (h1 : i < args.length) (h2 : i < ps.length), prvF s l f (g + 1) args[i] ps[i] = true) : prvF s l f (g + 1) (.mk op name words lo hi args) (.mk V (-1) ps) = true := by
 have hz : prvZip s f (fun x => (defAt l x).map fun d => prvF s l f g (l.getD d cla0).cond) V args ps = true := prvZip_of args ps hl fun i h1 h2 => by
  have hp := h i h1 h2
  have hv := prvF_sound s l f (g + 1) _ _ hp
  refine ⟨by rw [prvF] at hp; exact hp, ?_⟩
  rw [hv]
  rw [valF, valE] at hV
  rw [valF]
  rcases hop with rfl | rfl
  ·have e : V = true := by rw [h7]; rfl
   rw [if_neg (by decide), if_pos rfl, valAll_iff, e] at hV
   rw [e]
   exact List.all_eq_true.1 hV _ (List.getElem_mem h1)
  ·have e : V = false := by rw [h7]; rfl
   rw [if_neg (by decide), if_neg (by decide), if_pos rfl, valAny_iff, e] at hV
   rw [e]
   have := List.any_eq_false.1 hV _ (List.getElem_mem h1)
   simpa using this
 have h8 : ¬ V = decide (op = 8) := by
  rcases hop with rfl | rfl <;> (rw [h7]; decide)
 rw [prvF, prvE, if_neg (by omega), if_pos hop, if_neg h8, hz]
 rfl
theorem prv_pick {s : List Attr} {l : List Cla} {f : List Int} {g : Nat} {op : Int} {name : ByteArray} {words : List ByteArray} {lo hi : Int} {args : List Ex} {V : Bool} (hop : op = 7 \/ op = 8) (h8 : V = decide (op = 8)) {k : Nat} (hk : k < args.length) (hv : valF s l f (g + 1) args[k] = V) {q : Pr}
  (hq : prvF s l f (g + 1) args[k] q = true) : prvF s l f (g + 1) (.mk op name words lo hi args) (.mk V (k : Int) [q]) = true := by
 have hs := prvF_sound s l f (g + 1) _ _ hq
 rw [hv] at hs
 rw [prvF] at hq
 rw [prvF, prvE, if_neg (by omega), if_pos hop, if_pos h8]
 simp only [List.all_cons, List.all_nil, List.length_singleton]
 rw [prvAt_get, Int.toNat_natCast, List.getElem?_eq_getElem hk]
 simp only [Option.map_some, Option.getD_some, hq, hs]
 simp
theorem val_some {s : List Attr} {l : List Cla} {f : List Int} {g : Nat} {op : Int} {name : ByteArray} {words : List ByteArray} {lo hi : Int} {args : List Ex} {V : Bool} (hop : op = 7 \/ op = 8) (hV : valF s l f (g + 1) (.mk op name words lo hi args) = V) (h8 : V = decide (op = 8)) : ∃ j, ∃ h : j < args.length, valF s l f (g + 1) args[j] = V := by
 rw [valF, valE] at hV
 have key : ∃ e ∈ args, valF s l f (g + 1) e = V := by
  rcases hop with rfl | rfl
  ·have e : V = false := by rw [h8]; rfl
   rw [if_neg (by decide), if_pos rfl, valAll_iff, e, List.all_eq_false] at hV
   obtain ⟨x, hx, hy⟩ := hV
   exact ⟨x, hx, by rw [valF, e]; simpa using hy⟩
  ·have e : V = true := by rw [h8]; rfl
   rw [if_neg (by decide), if_neg (by decide), if_pos rfl, valAny_iff, e, List.any_eq_true] at hV
   obtain ⟨x, hx, hy⟩ := hV
   exact ⟨x, hx, by rw [valF, e]; exact hy⟩
 obtain ⟨e, he, hv⟩ := key
 obtain ⟨j, hj, rfl⟩ := List.getElem_of_mem he
 exact ⟨j, hj, hv⟩
theorem ring_near {n k j : Nat} (hk : k < n) (hj : j < n) (hne : k ≠ j) : (k + 1) % n < n /\ (j + n - (k + 1) % n) % n < (j + n - k) % n := by
 refine ⟨Nat.mod_lt _ (by omega), ?_⟩
 have e1 : (j + n - k) % n = if k <= j then j - k else j + n - k := by
  split
  ·rw [show j + n - k = (j - k) + n by omega, Nat.add_mod_right, Nat.mod_eq_of_lt (by omega)]
  ·rw [Nat.mod_eq_of_lt (by omega)]
 rcases Nat.lt_or_ge (k + 1) n with h | h
 ·rw [Nat.mod_eq_of_lt h, e1]
  have e2 : (j + n - (k + 1)) % n = if k + 1 <= j then j - (k + 1) else j + n - (k + 1) := by
   split
   ·rw [show j + n - (k + 1) = (j - (k + 1)) + n by omega, Nat.add_mod_right, Nat.mod_eq_of_lt (by omega)]
   ·rw [Nat.mod_eq_of_lt (by omega)]
  rw [e2]
  split <;> split <;> omega
 ·have : k + 1 = n := by omega
  rw [this, Nat.mod_self, e1, Nat.sub_zero, Nat.add_mod_right, Nat.mod_eq_of_lt hj]
  split <;> omega
open Go.RowKit
inductive Pr.few (N : Nat) : Pr -> Prop
 | mk {v : Bool} {k : Int} {ps : List Pr} (hn : ps.length <= N) (h : ∀ q ∈ ps, q.few N) : Pr.few N (.mk v k ps)
def DPrQ (P : Pr -> Prop) (w0 : World) (bd : Nat) (M : List Nat) (w : World) (r : Ending) (w' : World) : Prop := ∃ (p : Pr) (pv : PrV), r = .returned pv.val /\ P p /\ IsPr (mask w' M) p pv /\ DeckAt w0 w' bd /\ Chg [bd] w w'
theorem dprove_fin {w0 w W : World} {bd B : Nat} {M : List Nat} {p : Pr} {pv : PrV} (hb : W.heap[B]? = some prZero) (hB : w.heap.size <= B) (h0 : w0.heap.size <= w.heap.size) (hne : bd ≠ B) (hd : DeckAt w0 W bd) (hc : Chg [bd] w W) (hp : IsPr (mask W (B :: M)) p pv) :
  (put3 W B (.bool pv.value) (.int .i64 pv.pick) (.slice pv.a pv.n pv.c)).heap[B]? = some (.cells #[.bool pv.value, .int .i64 pv.pick, .slice pv.a pv.n pv.c] 40 (0, 0)) /\
  IsPr (mask (put3 W B (.bool pv.value) (.int .i64 pv.pick) (.slice pv.a pv.n pv.c)) M) p pv /\ DeckAt w0 (put3 W B (.bool pv.value) (.int .i64 pv.pick) (.slice pv.a pv.n pv.c)) bd /\ Chg [bd] w (put3 W B (.bool pv.value) (.int .i64 pv.pick) (.slice pv.a pv.n pv.c)) := by
 have hcB : Chg [B] W (put3 W B (.bool pv.value) (.int .i64 pv.pick) (.slice pv.a pv.n pv.c)) := put3_chg W B (.bool pv.value) (.int .i64 pv.pick) (.slice pv.a pv.n pv.c) (by simp)
 refine ⟨put3_blk hb _ _ _, hp.mono (mask_sub_mask fun k hk hn => ⟨fun hm => hn (by simp [hm]), hcB.block k hk fun hm => hn (by simp only [List.mem_singleton] at hm; simp [hm])⟩), hd.chg hcB (by simpa using hne) (fun y hy => by simp only [List.mem_singleton] at hy; omega), hc.trans hcB fun y hy => by simp only [List.mem_singleton] at hy; exact Or.inr (by omega)⟩
theorem prv_fact {s : List Attr} {l : List Cla} {f : List Int} {g : Nat} {op : Int} {name : ByteArray} {words : List ByteArray} {lo hi : Int} {args : List Ex} (h6 : op ≠ 6 /\ op ≠ 7 /\ op ≠ 8) (hdn : op = 3 -> defAt l name = none) : prvF s l f (g + 1) (.mk op name words lo hi args) (.mk (valF s l f (g + 1) (.mk op name words lo hi args)) (-1) []) = true := by
 rw [prvF, valF, prvE, valE, if_neg h6.1, if_neg (by omega), if_neg h6.1, if_neg h6.2.1, if_neg h6.2.2]
 by_cases h3 : op = 3
 ·rw [if_pos h3, if_pos h3, hdn h3]; simp
 ·rw [if_neg h3, if_neg h3]; simp
theorem prv_def {s : List Attr} {l : List Cla} {f : List Int} {g : Nat} {name : ByteArray} {words : List ByteArray} {lo hi : Int} {args : List Ex} {d : Nat} (hd : defAt l name = some d) {q : Pr} (hq : prvF s l f g (l.getD d cla0).cond q = true) : prvF s l f (g + 1) (.mk 3 name words lo hi args) (.mk (valF s l f (g + 1) (.mk 3 name words lo hi args)) (-1) [q]) = true := by
 have hv := prvF_sound s l f g _ q hq
 rw [prvF, valF, prvE, valE]
 have e1 : ((defAt l name).map fun d => prvF s l f g (l.getD d cla0).cond) = some (prvF s l f g (l.getD d cla0).cond) := by rw [hd]; rfl
 have e2 : ((defAt l name).map fun d => valF s l f g (l.getD d cla0).cond) = some (valF s l f g (l.getD d cla0).cond) := by rw [hd]; rfl
 rw [if_neg (by decide), if_neg (by decide), if_pos rfl, e1, if_neg (by decide), if_neg (by decide), if_neg (by decide), if_pos rfl, e2, <- hv]
 simp only [Option.getD_some, List.all_cons, List.all_nil, hq]
 simp
theorem prv_not {s : List Attr} {l : List Cla} {f : List Int} {g : Nat} {name : ByteArray} {words : List ByteArray} {lo hi : Int} {a : Ex} {r : List Ex} {q : Pr} (hq : prvF s l f (g + 1) a q = true) : prvF s l f (g + 1) (.mk 6 name words lo hi (a :: r)) (.mk (valF s l f (g + 1) (.mk 6 name words lo hi (a :: r))) (-1) [q]) = true := by
 have hv := prvF_sound s l f (g + 1) _ q hq
 rw [prvF] at hq
 rw [valF] at hv
 rw [prvF, valF, prvE, valE, if_pos rfl, if_pos rfl, valHd, <- hv]
 simp only [prvAt, List.all_cons, List.all_nil, hq]
 simp
theorem chg_cell {N : List Nat} {w W : World} (h : Chg N w W) {p : Addr} {v : Value} (hc : w.cell? p = some v) (hn : p.block ∉ N) : W.cell? p = some v := by
 have hb := h.block p.block (block_lt hc) hn
 unfold World.cell? at hc ⊢
 rw [hb]; exact hc
theorem find_def {s : List Attr} {l : List Cla} (hc : Chk s l) {x : ByteArray} {d : Nat} (hd : defAt l x = some d) : findAt l x = some d := by
 obtain ⟨h1, -, h3⟩ := defAt_atK hd
 have hle := findAt_le h1 h3
 cases hf : findAt l x with
 | none =>
  unfold findAt at hf
  rw [List.findIdx?_eq_none_iff] at hf
  have := hf _ (List.getElem_mem h1)
  rw [getD_clK h1] at h3
  simp [h3] at this
 | some k =>
  rw [hf] at hle
  simp only [Option.getD_some] at hle
  have hk : (l.getD k cla0).name = x := by
   unfold findAt at hf
   rw [List.findIdx?_eq_some_iff_getElem] at hf
   obtain ⟨hk, h2, _⟩ := hf
   rw [getD_clK hk]; simpa using h2
  rcases Nat.lt_or_ge k d with h | h
  ·exact absurd (hk.trans h3.symm) (hc.uniq d k h1 h)
  ·congr 1; omega
def DIn (s : List Attr) (l : List Cla) (f : List Int) (bd : Nat) (sa : Option Addr) (sn sc : Nat) (a : Option Addr) (n c : Nat) (fa : Option Addr) (fn : Nat) (W : World) : Prop := IsSchema (mask W [bd]) s (.agg #[.slice sa sn sc]) /\ IsClas (mask W [bd]) l a n c /\ IsIntF (mask W [bd]) f fa fn
theorem DIn.chg {s : List Attr} {l : List Cla} {f : List Int} {bd : Nat} {sa : Option Addr} {sn sc : Nat} {a : Option Addr} {n c : Nat} {fa : Option Addr} {fn : Nat} {W W' : World} (h : DIn s l f bd sa sn sc a n c fa fn W) (hc : Chg [bd] W W') : DIn s l f bd sa sn sc a n c fa fn W' := ⟨h.1.mono (mask_step hc (by simp)), h.2.1.mono (mask_step hc (by simp)), h.2.2.mono (mask_step hc (by simp))⟩
def GnLv (w0 wr : World) (bd q : Nat) (N : List Nat) (L : List Nat) (_ : Nat -> Value) (W : World) : Prop := GnL w0 wr bd q N L W
theorem gnlv_start {w0 wr : World} {bd q : Nat} {N : List Nat} {vs : Nat -> Value} (hd : DeckAt w0 wr bd) : GnLv w0 wr bd q N [] vs wr.drew := ⟨hd.ext ((Ext.refl wr).drew), ((Ext.refl wr).drew).chg _, fun _ => ((Ext.refl wr).drew).chg _⟩
theorem gnlv_step {w0 wr W W' : World} {bd q i : Nat} {N L : List Nat} {vs vs' : Nat -> Value} (h : GnLv w0 wr bd q N L vs W) (hd : DeckAt w0 W' bd) (hc : Chg [bd] W W') : GnLv w0 wr bd q N (L ++ [i]) vs' W' :=
 ⟨hd, h.2.1.then (hc.weak (fun y hy => by simp at hy; simp [hy])), fun hq => (h.2.2 fun h' => hq (List.mem_append_left _ h')).then hc⟩
theorem gnlv_brk {w0 wr W W' : World} {bd q : Nat} {N L : List Nat} {vs vs' : Nat -> Value} (h : GnLv w0 wr bd q N L vs W) (hd : DeckAt w0 W' bd) (hc : Chg (bd :: N) W W') : GnLv w0 wr bd q N (L ++ [q]) vs' W' :=
 ⟨hd, h.2.1.then hc, fun hq => absurd (by simp) hq⟩
structure DprIn (s : List Attr) (l : List Cla) (f : List Int) (g : Nat) (op : Int) (name : ByteArray) (args : List Ex) (lo hi : Int) (V : Bool) (w0 w : World) (bd : Nat) (M : List Nat) (a : Option Addr) (n c : Nat) (fa : Option Addr) (fn fc : Nat) (sa : Option Addr) (sn sc : Nat) (aw : Option Addr) (nw cw : Nat) (aa : Option Addr) (na ca : Nat) : Prop where
 tr : ∀ W, Chg [bd] w W -> Calls Tryz.prog 19 #[.agg #[.slice sa sn sc], .slice a n c, exV op name aw nw cw lo hi aa na ca, .slice fa fn fc] W (GivesE (.bool V) W)
 ta : ∀ (j : Nat) (hj : j < args.length) (xv : Value) W, Chg [bd] w W -> IsEx (mask W [bd]) args[j] xv -> Calls Tryz.prog 19 #[.agg #[.slice sa sn sc], .slice a n c, xv, .slice fa fn fc] W (GivesE (.bool (valF s l f (g + 1) args[j])) W)
 arg : ∀ (j : Nat) (hj : j < args.length) (xv : Value) (N : List Nat) (W : World), Chg [bd] w W -> (∀ y ∈ N, y < W.heap.size) -> DeckAt w0 W bd -> IsEx (mask W [bd]) args[j] xv -> Calls Tryz.prog 17 #[.pointer (some ⟨bd, 0, none⟩), .agg #[.slice sa sn sc], .slice a n c, xv, .slice fa fn fc] W (DPrQ (fun p => prvF s l f (g + 1) args[j] p = true /\ p.few 1000000) w0 bd N W)
 m : ∀ y ∈ M, y < w.heap.size
 d : DeckAt w0 w bd
 x : ExsD (mask w [bd]) args aa
 na : na = args.length
 few : args.length <= 1000000
theorem idx_snoc {α : Type} {P : Nat -> α -> Prop} {l : List α} {q : α} (h : ∀ j (h : j < l.length), P j l[j]) (hq : P l.length q) : ∀ j (h : j < (l ++ [q]).length), P j (l ++ [q])[j] := by
 intro j hj
 by_cases h1 : j < l.length
 ·rw [List.getElem_append_left h1]; exact h j h1
 ·have e : j = l.length := by simp at hj; omega
  subst e
  simpa using hq
def DprL (P : Nat -> Pr -> Prop) (V : Bool) (na bd b6 b11 : Nat) (M : List Nat) (Z0 Z1 : Obj) (w0 w : World) (i : Value) (wr : World) : Prop := ∃ (k : Nat) (ps : List Pr) (pvs : List PrV) (u : Value), i = .int .i64 k /\ k <= na /\ ps.length = k /\ (∀ j (h : j < ps.length), P j ps[j]) /\ wr.ownsRow (b11 + 1) 40 3 u k (pvs.flatMap PrV.cells) /\
 PrsR (mask wr (bd :: rowOf u ++ (b6 + 1 + 1) :: b11 :: M)) ps pvs /\ wr.heap[b6]? = some Z0 /\ wr.heap[b6 + 1]? = some Z1 /\ wr.heap[b6 + 1 + 1]? = some prZero /\ wr.heap[b11]? = some (.cells #[.bool V, .int .i64 (-1), u] 40 (0, 0)) /\ DeckAt w0 wr bd /\ Chg [bd] w wr
def DprK (na : Nat) (w4 : World) (i : Value) (wr : World) : Prop := ∃ k : Nat, i = .int .i64 k /\ k < na /\ Ext w4 wr
def GrGD (wr : World) (_ : List Nat) (_ : Nat -> Value) (W : World) : Prop := Ext wr W
theorem row_free {w : World} {base : Nat} {e : TypeId} {size : Nat} {v : Value} {n b : Nat} {xs : List Value} (h : w.ownsRow base e size v n xs) (hb : b < base) : b ∉ rowOf v := fun hm => by have := (h.lt b (mem_rowOf.1 hm)).1; omega
theorem row_keep {bd : Nat} {N M : List Nat} {u : Value} {W w2 : World} {g2 n cap : Nat} (hN : N = bd :: rowOf u ++ M) (hc : Chg (rowOf u) W w2) (hg : u.ownBlock = some g2 \/ g2 = W.heap.size) : Sub (mask W N) (mask w2 (bd :: rowOf (.slice (some ⟨g2, 0, none⟩) n cap) ++ M)) := by
 rw [hN]
 refine mask_sub_mask fun k hk hn => ⟨fun hm => ?_, hc.block k hk fun hm => hn (by simp [hm])⟩
 simp only [List.cons_append, List.mem_cons, List.mem_append] at hm hn
 rcases hm with h | h | h
 ·exact hn (Or.inl h)
 ·have h2 := mem_rowOf.1 h
  simp only [Value.ownBlock, Option.some.injEq] at h2
  rcases hg with e | e
  ·exact hn (Or.inr (Or.inl (mem_rowOf.2 (by rw [e, h2]))))
  ·omega
 ·exact hn (Or.inr (Or.inr h))
open Go.RowKit
set_option maxRecDepth 100000 in
set_option maxHeartbeats 16000000 in
theorem dpr_fact {s : List Attr} {l : List Cla} {f : List Int} {g : Nat} {name : ByteArray} {words : List ByteArray} {lo hi : Int} {args : List Ex} {V : Bool} {w0 w : World} {bd : Nat} {M : List Nat} {a : Option Addr} {n c : Nat} {fa : Option Addr} {fn fc : Nat} {sa : Option Addr} {sn sc : Nat} {aw : Option Addr} {nw cw : Nat} {aa : Option Addr} {na ca : Nat} {op : Int} (hv : valF s l f (g + 1) (.mk op name words lo hi args) = V) (h6 : op ≠ 6 /\ op ≠ 7 /\ op ≠ 8) (hdn : op = 3 -> defAt l name = none) (hat : op = 3 -> ∃ i, attrAt s name = some i)
  (hix : ∀ W, Chg [bd] w W -> Calls Tryz.prog 36 #[.agg #[.slice sa sn sc], .string name] W (GivesE (optV (attrAt s name)) W)) (h : DprIn s l f g op name args lo hi V w0 w bd M a n c fa fn fc sa sn sc aw nw cw aa na ca) :
  Calls Tryz.prog 17 #[.pointer (some ⟨bd, 0, none⟩), .agg #[.slice sa sn sc], .slice a n c, exV op name aw nw cw lo hi aa na ca, .slice fa fn fc] w (DPrQ (fun p => prvF s l f (g + 1) (.mk op name words lo hi args) p = true /\ p.few 1000000) w0 bd M w) := by
 have HQ := hI (show prvF s l f (g + 1) (.mk op name words lo hi args) (.mk V (-1) []) = true by rw [<- hv]; exact prv_fact h6 hdn)
 have HIX := hI hix
 have HAT := hI hat
 have H6 := hI h6
 clear hv hdn hat hix h6
 have HTR := hI h.tr
 have HTA := hI h.ta
 have HARG := hI h.arg
 have HM := hI h.m
 have HD := hI h.d
 have HX := hI h.x
 have HNA := hI h.na
 have HFE := hI h.few
 have hbw := h.d.lt
 have HW0 := hI (show w0.heap.size <= w.heap.size by obtain ⟨_, _, _, _, _, _, _, _, hxw, _⟩ := h.d; exact hxw.size)
 clear h
 unfold exV at *
 obtain ⟨wa, hwa⟩ : ∃ wa, wa = ((w.alloc (.cells #[.slice sa sn sc] 31)).alloc (.cells #[.int .i64 op, .string name, .slice aw nw cw, .int .i64 lo, .int .i64 hi, .slice aa na ca] 26)).alloc (.cells #[.bool false, .int .i64 0, .slice none 0 0] 40) := ⟨_, rfl⟩
 have hxa : Ext w wa := by rw [hwa]; exact (((Ext.refl _).alloc _).alloc _).alloc _
 obtain ⟨b6, hb6⟩ : ∃ b6 : Nat, b6 = w.heap.size := ⟨_, rfl⟩
 have hb0 : wa.heap[b6]? = some (.cells #[.slice sa sn sc] 31 (0, 0)) := by rw [hwa, hb6]; exact blk_alloc (blk_alloc (alloc_new w _))
 have hb1 : wa.heap[b6 + 1]? = some (.cells #[.int .i64 op, .string name, .slice aw nw cw, .int .i64 lo, .int .i64 hi, .slice aa na ca] 26 (0, 0)) := by rw [hwa, hb6]; exact blk_alloc (alloc_atR (by simp))
 have hb2 : wa.heap[b6 + 1 + 1]? = some prZero := by rw [hwa, hb6]; exact alloc_atR (by simp)
 have HXA := hI hxa
 have HB0 := hI hb0
 have HB1 := hI hb1
 have HB2 := hI hb2
 have HB6 := hI (show bd < b6 /\ b6 = w.heap.size from ⟨by omega, hb6⟩)
 go_enter Tryz.func17, Tryz.ntmps17
 go_upto_region 1 with fail
 rw [<- hwa, <- hb6]
 clear hwa hb6 hbw
 obtain ⟨f0, f1, f2, f3, f4, f5, ff⟩ := blk6 hb1
 obtain ⟨e0, ef⟩ := blk1 hb0
 clear hxa hb0 hb1 hb2
 go_wp2_with fail
 refine (HTR.out wa (HXA.out.chg _)).mono ?_
 rintro r w1 ⟨rfl, hx1⟩
 go_upto_region 2 with fail
 obtain ⟨b11, hb11⟩ : ∃ b11 : Nat, b11 = w1.heap.size := ⟨_, rfl⟩
 obtain ⟨w2, hw2⟩ : ∃ w2, w2 = w1.alloc (.cells #[.bool V, .int .i64 (-1), .slice none 0 0] 40) := ⟨_, rfl⟩
 have hx2 : Ext wa w2 := by rw [hw2]; exact hx1.alloc _
 have HP2 := hI (show w2.heap[b11]? = some (.cells #[.bool V, .int .i64 (-1), .slice none 0 0] 40 (0, 0)) by rw [hw2, hb11]; exact alloc_new w1 _)
 have hlt11 : b6 + 1 + 1 < b11 := by have := blk_lt (hx1.blk HB2.out); omega
 rw [<- hw2, <- hb11]
 clear hw2 hb11 hx1 f0 f1 f2 f3 f4 f5 ff e0 ef
 have HLT := hI hlt11
 have HX2 := hI (HXA.out.trans hx2)
 have HS2 := hI (hx2.blk HB0.out)
 have HE2 := hI (hx2.blk HB1.out)
 have HZ2 := hI (hx2.blk HB2.out)
 have HD2 := hI (HD.out.ext (HXA.out.trans hx2))
 have HC2 := hI ((HXA.out.trans hx2).chg [bd])
 clear hx2 hlt11 HB0 HB1 HB2 HXA HTR
 obtain ⟨f0, f1, f2, f3, f4, f5, ff⟩ := blk6 HE2.out
 obtain ⟨e0, ef⟩ := blk1 HS2.out
 clear HTA HARG HX HNA HFE
 have t6 : (op == 6) = false := by have := H6.out; simp [this]
 have t7 : (op == 7) = false := by have := H6.out; simp [this]
 have t8 : (op == 8) = false := by have := H6.out; simp [this]
 by_cases h3 : op = 3
 case' pos =>
  subst h3
  obtain ⟨i, hi'⟩ := HAT.out rfl
  have HI2 := hI (HIX.out w2 HC2.out)
  rw [hi', optV_some] at HI2
  clear hi' HIX t6 t7 t8
  go_wp2_with fail
  refine HI2.out.mono ?_
  rintro r w2 ⟨rfl, hx3⟩
  have HP2 := hI (hx3.blk HP2.out)
  have HZ2 := hI (hx3.blk HZ2.out)
  have HD2 := hI (HD2.out.ext hx3)
  have HC2 := hI (HC2.out.then (hx3.chg [bd]))
  clear hx3 f0 f1 f2 f3 f4 f5 ff e0 ef HI2
  go_upto_region 22 with fail
 case' neg =>
  have t3 : (op == 3) = false := by simp [h3]
  clear h3 HIX
  go_upto_region 22 with fail
 all_goals
  obtain ⟨p0, p1, p2, pf'⟩ := blk3 HP2.out
  have hz : w2.heap[b6 + 1 + 1]? = some (.cells #[.bool false, .int .i64 0, .slice none 0 0] 40 (0, 0)) := HZ2.out
  obtain ⟨r0, r1, r2, rf⟩ := blk3 hz
  have hltr := blk_lt hz
  have HZ := hI (dprove_fin (w := w) (M := M) (pv := ⟨V, -1, none, 0, 0⟩) HZ2.out (by have := HB6.out; omega) HW0.out (by have := HB6.out; omega) HD2.out HC2.out (isPr_none _ V (-1)))
  simp only at HZ
  go_wp2_with fail
  obtain ⟨wz, hwz⟩ : ∃ wz, wz = put3 w2 (b6 + 1 + 1) (.bool V) (.int .i64 (-1)) (.slice none 0 0) := ⟨_, rfl⟩
  rw [<- hwz] at HZ
  unfold put3 at hwz
  rw [<- hwz]
  clear hwz
  obtain ⟨z0, z1, z2, zf⟩ := blk3 HZ.out.1
  refine bodyPost_ret (v := PrV.val ⟨V, -1, none, 0, 0⟩) (by simp [results, Tryz.results17, go_sem, PrV.val, z0, z1, z2]) rfl ?_
  exact ⟨_, _, rfl, ⟨HQ.out, .mk (by simp) (by simp)⟩, HZ.out.2⟩
end Go.Proofs.YtpkljcgihobaiaaGreatDoor
