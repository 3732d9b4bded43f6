/-
  Texts of the claim, joined: Eval, PV, Made11, Sch2, Awk11, World11, Dual.
-/
import Derived.Test.YtpkljcgihobaiaaGreatDoorSg24
import Derived.Test.YtpkljcgihobaiaaGreatDoorSg26
namespace Go.Proofs.YtpkljcgihobaiaaGreatDoor
open Go.RowKit Go.Maps
structure In11 (w : World) (s : List Attr) (l : List Cla) (e : Ex) (f : List Int) (sv ev : Value) (a : Option Addr) (n c : Nat) (fa : Option Addr) (fn : Nat) : Prop where
  sch : IsSchema w s sv
  sfit : ∀ x ∈ s, x.fits
  slen : s.length ≤ 1000000000000000
  clas : IsClas w l a n c
  cn : n ≤ 1000000
  cfit : ∀ x ∈ l, x.fit
  ex : IsEx w e ev
  few : e.few
  fit : e.fits
  slim : e.slim
  ints : IsIntF w f fa fn
  fnl : fn ≤ 1000000000000000
  ops : HasOps w
theorem In11.ext {w w' : World} {s : List Attr} {l : List Cla} {e : Ex} {f : List Int} {sv ev : Value} {a : Option Addr} {n c : Nat} {fa : Option Addr} {fn : Nat} (h : In11 w s l e f sv ev a n c fa fn) (hx : Ext w w') : In11 w' s l e f sv ev a n c fa fn :=
  ⟨h.sch.ext hx, h.sfit, h.slen, h.clas.ext hx, h.cn, h.cfit, h.ex.ext hx, h.few, h.fit, h.slim, h.ints.ext hx, h.fnl, h.ops.ext hx⟩
theorem In11.checked {w : World} {s : List Attr} {l : List Cla} {e : Ex} {f : List Int} {sv ev : Value} {a : Option Addr} {n c : Nat} {fa : Option Addr} {fn : Nat} (h : In11 w s l e f sv ev a n c fa fn) (fc : Nat) : Calls Tryz.prog 31 #[sv, .slice a n c, ev, .slice fa fn fc] w (CheckedQ s l e f n w) :=
  checked_calls s l e f ev sv a n c fa fn fc w h.sch h.sfit h.slen h.clas h.cn h.cfit h.ex h.few h.fit h.ints h.fnl h.ops
open Go.RowKit Go.Maps
theorem In11.prove {w : World} {s : List Attr} {l : List Cla} {e : Ex} {f : List Int} (ho : Ok11 s l e f) {lv : LossV} {nm : Nat} {ev : Value} (M : List Nat) (hM : ∀ y ∈ M, y < w.heap.size) (hl : IsLoss w s l f lv nm) (he : IsEx w e ev) : Calls Tryz.prog 32 #[lv.val, ev] w (ProveQ (pf s l f e) M w) :=
  prove_calls s l f ho.chk ho.facts lv nm (l.length + 1) 300 e ev M w ho.size (by omega) ho.tree ho.node ho.exp hM hl he
theorem In11.verify {w : World} {s : List Attr} {l : List Cla} {e : Ex} {f : List Int} (ho : Ok11 s l e f) {lv : LossV} {nm : Nat} {ev : Value} {p : Pr} {pv : PrV} (hl : IsLoss w s l f lv nm) (he : IsEx w e ev) (hp : IsPr w p pv) : Calls Tryz.prog 39 #[lv.val, ev, pv.val] w (GivesE (.bool (prv s l f e p)) w) :=
  verify_calls s l f ho.chk ho.facts lv nm (l.length + 1) 300 e ev p pv w ho.size (by omega) ho.tree ho.node ho.exp hl he hp
def prN : Value := .agg #[.bool false, .int .i64 0, .slice none 0 0]
def ProvedQ (s : List Attr) (l : List Cla) (e : Ex) (f : List Int) (M : List Nat) (w : World) (r : Ending) (w' : World) : Prop := Ext w w' ∧ ((evalErr s l e f ≠ 0 ∧ r = .returned (.tuple #[prN, .int .i64 (evalErr s l e f)])) ∨ (evalErr s l e f = 0 ∧ ∃ pv : PrV, r = .returned (.tuple #[pv.val, .int .i64 0]) ∧ IsPr (mask w' M) (pf s l f e) pv))
open Classical in
noncomputable def verB (s : List Attr) (l : List Cla) (e : Ex) (f : List Int) (p : Pr) : Bool := if evalErr s l e f = 0 then prv s l f e p else false
set_option maxRecDepth 100000 in
set_option maxHeartbeats 8000000 in
theorem proved_calls (s : List Attr) (l : List Cla) (e : Ex) (f : List Int) (sv ev : Value) (a : Option Addr) (n c : Nat) (fa : Option Addr) (fn fc : Nat) (M : List Nat) (w : World) (hi : In11 w s l e f sv ev a n c fa fn) (hM : ∀ y ∈ M, y < w.heap.size) :
    Calls Tryz.prog 13 #[sv, .slice a n c, ev, .slice fa fn fc] w (ProvedQ s l e f M w) := by
  obtain ⟨sa, sn, sc, rfl, -⟩ := hi.sch.slice
  have HCK := Lib.hid (fun W (hW : Ext w W) => (hi.ext hW).checked fc)
  obtain ⟨aw, nw, cw, aa, na, ca, rfl, -⟩ := hi.ex.parts
  have HVA := Lib.hid (fun (h0 : evalErr s l e f = 0) (lv : LossV) (N : List Nat) W (hW : Ext w W) (hN : ∀ y ∈ N, y < W.heap.size) (hl : IsLoss W s l f lv n) => In11.prove (evalErr_ok h0) N hN hl (hi.ex.ext hW))
  unfold CheckedQ at HCK
  obtain ⟨RQ, hRQ⟩ : ∃ RQ, RQ = ProvedQ s l e f M w := ⟨_, rfl⟩
  rw [← hRQ]
  unfold ProvedQ at hRQ
  obtain ⟨E, hE⟩ : ∃ E, E = evalErr s l e f := ⟨_, rfl⟩
  rw [← hE] at HCK HVA hRQ
  obtain ⟨q, hq⟩ : ∃ q, q = pf s l f e := ⟨_, rfl⟩
  rw [← hq] at HVA hRQ
  have HRQ := Lib.hid hRQ
  have HM := Lib.hid hM
  clear hi hE hq hRQ hM
  unfold exV at *
  obtain ⟨wa, hwa⟩ : ∃ wa, wa = ((w.alloc (.cells #[.slice sa sn sc] 31)).alloc (.cells #[.int .i64 e.op, .string e.name, .slice aw nw cw, .int .i64 e.lo, .int .i64 e.hi, .slice aa na ca] 26)).alloc (.cells #[.bool false, .int .i64 0, .slice none 0 0] 40) := ⟨_, rfl⟩
  have hxa : Ext w wa := by rw [hwa]; exact (((Ext.refl _).alloc _).alloc _).alloc _
  have hb0 : wa.heap[w.heap.size]? = some (.cells #[.slice sa sn sc] 31 (0, 0)) := by rw [hwa]; exact blk_alloc (blk_alloc (alloc_new w _))
  have hb1 : wa.heap[w.heap.size + 1]? = some (.cells #[.int .i64 e.op, .string e.name, .slice aw nw cw, .int .i64 e.lo, .int .i64 e.hi, .slice aa na ca] 26 (0, 0)) := by rw [hwa]; exact blk_alloc (alloc_atR (by simp))
  have hb2 : wa.heap[w.heap.size + 1 + 1]? = some prZero := by rw [hwa]; exact alloc_atR (by simp)
  have HXA := Lib.hid hxa
  have HB1 := Lib.hid hb1
  have HB2 := Lib.hid hb2
  obtain ⟨e0, ef⟩ := blk1 hb0
  obtain ⟨f0, f1, f2, f3, f4, f5, ff⟩ := blk6 hb1
  clear hxa hb0 hb1 hb2
  go_enter Tryz.func13, Tryz.ntmps13
  go_upto_region 1 with fail
  rw [← hwa]
  clear hwa
  go_wp2_with fail
  refine (HCK.out wa HXA.out).mono ?_
  rintro r w1 ⟨hx1, ⟨hz, rfl⟩ | ⟨hz, lv, rfl, hls⟩⟩
  · have t1 : (E != 0) = true := by simp [hz]
    have HZ := Lib.hid hz
    have HX1 := Lib.hid (HXA.out.trans hx1)
    have HB21 := Lib.hid (hx1.blk HB2.out)
    clear hx1 hz e0 ef f0 f1 f2 f3 f4 f5 ff HCK HVA
    unfold lossZero
    obtain ⟨w2, hw2⟩ : ∃ w2, w2 = w1.alloc (.cells #[.slice none 0 0, .map none, .slice none 0 0] 71) := ⟨_, rfl⟩
    have hx2 : Ext w1 w2 := by rw [hw2]; exact (Ext.refl _).alloc _
    go_upto_region 2 with fail
    rw [← hw2]
    clear hw2
    have HX2 := Lib.hid (HX1.out.trans hx2)
    have HB22 := Lib.hid (hx2.blk HB21.out)
    clear hx2 HB21 HX1
    obtain ⟨r0, r1, r2, rf⟩ := blk3 HB22.out
    have hltr := blk_lt HB22.out
    go_wp2_with fail
    obtain ⟨wz, hwz⟩ : ∃ wz, wz = put3 w2 (w.heap.size + 1 + 1) (.bool false) (.int .i64 0) (.slice none 0 0) := ⟨_, rfl⟩
    have HZB := Lib.hid (show wz.heap[w.heap.size + 1 + 1]? = some (.cells #[.bool false, .int .i64 0, .slice none 0 0] 40 (0, 0)) by rw [hwz]; exact put3_blk HB22.out _ _ _)
    have HXZ := Lib.hid (show Ext w wz by rw [hwz]; exact (put3_chg w2 (w.heap.size + 1 + 1) (.bool false) (.int .i64 0) (.slice none 0 0) (N := [w.heap.size + 1 + 1]) (by simp)).ext HX2.out (fun y hy => by simp only [List.mem_singleton] at hy; omega))
    unfold put3 at hwz
    rw [← hwz]
    clear hwz
    obtain ⟨z0, z1, z2, zf⟩ := blk3 HZB.out
    refine bodyPost_ret (v := .tuple #[prN, .int .i64 E]) (by simp [results, Tryz.results13, go_sem, prN, z0, z1, z2]) rfl ?_
    rw [HRQ.out]
    exact ⟨HXZ.out, Or.inl ⟨HZ.out, rfl⟩⟩
  · have HX1 := Lib.hid (HXA.out.trans hx1)
    have HB11 := Lib.hid (hx1.blk HB1.out)
    have HB21 := Lib.hid (hx1.blk HB2.out)
    have HLS := Lib.hid hls
    subst hz
    obtain ⟨la, ln, lc, bm, fa', fn', fc'⟩ := lv
    have HVV := Lib.hid (fun (N : List Nat) W (hW : Ext w1 W) hN => HVA.out rfl ⟨la, ln, lc, bm, fa', fn', fc'⟩ N W (HX1.out.trans hW) hN (HLS.out.ext hW))
    clear hx1 hls e0 ef f0 f1 f2 f3 f4 f5 ff HCK HVA
    unfold LossV.val at *
    simp only at *
    go_upto_region 2 with fail
    obtain ⟨y, hy⟩ : ∃ y : Nat, y = w1.heap.size := ⟨_, rfl⟩
    obtain ⟨w2, hw2⟩ : ∃ w2, w2 = w1.alloc (.cells #[.slice la ln lc, .map (some bm), .slice fa' fn' fc'] 71) := ⟨_, rfl⟩
    have hx2 : Ext w1 w2 := by rw [hw2]; exact (Ext.refl _).alloc _
    have HBL := Lib.hid (show w2.heap[y]? = some (.cells #[.slice la ln lc, .map (some bm), .slice fa' fn' fc'] 71 (0, 0)) by rw [hw2, hy]; exact alloc_new w1 _)
    rw [← hw2, ← hy]
    clear hw2 hy
    have HX2 := Lib.hid (HX1.out.trans hx2)
    have HB22 := Lib.hid (hx2.blk HB21.out)
    obtain ⟨f0, f1, f2, f3, f4, f5, ff⟩ := blk6 (hx2.blk HB11.out)
    obtain ⟨l0, l1, l2, lf⟩ := blk3 HBL.out
    have HVW := Lib.hid (fun (N : List Nat) hN => HVV.out N w2 hx2 hN)
    clear hx2 HB11 HB21 HVV
    go_wp2_with fail
    refine (HVW.out ((w.heap.size + 1 + 1) :: M) (fun z hz => by
      have h1 := blk_lt HB22.out
      have h2 := HX2.out.size
      simp only [List.mem_cons] at hz
      rcases hz with rfl | hz
      · omega
      · have := HM.out z hz; omega)).mono ?_
    rintro r w5 ⟨pv, rfl, hpv, hx5⟩
    have HX5 := Lib.hid (HX2.out.trans hx5)
    have HB25 := Lib.hid (hx5.blk HB22.out)
    have HPV := Lib.hid hpv
    clear hx5 hpv f0 f1 f2 f3 f4 f5 ff l0 l1 l2 lf
    obtain ⟨pb, pk, pa, pn, pc⟩ := pv
    unfold PrV.val
    obtain ⟨r0, r1, r2, rf⟩ := blk3 HB25.out
    have hltr := blk_lt HB25.out
    have HZ := Lib.hid (prove_fin (w := w) (M := M) (pv := ⟨pb, pk, pa, pn, pc⟩) HB25.out (by omega) HX5.out HPV.out)
    simp only at HZ
    go_wp2_with fail
    obtain ⟨wz, hwz⟩ : ∃ wz, wz = put3 w5 (w.heap.size + 1 + 1) (.bool pb) (.int .i64 pk) (.slice pa pn pc) := ⟨_, rfl⟩
    rw [← hwz] at HZ
    unfold put3 at hwz
    rw [← hwz]
    clear hwz
    obtain ⟨z0, z1, z2, zf⟩ := blk3 HZ.out.1
    refine bodyPost_ret (v := .tuple #[PrV.val ⟨pb, pk, pa, pn, pc⟩, .int .i64 0]) (by simp [results, Tryz.results13, go_sem, PrV.val, z0, z1, z2]) rfl ?_
    rw [HRQ.out]
    obtain ⟨pv', hpe, hpi, hpx⟩ := HZ.out.2
    exact ⟨hpx, Or.inr ⟨by first | rfl | trivial, pv', by
      have : (PrV.val ⟨pb, pk, pa, pn, pc⟩) = pv'.val := by simpa using hpe
      rw [this], hpi⟩⟩
set_option maxRecDepth 100000 in
set_option maxHeartbeats 8000000 in
theorem verified_calls (s : List Attr) (l : List Cla) (e : Ex) (f : List Int) (p : Pr) (pv : PrV) (sv ev : Value) (a : Option Addr) (n c : Nat) (fa : Option Addr) (fn fc : Nat) (w : World) (hi : In11 w s l e f sv ev a n c fa fn) (hp : IsPr w p pv) :
    Calls Tryz.prog 18 #[sv, .slice a n c, ev, .slice fa fn fc, pv.val] w (GivesE (.bool (verB s l e f p)) w) := by
  obtain ⟨sa, sn, sc, rfl, -⟩ := hi.sch.slice
  have HCK := Lib.hid (fun W (hW : Ext w W) => (hi.ext hW).checked fc)
  obtain ⟨aw, nw, cw, aa, na, ca, rfl, -⟩ := hi.ex.parts
  have HVA := Lib.hid (fun (h0 : evalErr s l e f = 0) (lv : LossV) W (hW : Ext w W) (hl : IsLoss W s l f lv n) => In11.verify (evalErr_ok h0) hl (hi.ex.ext hW) (hp.ext hW))
  unfold CheckedQ at HCK
  obtain ⟨EV, hEV⟩ : ∃ EV, EV = verB s l e f p := ⟨_, rfl⟩
  rw [← hEV]
  unfold verB at hEV
  obtain ⟨E, hE⟩ : ∃ E, E = evalErr s l e f := ⟨_, rfl⟩
  rw [← hE] at HCK HVA hEV
  obtain ⟨V, hV⟩ : ∃ V, V = prv s l f e p := ⟨_, rfl⟩
  rw [← hV] at HVA hEV
  have HE1 := Lib.hid (show E ≠ 0 → EV = false from fun h => by rw [hEV, if_neg h])
  have HE2 := Lib.hid (show E = 0 → EV = V from fun h => by rw [hEV, if_pos h])
  clear hi hE hV hEV hp
  obtain ⟨pb, pk, pa, pn, pc⟩ := pv
  unfold exV PrV.val at *
  obtain ⟨wa, hwa⟩ : ∃ wa, wa = ((w.alloc (.cells #[.slice sa sn sc] 31)).alloc (.cells #[.int .i64 e.op, .string e.name, .slice aw nw cw, .int .i64 e.lo, .int .i64 e.hi, .slice aa na ca] 26)).alloc (.cells #[.bool pb, .int .i64 pk, .slice pa pn pc] 40) := ⟨_, rfl⟩
  have hxa : Ext w wa := by rw [hwa]; exact (((Ext.refl _).alloc _).alloc _).alloc _
  have hb0 : wa.heap[w.heap.size]? = some (.cells #[.slice sa sn sc] 31 (0, 0)) := by rw [hwa]; exact blk_alloc (blk_alloc (alloc_new w _))
  have hb1 : wa.heap[w.heap.size + 1]? = some (.cells #[.int .i64 e.op, .string e.name, .slice aw nw cw, .int .i64 e.lo, .int .i64 e.hi, .slice aa na ca] 26 (0, 0)) := by rw [hwa]; exact blk_alloc (alloc_atR (by simp))
  have hb2 : wa.heap[w.heap.size + 1 + 1]? = some (.cells #[.bool pb, .int .i64 pk, .slice pa pn pc] 40 (0, 0)) := by rw [hwa]; exact alloc_atR (by simp)
  have HXA := Lib.hid hxa
  have HB1 := Lib.hid hb1
  have HB2 := Lib.hid hb2
  obtain ⟨e0, ef⟩ := blk1 hb0
  obtain ⟨f0, f1, f2, f3, f4, f5, ff⟩ := blk6 hb1
  clear hxa hb0 hb1 hb2
  go_enter Tryz.func18, Tryz.ntmps18
  go_upto_region 1 with fail
  rw [← hwa]
  clear hwa
  go_wp2_with fail
  refine (HCK.out wa HXA.out).mono ?_
  rintro r w1 ⟨hx1, ⟨hz, rfl⟩ | ⟨hz, lv, rfl, hls⟩⟩
  · have t1 : (E == 0) = false := by simp [hz]
    have HF := Lib.hid (HE1.out hz)
    have HX1 := Lib.hid (HXA.out.trans hx1)
    clear hx1 hz e0 ef f0 f1 f2 f3 f4 f5 ff HCK HVA HE1 HE2
    unfold lossZero
    go_wp2_with fail
    go_ret
    exact givesE_bool (by rw [HF.out]) (HX1.out.alloc _)
  · have HX1 := Lib.hid (HXA.out.trans hx1)
    have HB11 := Lib.hid (hx1.blk HB1.out)
    have HB21 := Lib.hid (hx1.blk HB2.out)
    have HF := Lib.hid (HE2.out hz)
    have HVV := Lib.hid (fun W (hW : Ext w1 W) => HVA.out hz lv W (HX1.out.trans hW) (hls.ext hW))
    subst hz
    obtain ⟨la, ln, lc, bm, fa', fn', fc'⟩ := lv
    clear hx1 hls e0 ef f0 f1 f2 f3 f4 f5 ff HCK HVA HE1 HE2
    obtain ⟨f0, f1, f2, f3, f4, f5, ff⟩ := blk6 HB11.out
    obtain ⟨r0, r1, r2, rf⟩ := blk3 HB21.out
    have hlt1 := blk_lt HB21.out
    have hlt2 := blk_lt HB11.out
    unfold LossV.val at *
    simp only at *
    go_wp2_with fail
    refine (HVV.out _ ((Ext.refl w1).alloc _)).mono ?_
    rintro r w3 ⟨rfl, hx3⟩
    have HX3 := Lib.hid ((HX1.out.alloc _).trans hx3)
    clear hx3
    go_wp2_with fail
    go_ret
    exact givesE_bool (by rw [HF.out]) HX3.out
open Go.RowKit
structure WorldV where
  sa : Option Addr
  sn : Nat
  sc : Nat
  la : Option Addr
  ln : Nat
  lc : Nat
  x : ExV
  fa : Option Addr
  fn : Nat
  fc : Nat
def WorldV.val (v : WorldV) : Value := .agg #[.slice v.sa v.sn v.sc, .slice v.la v.ln v.lc, .int .i64 v.x.op, .string v.x.name, .slice v.x.aw v.x.nw v.x.cw, .int .i64 v.x.lo, .int .i64 v.x.hi, .slice v.x.aa v.x.na v.x.ca, .slice v.fa v.fn v.fc]
def WorldV.obj (v : WorldV) : Obj := .cells #[.slice v.sa v.sn v.sc, .slice v.la v.ln v.lc, .int .i64 v.x.op, .string v.x.name, .slice v.x.aw v.x.nw v.x.cw, .int .i64 v.x.lo, .int .i64 v.x.hi, .slice v.x.aa v.x.na v.x.ca, .slice v.fa v.fn v.fc] 34 (0, 0)
def worldV0 : WorldV := ⟨none, 0, 0, none, 0, 0, ⟨0, ⟨#[]⟩, none, 0, 0, 0, 0, none, 0, 0⟩, none, 0, 0⟩
structure IsWorld (w : World) (s : List Attr) (l : List Cla) (x : Ex) (f : List Int) (v : WorldV) : Prop where
  mem : s ∈ schemas
  sch : IsSchema w s (.agg #[.slice v.sa v.sn v.sc])
  clas : IsClas w l v.la v.ln v.lc
  glok : GLOk s pcd l
  len : l.length ≤ 6
  ex : IsEx w x v.x.val
  okay : MadeOk 4 x
  term : Term s l 4 40 1000 x
  facts : factsAll s f = true
  ints : IsIntF w f v.fa v.fn
theorem IsWorld.mono {w w' : World} {s : List Attr} {l : List Cla} {x : Ex} {f : List Int} {v : WorldV} (h : IsWorld w s l x f v) (hs : Sub w w') : IsWorld w' s l x f v :=
  ⟨h.mem, h.sch.mono hs, h.clas.mono hs, h.glok, h.len, h.ex.mono hs, h.okay, h.term, h.facts, h.ints.mono hs⟩
theorem IsWorld.cls {w : World} {s : List Attr} {l : List Cla} {x : Ex} {f : List Int} {v : WorldV} (h : IsWorld w s l x f v) : (clausesErr s l).2 = 0 := by rw [glok_good h.mem h.glok]
theorem IsWorld.fnl {w : World} {s : List Attr} {l : List Cla} {x : Ex} {f : List Int} {v : WorldV} (h : IsWorld w s l x f v) : v.fn ≤ 1000 := by
  rw [h.ints.1, factsAll_len h.facts]; exact (schemas_ok s h.mem).2.2
theorem good_fit1 {c : Cla} (h : CGood c) (hn : c.name.size ≤ 1000) : c.fit := by
  obtain ⟨g1, g2, g3, g4, g5, g6⟩ := h
  have hl := wbN_len c.unl
  exact ⟨by omega, g1, g2, slim_of_size _ (by omega), by omega, wbFits_of_ok _ g5 (by omega)⟩
theorem IsWorld.cfit {w : World} {s : List Attr} {l : List Cla} {x : Ex} {f : List Int} {v : WorldV} (h : IsWorld w s l x f v) : ∀ c ∈ l, c.fit := fun c hc => good_fit1 (h.glok.1 c hc).1 (by have := (h.glok.1 c hc).2; have h3 : pcd.size = 2 := rfl; omega)
theorem blk9 {w : World} {b : Nat} {v0 v1 v2 v3 v4 v5 v6 v7 v8 : Value} {t : TypeId} (h : w.heap[b]? = some (.cells #[v0, v1, v2, v3, v4, v5, v6, v7, v8] t (0, 0))) :
    w.cell? ⟨b, 0, none⟩ = some v0 ∧ w.cell? ⟨b, 1, none⟩ = some v1 ∧ w.cell? ⟨b, 2, none⟩ = some v2 ∧ w.cell? ⟨b, 3, none⟩ = some v3 ∧ w.cell? ⟨b, 4, none⟩ = some v4 ∧ w.cell? ⟨b, 5, none⟩ = some v5 ∧ w.cell? ⟨b, 6, none⟩ = some v6 ∧ w.cell? ⟨b, 7, none⟩ = some v7 ∧ w.cell? ⟨b, 8, none⟩ = some v8 ∧
    (∀ j, w.frozen? ⟨b, j, none⟩ = false) :=
  ⟨blk_cell h 0, blk_cell h 1, blk_cell h 2, blk_cell h 3, blk_cell h 4, blk_cell h 5, blk_cell h 6, blk_cell h 7, blk_cell h 8, fun j => blk_free h j⟩
theorem put_blk {w : World} {b i : Nat} {cs : Array Value} {t : TypeId} (h : w.heap[b]? = some (.cells cs t (0, 0))) (v : Value) : (w.setCell ⟨b, i, none⟩ v).heap[b]? = some (.cells (cs.setIfInBounds i v) t (0, 0)) := Go.heap_setCell_same w b i cs t v h
theorem put_chg (w : World) (b i : Nat) (v : Value) : Chg [b] w (w.setCell ⟨b, i, none⟩ v) := (Chg.refl _ w).setCell (Or.inl (by simp)) _
def putE (w : World) (b : Nat) (x : ExV) : World := (((((w.setCell ⟨b, 2, none⟩ (.int .i64 x.op)).setCell ⟨b, 3, none⟩ (.string x.name)).setCell ⟨b, 4, none⟩ (.slice x.aw x.nw x.cw)).setCell ⟨b, 5, none⟩ (.int .i64 x.lo)).setCell ⟨b, 6, none⟩ (.int .i64 x.hi)).setCell ⟨b, 7, none⟩ (.slice x.aa x.na x.ca)
theorem putE_blk {w : World} {b : Nat} {v : WorldV} (h : w.heap[b]? = some v.obj) (x : ExV) : (putE w b x).heap[b]? = some (WorldV.obj { v with x := x }) := by
  unfold putE WorldV.obj at *
  have h1 := put_blk (i := 2) h (.int .i64 x.op)
  have h2 := put_blk (i := 3) h1 (.string x.name)
  have h3 := put_blk (i := 4) h2 (.slice x.aw x.nw x.cw)
  have h4 := put_blk (i := 5) h3 (.int .i64 x.lo)
  have h5 := put_blk (i := 6) h4 (.int .i64 x.hi)
  have h6 := put_blk (i := 7) h5 (.slice x.aa x.na x.ca)
  simpa using h6
theorem putE_chg (w : World) (b : Nat) (x : ExV) : Chg [b] w (putE w b x) := by
  unfold putE
  exact (((((put_chg w b 2 _).then (put_chg _ b 3 _)).then (put_chg _ b 4 _)).then (put_chg _ b 5 _)).then (put_chg _ b 6 _)).then (put_chg _ b 7 _)
def putW (w : World) (b : Nat) (v : WorldV) : World := ((putE ((w.setCell ⟨b, 0, none⟩ (.slice v.sa v.sn v.sc)).setCell ⟨b, 1, none⟩ (.slice v.la v.ln v.lc)) b v.x)).setCell ⟨b, 8, none⟩ (.slice v.fa v.fn v.fc)
theorem putW_blk {w : World} {b : Nat} {v0 : WorldV} (h : w.heap[b]? = some v0.obj) (v : WorldV) : (putW w b v).heap[b]? = some v.obj := by
  unfold putW
  have h1 := put_blk (i := 0) (cs := #[.slice v0.sa v0.sn v0.sc, .slice v0.la v0.ln v0.lc, .int .i64 v0.x.op, .string v0.x.name, .slice v0.x.aw v0.x.nw v0.x.cw, .int .i64 v0.x.lo, .int .i64 v0.x.hi, .slice v0.x.aa v0.x.na v0.x.ca, .slice v0.fa v0.fn v0.fc]) h (.slice v.sa v.sn v.sc)
  have h2 := put_blk (i := 1) h1 (.slice v.la v.ln v.lc)
  have h3 := putE_blk (v := { v0 with sa := v.sa, sn := v.sn, sc := v.sc, la := v.la, ln := v.ln, lc := v.lc }) (by simpa [WorldV.obj] using h2) v.x
  have h4 := put_blk (i := 8) (cs := #[.slice v.sa v.sn v.sc, .slice v.la v.ln v.lc, .int .i64 v.x.op, .string v.x.name, .slice v.x.aw v.x.nw v.x.cw, .int .i64 v.x.lo, .int .i64 v.x.hi, .slice v.x.aa v.x.na v.x.ca, .slice v0.fa v0.fn v0.fc]) h3 (.slice v.fa v.fn v.fc)
  simpa [WorldV.obj] using h4
theorem putW_chg (w : World) (b : Nat) (v : WorldV) : Chg [b] w (putW w b v) := by
  unfold putW
  exact (((put_chg w b 0 _).then (put_chg _ b 1 _)).then (putE_chg _ b _)).then (put_chg _ b 8 _)
def dfnNames (l : List Cla) : List ByteArray := (l.filter (fun c => c.kind == 1)).map (·.name)
theorem dfnNames_snoc {l : List Cla} {k : Nat} (h : k < l.length) : dfnNames (l.take (k + 1)) = dfnNames (l.take k) ++ (if l[k].kind == 1 then [l[k].name] else []) := by
  unfold dfnNames
  rw [List.take_succ_eq_append_getElem h, List.filter_append, List.map_append]
  congr 1
  by_cases hk : (l[k].kind == 1) = true
  · simp [hk]
  · simp [hk]
theorem dfnNames_ok {s : List Attr} {l : List Cla} (hc : Chk s l) : ∀ x ∈ dfnNames l, nameB x = true ∧ attrAt s x = none ∧ (defAt l x).isSome = true := by
  intro x hx
  unfold dfnNames at hx
  obtain ⟨c, hcm, rfl⟩ := List.mem_map.1 hx
  obtain ⟨hcl, hk⟩ := List.mem_filter.1 hcm
  obtain ⟨-, -, -, h1, h2⟩ := hc.good c hcl
  refine ⟨h1, h2, ?_⟩
  unfold defAt
  rw [List.findIdx?_isSome, List.any_eq_true]
  exact ⟨c, hcl, by simpa using hk⟩
def NmL (wL : World) (l : List Cla) (ln : Nat) (v i : Value) (wr : World) : Prop := ∃ k : Nat, i = .int .i64 ((k : Nat) : Int) ∧ k ≤ ln ∧ wr.ownsRow wL.heap.size 9 1 v (dfnNames (l.take k)).length ((dfnNames (l.take k)).flatMap strCells) ∧ Ext wL wr
def MadeWQ (w : World) (e : Ending) (w' : World) : Prop := ∃ s l x f v bd, e = .returned (.tuple #[WorldV.val v, .pointer (some ⟨bd, 0, none⟩)]) ∧ IsWorld (mask w' [bd]) s l x f v ∧ DeckAt w w' bd ∧ Ext w w'
theorem mask_chg {W W' : World} {K N : List Nat} (h : Chg K W W') (hk : ∀ y ∈ K, y ∈ N) : Sub (mask W N) (mask W' N) := mask_grow h fun y hy => Or.inl (hk y hy)
set_option maxRecDepth 100000 in
set_option maxHeartbeats 16000000 in
theorem made11_calls (da : Option Addr) (dn dc : Nat) (w0 : World) (h : IntsAt w0 da dn) (hdl : dn ≤ 1000000000000000) : Calls Tryz.prog 12 #[.slice da dn dc] w0 (MadeWQ w0) := by
  have HI := Lib.hid h
  clear h
  obtain ⟨rb, hrb⟩ : ∃ rb, rb = w0.heap.size := ⟨_, rfl⟩
  obtain ⟨wa, hwa⟩ : ∃ wa, wa = w0.alloc (.cells #[.slice none 0 0, .slice none 0 0, .int .i64 0, .string ⟨#[]⟩, .slice none 0 0, .int .i64 0, .int .i64 0, .slice none 0 0, .slice none 0 0] 34) := ⟨_, rfl⟩
  have HXA := Lib.hid (show Ext w0 wa by rw [hwa]; exact (Ext.refl _).alloc _)
  have HRA := Lib.hid (show wa.heap[rb]? = some worldV0.obj by rw [hwa, hrb]; exact alloc_new w0 _)
  have HRE := Lib.hid hrb
  go_enter Tryz.func12, Tryz.ntmps12
  go_upto_region 1 with fail
  rw [← hwa, ← hrb]
  clear hwa hrb
  go_wp2_with fail
  refine (new_callsB da dn dc w0 wa HI.out HXA.out hdl).mono ?_
  rintro e w1 ⟨bd, rfl, hd1, hx1, hbl⟩
  go_upto_region 3 with fail
  obtain ⟨bw, hbw⟩ : ∃ bw, bw = w1.heap.size := ⟨_, rfl⟩
  obtain ⟨w2, hw2⟩ : ∃ w2, w2 = w1.alloc (.cells #[.slice none 0 0, .slice none 0 0, .int .i64 0, .string ⟨#[]⟩, .slice none 0 0, .int .i64 0, .int .i64 0, .slice none 0 0, .slice none 0 0] 34) := ⟨_, rfl⟩
  have hx2 : Ext w1 w2 := by rw [hw2]; exact (Ext.refl _).alloc _
  have HW2 := Lib.hid (show w2.heap[bw]? = some worldV0.obj by rw [hw2, hbw]; exact alloc_new w1 _)
  have HLT := Lib.hid (show rb < bd ∧ bd < bw ∧ w0.heap.size ≤ rb by have := blk_lt HRA.out; have := hd1.lt; have := HRE.out; omega)
  rw [← hw2, ← hbw]
  clear hw2 hbw
  have HD2 := Lib.hid (hd1.ext hx2)
  have HX2 := Lib.hid ((HXA.out.trans hx1).trans hx2)
  have HR2 := Lib.hid (hx2.blk (hx1.blk HRA.out))
  clear hd1 hx1 hx2 hbl HXA HRA HRE
  go_wp2_with fail
  refine (next_calls HD2.out 6 (by omega) (by omega)).mono ?_
  rintro e w3 ⟨z, rfl, hz0, hz1, hd3, hc3⟩
  have HLB := Lib.hid (show ∀ y ∈ [bd, bw, rb], y < w3.heap.size from fun y hy => by
    have h1 := blk_lt HW2.out
    have h2 := HLT.out
    have h3 := hc3.size
    simp only [List.mem_cons, List.not_mem_nil, or_false] at hy
    rcases hy with rfl | rfl | rfl <;> omega)
  have HD3 := Lib.hid hd3
  have HW3 := Lib.hid (hc3.blk HW2.out (by have := HLT.out; simp; omega))
  have HR3 := Lib.hid (hc3.blk HR2.out (by have := HLT.out; simp; omega))
  clear hd3 hc3 HD2 HX2 HW2 HR2
  go_wp2_with fail
  refine (schema_calls z [bd, bw, rb] w3 HLB.out).mono ?_
  rintro e w4 ⟨attrs, v, rfl, hat, hsch, hx4⟩
  obtain ⟨sa, sn, sc, rfl, hsn⟩ := hsch.slice
  have HAT := Lib.hid hat
  have HW4 := Lib.hid (hx4.blk HW3.out)
  have HR4 := Lib.hid (hx4.blk HR3.out)
  have HD4 := Lib.hid (HD3.out.ext hx4)
  have HS4 := Lib.hid hsch
  have HLB4 := Lib.hid (show ∀ y ∈ [bd, bw, rb], y < w4.heap.size from fun y hy => Nat.lt_of_lt_of_le (HLB.out y hy) hx4.size)
  clear hat hsch hx4 HW3 HR3 HD3 HLB hsn
  have hw4 : w4.heap[bw]? = some (.cells #[.slice none 0 0, .slice none 0 0, .int .i64 0, .string ⟨#[]⟩, .slice none 0 0, .int .i64 0, .int .i64 0, .slice none 0 0, .slice none 0 0] 34 (0, 0)) := HW4.out
  obtain ⟨c0, c1, c2, c3, c4, c5, c6, c7, c8, cf⟩ := blk9 hw4
  go_upto_region 4 with fail
  obtain ⟨w5, hw5⟩ : ∃ w5, w5 = w4.setCell ⟨bw, 0, none⟩ (.slice sa sn sc) := ⟨_, rfl⟩
  have hc5 : Chg [bw] w4 w5 := by rw [hw5]; exact put_chg _ _ _ _
  have HW5 := Lib.hid (show w5.heap[bw]? = some (WorldV.obj { worldV0 with sa := sa, sn := sn, sc := sc }) by rw [hw5]; have := put_blk (i := 0) hw4 (.slice sa sn sc); simpa [WorldV.obj, worldV0] using this)
  rw [← hw5]
  clear hw5 hw4 c0 c1 c2 c3 c4 c5 c6 c7 c8 cf HW4
  have HR5 := Lib.hid (hc5.blk HR4.out (by have := HLT.out; simp; omega))
  have HD5 := Lib.hid (HD4.out.chg hc5 (by have := HLT.out; simp; omega) (fun y hy => by simp only [List.mem_singleton] at hy; have := HLT.out; omega))
  have HS5 := Lib.hid (HS4.out.mono (mask_chg hc5 (by simp)))
  have HLB5 := Lib.hid (show ∀ y ∈ [bd, bw, rb], y < w5.heap.size from fun y hy => Nat.lt_of_lt_of_le (HLB4.out y hy) hc5.size)
  clear hc5 HR4 HD4 HS4 HLB4
  have hw5 : w5.heap[bw]? = some (.cells #[.slice sa sn sc, .slice none 0 0, .int .i64 0, .string ⟨#[]⟩, .slice none 0 0, .int .i64 0, .int .i64 0, .slice none 0 0, .slice none 0 0] 34 (0, 0)) := HW5.out
  obtain ⟨c0, c1, c2, c3, c4, c5, c6, c7, c8, cf⟩ := blk9 hw5
  clear hw5
  go_wp2_with fail
  refine (dfacts_calls (schema_zero HAT.out) (attrs_fits HAT.out) HD5.out sa sn sc [bd, bw, rb] (HS5.out.mono (mask_less _ (by simp))) HLB5.out).mono ?_
  rintro e w6 ⟨f, fa, fc, rfl, hfa, -, hif, hd6, hc6⟩
  have HFA := Lib.hid hfa
  have HIF6 := Lib.hid hif
  have HD6 := Lib.hid hd6
  have HW6 := Lib.hid (hc6.blk HW5.out (by have := HLT.out; simp; omega))
  have HR6 := Lib.hid (hc6.blk HR5.out (by have := HLT.out; simp; omega))
  have HS6 := Lib.hid (HS5.out.mono (mask_chg hc6 (by simp)))
  have HLB6 := Lib.hid (show ∀ y ∈ [bd, bw, rb], y < w6.heap.size from fun y hy => Nat.lt_of_lt_of_le (HLB5.out y hy) hc6.size)
  clear hfa hif hd6 hc6 c0 c1 c2 c3 c4 c5 c6 c7 c8 cf HD5 HW5 HR5 HS5 HLB5
  have hw6 : w6.heap[bw]? = some (.cells #[.slice sa sn sc, .slice none 0 0, .int .i64 0, .string ⟨#[]⟩, .slice none 0 0, .int .i64 0, .int .i64 0, .slice none 0 0, .slice none 0 0] 34 (0, 0)) := HW6.out
  obtain ⟨c0, c1, c2, c3, c4, c5, c6, c7, c8, cf⟩ := blk9 hw6
  obtain ⟨fn, hfn⟩ : ∃ fn, fn = f.length := ⟨_, rfl⟩
  rw [← hfn]
  rw [← hfn] at HIF6
  clear hfn
  go_upto_region 5 with fail
  obtain ⟨w7, hw7⟩ : ∃ w7, w7 = w6.setCell ⟨bw, 8, none⟩ (.slice fa fn fc) := ⟨_, rfl⟩
  have hc7 : Chg [bw] w6 w7 := by rw [hw7]; exact put_chg _ _ _ _
  have HW7 := Lib.hid (show w7.heap[bw]? = some (WorldV.obj { worldV0 with sa := sa, sn := sn, sc := sc, fa := fa, fn := fn, fc := fc }) by rw [hw7]; have := put_blk (i := 8) hw6 (.slice fa fn fc); simpa [WorldV.obj, worldV0] using this)
  rw [← hw7]
  clear hw7 hw6 c0 c1 c2 c3 c4 c5 c6 c7 c8 cf HW6
  have HR7 := Lib.hid (hc7.blk HR6.out (by have := HLT.out; simp; omega))
  have HD7 := Lib.hid (HD6.out.chg hc7 (by have := HLT.out; simp; omega) (fun y hy => by simp only [List.mem_singleton] at hy; have := HLT.out; omega))
  have HS7 := Lib.hid (HS6.out.mono (mask_chg hc7 (by simp)))
  have HIF7 := Lib.hid (HIF6.out.mono (mask_chg hc7 (by simp)))
  have HLB7 := Lib.hid (show ∀ y ∈ [bd, bw, rb], y < w7.heap.size from fun y hy => Nat.lt_of_lt_of_le (HLB6.out y hy) hc7.size)
  clear hc7 HR6 HD6 HS6 HLB6 HIF6
  have hw7 : w7.heap[bw]? = some (.cells #[.slice sa sn sc, .slice none 0 0, .int .i64 0, .string ⟨#[]⟩, .slice none 0 0, .int .i64 0, .int .i64 0, .slice none 0 0, .slice fa fn fc] 34 (0, 0)) := HW7.out
  obtain ⟨c0, c1, c2, c3, c4, c5, c6, c7, c8, cf⟩ := blk9 hw7
  clear hw7
  have HCL := Lib.hid (show Calls Tryz.prog 29 #[.pointer (some ⟨bd, 0, none⟩), .agg #[.slice sa sn sc], .int .i64 5, .string ⟨#[99, 45]⟩] w7 (GenQ attrs pcd 5 w0 bd [bd, bw, rb] w7) from
    gclauses_calls HAT.out (schemas_ok attrs HAT.out).1 (schemas_ok attrs HAT.out).2.1 (schemas_ok attrs HAT.out).2.2 HD7.out sa sn sc [bd, bw, rb] (HS7.out.mono (mask_less _ (by simp))) HLB7.out 5 (by omega) pcd (by decide))
  go_wp2_with fail
  refine HCL.out.mono ?_
  rintro e w8 ⟨l, la, ln, lc, rfl, hcl, hgl, hl1, hl2, hd8, hc8⟩
  have HGL := Lib.hid hgl
  have HLL := Lib.hid (show l.length ≤ 6 from hl2)
  have HCL8 := Lib.hid hcl
  have HLN := Lib.hid (show ln = l.length by obtain ⟨vs, hr, hl, -⟩ := hcl; rw [hr.1, hl])
  have HD8 := Lib.hid hd8
  have HW8 := Lib.hid (hc8.blk HW7.out (by have := HLT.out; simp; omega))
  have HR8 := Lib.hid (hc8.blk HR7.out (by have := HLT.out; simp; omega))
  have HS8 := Lib.hid (HS7.out.mono (mask_chg hc8 (by simp)))
  have HIF8 := Lib.hid (HIF7.out.mono (mask_chg hc8 (by simp)))
  have HLB8 := Lib.hid (show ∀ y ∈ [bd, bw, rb], y < w8.heap.size from fun y hy => Nat.lt_of_lt_of_le (HLB7.out y hy) hc8.size)
  clear hcl hgl hl1 hl2 hd8 hc8 c0 c1 c2 c3 c4 c5 c6 c7 c8 cf HD7 HW7 HR7 HS7 HIF7 HLB7 HCL
  have hw8 : w8.heap[bw]? = some (.cells #[.slice sa sn sc, .slice none 0 0, .int .i64 0, .string ⟨#[]⟩, .slice none 0 0, .int .i64 0, .int .i64 0, .slice none 0 0, .slice fa fn fc] 34 (0, 0)) := HW8.out
  obtain ⟨c0, c1, c2, c3, c4, c5, c6, c7, c8, cf⟩ := blk9 hw8
  go_upto_region 6 with fail
  obtain ⟨w9, hw9⟩ : ∃ w9, w9 = w8.setCell ⟨bw, 1, none⟩ (.slice la ln lc) := ⟨_, rfl⟩
  have hc9 : Chg [bw] w8 w9 := by rw [hw9]; exact put_chg _ _ _ _
  have HW9 := Lib.hid (show w9.heap[bw]? = some (WorldV.obj { worldV0 with sa := sa, sn := sn, sc := sc, la := la, ln := ln, lc := lc, fa := fa, fn := fn, fc := fc }) by rw [hw9]; have := put_blk (i := 1) hw8 (.slice la ln lc); simpa [WorldV.obj, worldV0] using this)
  rw [← hw9]
  clear hw9 hw8 c0 c1 c2 c3 c4 c5 c6 c7 c8 cf HW8
  have HR9 := Lib.hid (hc9.blk HR8.out (by have := HLT.out; simp; omega))
  have HD9 := Lib.hid (HD8.out.chg hc9 (by have := HLT.out; simp; omega) (fun y hy => by simp only [List.mem_singleton] at hy; have := HLT.out; omega))
  have HS9 := Lib.hid (HS8.out.mono (mask_chg hc9 (by simp)))
  have HIF9 := Lib.hid (HIF8.out.mono (mask_chg hc9 (by simp)))
  have HCL9 := Lib.hid (HCL8.out.mono (mask_chg hc9 (by simp)))
  have HLB9 := Lib.hid (show ∀ y ∈ [bd, bw, rb], y < w9.heap.size from fun y hy => Nat.lt_of_lt_of_le (HLB8.out y hy) hc9.size)
  clear hc9 HR8 HD8 HS8 HLB8 HIF8 HCL8
  go_wp2_with fail
  go_loopw [6, 7] (NmL w9 l ln) (fun _ i _ => ln - (intOf i).toNat)
  case atStart => exact ⟨0, rfl, by omega, World.ownsRow_nil _ _ _ _, Ext.refl _⟩
  case round =>
    obtain ⟨k, rfl, hk, hown, hx⟩ := hrel
    have HOW := Lib.hid hown
    have HX := Lib.hid hx
    have hxs := hx.size
    have hwr : wr.heap[bw]? = some (.cells #[.slice sa sn sc, .slice la ln lc, .int .i64 0, .string ⟨#[]⟩, .slice none 0 0, .int .i64 0, .int .i64 0, .slice none 0 0, .slice fa fn fc] 34 (0, 0)) := hx.blk HW9.out
    obtain ⟨c0, c1, c2, c3, c4, c5, c6, c7, c8, cf⟩ := blk9 hwr
    clear hown hx hwr
    by_cases hkn : k < ln
    · have t1 : decide ((k : Int) < (ln : Int)) = true := decide_eq_true (by omega)
      have hkm : k < l.length := by have := HLN.out; omega
      have hll := HLL.out
      obtain ⟨b, off, v, rfl, hcla, hrow⟩ := ((HCL9.out.mono (mask_sub _ _)).ext HX.out).at hkm
      obtain ⟨d0, d1, -, -, -, -, -, -, -, -⟩ := hrow.ten
      have HKD := Lib.hid hcla.1
      have HNM := Lib.hid hcla.2.1
      have hnl : (dfnNames (l.take k)).length ≤ 6 := by
        unfold dfnNames
        rw [List.length_map]
        have := List.length_filter_le (fun c : Cla => c.kind == 1) (l.take k)
        have := List.length_take_le k l
        omega
      have ti0 : (0 : Int) ≤ (k : Int) := by omega
      have ti1 : (k : Int) < (ln : Int) := by omega
      clear hcla hrow
      cases hkd : (v.kind == 1)
      · have HNS := Lib.hid (show dfnNames (l.take (k + 1)) = dfnNames (l.take k) by rw [dfnNames_snoc hkm, ← HKD.out, hkd]; simp)
        go_wp2_with fail
        go_roundw
        case rel => exact ⟨k + 1, by go_num, by omega, by rw [HNS.out]; exact HOW.out, HX.out⟩
        case measure => simp [intOf]; omega
      · have HNS := Lib.hid (show dfnNames (l.take (k + 1)) = dfnNames (l.take k) ++ [v.name] by rw [dfnNames_snoc hkm, ← HKD.out, hkd, HNM.out]; simp)
        obtain ⟨nk, hnk⟩ : ∃ nk, nk = (dfnNames (l.take k)).length := ⟨_, rfl⟩
        rw [← hnk] at hnl
        have hown := HOW.out
        rw [← hnk] at hown
        have HOWK := Lib.hid hown
        have HNK := Lib.hid hnk
        clear hnk hown
        go_wp2_with (at_builtin; refine wpList_append_at elemStr rfl _ _ rfl w9.heap.size _ nk _ rfl HOWK.out _ 1 1 rfl ?f0 rfl ?f1 ?f2 ?f3 ?f4 ?_)
        case f0 => simp
        case f1 => simp [Value.oneCell']
        case f2 => unfold maxLen; omega
        case f3 => omega
        case f4 => omega
        intro v8 w10 hown8 hc8 hw8
        have HO8 := Lib.hid (show w10.ownsRow w9.heap.size 9 1 v8 (dfnNames (l.take (k + 1))).length ((dfnNames (l.take (k + 1))).flatMap strCells) by
          rw [HNS.out, List.length_append, ← HNK.out]
          simpa [strCells] using hown8)
        have HX8 := Lib.hid (hc8.ext HX.out (fun y hy => (HOW.out.lt y (mem_rowOf.1 hy)).1))
        obtain ⟨a8, c8', hv8⟩ := owns_formG hown8
        subst hv8
        clear hown8 hc8 hw8
        go_wp2_with fail
        go_roundw
        case rel => exact ⟨k + 1, by go_num, by omega, HO8.out, HX8.out⟩
        case measure => simp [intOf]; omega
    · have t1 : decide ((k : Int) < (ln : Int)) = false := decide_eq_false (by omega)
      obtain rfl : k = ln := by omega
      obtain ⟨ns, hns⟩ : ∃ ns, ns = dfnNames l := ⟨_, rfl⟩
      have hCK := chk_of (show (clausesErr attrs l).2 = 0 by rw [glok_good HAT.out HGL.out])
      have HCK := Lib.hid hCK
      have HNO := Lib.hid (show ∀ x ∈ ns, nameB x = true ∧ attrAt attrs x = none ∧ (defAt l x).isSome = true by rw [hns]; exact dfnNames_ok hCK)
      have hnn : ns.length ≤ 1000 := by
        rw [hns]; unfold dfnNames
        rw [List.length_map]
        have := List.length_filter_le (fun c : Cla => c.kind == 1) l
        have := HLL.out
        omega
      obtain ⟨na', nc', rfl, hstr, -⟩ := strs_of_owns (l := ns) (by
        have h := HOW.out
        rw [List.take_of_length_le (by have := HLN.out; omega), ← hns] at h
        exact h) [bd, bw, rb] HLB9.out
      obtain ⟨nn, hnnv⟩ : ∃ nn, nn = ns.length := ⟨_, rfl⟩
      rw [← hnnv] at hstr hnn ⊢
      have HSTR := Lib.hid hstr
      have HNN := Lib.hid hnnv
      have HDR := Lib.hid (HD9.out.ext HX.out)
      have HSR := Lib.hid (HS9.out.mono (mask_ext _ HX.out))
      have HCR := Lib.hid (HCL9.out.mono (mask_ext _ HX.out))
      have HIR := Lib.hid (HIF9.out.mono (mask_ext _ HX.out))
      have HWR := Lib.hid (HX.out.blk HW9.out)
      have HRR := Lib.hid (HX.out.blk HR9.out)
      have HLR := Lib.hid (show ∀ y ∈ [bd, bw, rb], y < wr.heap.size from fun y hy => Nat.lt_of_lt_of_le (HLB9.out y hy) HX.out.size)
      have HDX := Lib.hid (show Calls Tryz.prog 24 #[.pointer (some ⟨bd, 0, none⟩), .agg #[.slice sa sn sc], .slice na' nn nc', .int .i64 4] wr (MadeQ (MadeE attrs ns 4) w0 bd [bd, bw, rb] wr) from by
        rw [HNN.out]
        exact dexpr_calls attrs ns (schemas_ok attrs HAT.out).1 (schemas_ok attrs HAT.out).2.1 (schemas_ok attrs HAT.out).2.2 (by omega) 3 (by omega) HDR.out sa sn sc na' ns.length nc' [bd, bw, rb] (HSR.out.mono (mask_less _ (by simp))) (by have := HSTR.out; rw [HNN.out] at this; exact this.mono (mask_less _ (by simp))) HLR.out)
      clear hns hCK hstr hnnv HOW HX hxs HD9 HS9 HCL9 HIF9 HW9 HR9 HLB9 hnn
      go_wp2_with fail
      refine HDX.out.mono ?_
      rintro r w11 ⟨x, xv, rfl, hmx, hix, hd11, hc11⟩
      have HMX := Lib.hid hmx
      have HIX11 := Lib.hid hix
      have HD11 := Lib.hid hd11
      have HS11 := Lib.hid (HSR.out.mono (mask_chg hc11 (by simp)))
      have HC11 := Lib.hid (HCR.out.mono (mask_chg hc11 (by simp)))
      have HI11 := Lib.hid (HIR.out.mono (mask_chg hc11 (by simp)))
      have HW11 := Lib.hid (hc11.blk HWR.out (by have := HLT.out; simp; omega))
      have HR11 := Lib.hid (hc11.blk HRR.out (by have := HLT.out; simp; omega))
      have HL11 := Lib.hid (show ∀ y ∈ [bd, bw, rb], y < w11.heap.size from fun y hy => Nat.lt_of_lt_of_le (HLR.out y hy) hc11.size)
      clear hmx hix hd11 hc11 c0 c1 c2 c3 c4 c5 c6 c7 c8 cf HDX HDR HSR HCR HIR HWR HRR HLR
      have hw11 : w11.heap[bw]? = some (.cells #[.slice sa sn sc, .slice la k lc, .int .i64 0, .string ⟨#[]⟩, .slice none 0 0, .int .i64 0, .int .i64 0, .slice none 0 0, .slice fa fn fc] 34 (0, 0)) := HW11.out
      obtain ⟨c0, c1, c2, c3, c4, c5, c6, c7, c8, cf⟩ := blk9 hw11
      unfold ExV.val exV
      go_upto_region 13 with fail
      obtain ⟨w12, hw12⟩ : ∃ w12, w12 = putE w11 bw xv := ⟨_, rfl⟩
      have hc12 : Chg [bw] w11 w12 := by rw [hw12]; exact putE_chg _ _ _
      have HW12 := Lib.hid (show w12.heap[bw]? = some (WorldV.obj { worldV0 with sa := sa, sn := sn, sc := sc, la := la, ln := k, lc := lc, x := xv, fa := fa, fn := fn, fc := fc }) by rw [hw12]; exact putE_blk (v := { worldV0 with sa := sa, sn := sn, sc := sc, la := la, ln := k, lc := lc, fa := fa, fn := fn, fc := fc }) HW11.out xv)
      unfold putE at hw12
      rw [← hw12]
      clear hw12 hw11 c0 c1 c2 c3 c4 c5 c6 c7 c8 cf HW11
      have HR12 := Lib.hid (hc12.blk HR11.out (by have := HLT.out; simp; omega))
      have HD12 := Lib.hid (HD11.out.chg hc12 (by have := HLT.out; simp; omega) (fun y hy => by simp only [List.mem_singleton] at hy; have := HLT.out; omega))
      have HS12 := Lib.hid (HS11.out.mono (mask_chg hc12 (by simp)))
      have HI12 := Lib.hid (HI11.out.mono (mask_chg hc12 (by simp)))
      have HC12 := Lib.hid (HC11.out.mono (mask_chg hc12 (by simp)))
      have HX12 := Lib.hid (HIX11.out.mono (mask_chg hc12 (by simp)))
      have HL12 := Lib.hid (show ∀ y ∈ [bd, bw, rb], y < w12.heap.size from fun y hy => Nat.lt_of_lt_of_le (HL11.out y hy) hc12.size)
      clear hc12 HR11 HD11 HS11 HI11 HC11 HIX11 HL11
      have hw12 : w12.heap[bw]? = some (.cells #[.slice sa sn sc, .slice la k lc, .int .i64 xv.op, .string xv.name, .slice xv.aw xv.nw xv.cw, .int .i64 xv.lo, .int .i64 xv.hi, .slice xv.aa xv.na xv.ca, .slice fa fn fc] 34 (0, 0)) := HW12.out
      obtain ⟨c0, c1, c2, c3, c4, c5, c6, c7, c8, cf⟩ := blk9 hw12
      have HMO := Lib.hid (made_okay HAT.out (fun y hy => by have := nameB_le (HNO.out y hy).1; omega) 4 x HMX.out)
      have HXP := Lib.hid (show Calls Tryz.prog 30 #[.slice la k lc, .agg #[.int .i64 xv.op, .string xv.name, .slice xv.aw xv.nw xv.cw, .int .i64 xv.lo, .int .i64 xv.hi, .slice xv.aa xv.na xv.ca]] w12 (GivesE (.int .i64 (expanded l x)) w12) from
        rExpanded_calls l la k lc (by have := HLL.out; have := HLN.out; omega) (fun c hc => by have := (HGL.out.1 c hc).1.2.2.1; omega) x xv.val w12 (by have := HMO.out.size; simp [bndS] at this; omega) (HC12.out.mono (mask_sub _ _)) (HX12.out.mono (mask_sub _ _)))
      obtain ⟨E, hE⟩ : ∃ E, E = expanded l x := ⟨_, rfl⟩
      rw [← hE] at HXP
      have HE := Lib.hid hE
      clear hE hw12
      go_wp2_with fail
      refine HXP.out.mono ?_
      rintro r w13 ⟨rfl, hx13⟩
      have HW13 := Lib.hid (hx13.blk HW12.out)
      have HR13 := Lib.hid (hx13.blk HR12.out)
      have HD13 := Lib.hid (HD12.out.ext hx13)
      have HS13 := Lib.hid (HS12.out.mono (mask_ext _ hx13))
      have HI13 := Lib.hid (HI12.out.mono (mask_ext _ hx13))
      have HC13 := Lib.hid (HC12.out.mono (mask_ext _ hx13))
      have HX13 := Lib.hid (HX12.out.mono (mask_ext _ hx13))
      have HL13 := Lib.hid (show ∀ y ∈ [bd, bw, rb], y < w13.heap.size from fun y hy => Nat.lt_of_lt_of_le (HL12.out y hy) hx13.size)
      clear hx13 c0 c1 c2 c3 c4 c5 c6 c7 c8 cf HXP HW12 HR12 HD12 HS12 HI12 HC12 HX12 HL12
      have hw13 : w13.heap[bw]? = some (.cells #[.slice sa sn sc, .slice la k lc, .int .i64 xv.op, .string xv.name, .slice xv.aw xv.nw xv.cw, .int .i64 xv.lo, .int .i64 xv.hi, .slice xv.aa xv.na xv.ca, .slice fa fn fc] 34 (0, 0)) := HW13.out
      obtain ⟨c0, c1, c2, c3, c4, c5, c6, c7, c8, cf⟩ := blk9 hw13
      have hTM := made_tree HAT.out (fun y hy => (HNO.out y hy).1) 4 x HMX.out
      have hND := made_nodes HAT.out (l := l) (fun y hy => (HNO.out y hy).2) 4 x HMX.out
      have HTM := Lib.hid (And.intro hTM hND)
      clear hTM hND
      by_cases hbig : 1000 < E
      case pos =>
        have t2 : decide ((1000 : Int) < (E : Int)) = true := decide_eq_true (by omega)
        go_upto_region 15 with fail
        obtain ⟨w14, hw14⟩ : ∃ w14, w14 = putE w13 bw ⟨1, ⟨#[]⟩, none, 0, 0, 0, 0, none, 0, 0⟩ := ⟨_, rfl⟩
        have hc14 : Chg [bw] w13 w14 := by rw [hw14]; exact putE_chg _ _ _
        have HW14 := Lib.hid (show w14.heap[bw]? = some (WorldV.obj { worldV0 with sa := sa, sn := sn, sc := sc, la := la, ln := k, lc := lc, x := ⟨1, ⟨#[]⟩, none, 0, 0, 0, 0, none, 0, 0⟩, fa := fa, fn := fn, fc := fc }) by rw [hw14]; exact putE_blk (v := { worldV0 with sa := sa, sn := sn, sc := sc, la := la, ln := k, lc := lc, x := xv, fa := fa, fn := fn, fc := fc }) HW13.out _)
        unfold putE at hw14
        rw [← hw14]
        clear hw14 hw13 c0 c1 c2 c3 c4 c5 c6 c7 c8 cf
        have HIW := Lib.hid (show IsWorld (mask w14 [bd, bw, rb]) attrs l (.mk 1 ⟨#[]⟩ [] 0 0 []) f ⟨sa, sn, sc, la, k, lc, ⟨1, ⟨#[]⟩, none, 0, 0, 0, 0, none, 0, 0⟩, fa, fn, fc⟩ from ⟨HAT.out, HS13.out.mono (mask_chg hc14 (by simp)), HC13.out.mono (mask_chg hc14 (by simp)), HGL.out, HLL.out, isEx_plain _ 1 0 0 _, made_okay HAT.out (names := []) (by simp) 4 _ (MadeE.atom ⟨rfl, Or.inl ⟨rfl, rfl, rfl, rfl, rfl⟩⟩ (by omega)), (term_true attrs l true).weak (by omega) (by omega) (by omega), HFA.out, HI13.out.mono (mask_chg hc14 (by simp))⟩)
        have HRZ := Lib.hid (hc14.blk HR13.out (by have := HLT.out; simp; omega))
        have HDZ := Lib.hid (HD13.out.chg hc14 (by have := HLT.out; simp; omega) (fun y hy => by simp only [List.mem_singleton] at hy; have := HLT.out; omega))
        clear hc14
        have hwz : w14.heap[bw]? = some (.cells #[.slice sa sn sc, .slice la k lc, .int .i64 1, .string ⟨#[]⟩, .slice none 0 0, .int .i64 0, .int .i64 0, .slice none 0 0, .slice fa fn fc] 34 (0, 0)) := HW14.out
        obtain ⟨c0, c1, c2, c3, c4, c5, c6, c7, c8, cf⟩ := blk9 hwz
        have hrz : w14.heap[rb]? = some (.cells #[.slice none 0 0, .slice none 0 0, .int .i64 0, .string ⟨#[]⟩, .slice none 0 0, .int .i64 0, .int .i64 0, .slice none 0 0, .slice none 0 0] 34 (0, 0)) := HRZ.out
        obtain ⟨r0, r1, r2, r3, r4, r5, r6, r7, r8, rf⟩ := blk9 hrz
        clear hwz hrz
        go_wp2_with fail
        obtain ⟨wz, hwz⟩ : ∃ wz, wz = putW w14 rb ⟨sa, sn, sc, la, k, lc, ⟨1, ⟨#[]⟩, none, 0, 0, 0, 0, none, 0, 0⟩, fa, fn, fc⟩ := ⟨_, rfl⟩
        have hcz : Chg [rb] w14 wz := by rw [hwz]; exact putW_chg _ _ _
        have HZ : wz.heap[rb]? = some (.cells #[.slice sa sn sc, .slice la k lc, .int .i64 1, .string ⟨#[]⟩, .slice none 0 0, .int .i64 0, .int .i64 0, .slice none 0 0, .slice fa fn fc] 34 (0, 0)) := by rw [hwz]; exact putW_blk (v0 := worldV0) HRZ.out ⟨sa, sn, sc, la, k, lc, ⟨1, ⟨#[]⟩, none, 0, 0, 0, 0, none, 0, 0⟩, fa, fn, fc⟩
        unfold putW putE at hwz
        rw [← hwz]
        clear hwz c0 c1 c2 c3 c4 c5 c6 c7 c8 cf r0 r1 r2 r3 r4 r5 r6 r7 r8 rf
        obtain ⟨z0, z1, z2, z3, z4, z5, z6, z7, z8, zf⟩ := blk9 HZ
        have hdz := HDZ.out.chg hcz (by have := HLT.out; simp; omega) (fun y hy => by simp only [List.mem_singleton] at hy; have := HLT.out; omega)
        refine bodyPost_ret (v := .tuple #[WorldV.val ⟨sa, sn, sc, la, k, lc, ⟨1, ⟨#[]⟩, none, 0, 0, 0, 0, none, 0, 0⟩, fa, fn, fc⟩, .pointer (some ⟨bd, 0, none⟩)]) (by simp [results, Tryz.results12, go_sem, WorldV.val, z0, z1, z2, z3, z4, z5, z6, z7, z8]) rfl ?_
        exact ⟨attrs, l, _, f, _, bd, rfl, (HIW.out.mono (mask_chg hcz (by simp))).mono (mask_less _ (by simp)), hdz, by obtain ⟨_, _, _, _, _, _, _, _, hxw, _⟩ := hdz; exact hxw⟩
      have t2 : decide ((1000 : Int) < (E : Int)) = false := decide_eq_false (by omega)
      have HIW := Lib.hid (show IsWorld (mask w13 [bd, bw, rb]) attrs l x f ⟨sa, sn, sc, la, k, lc, xv, fa, fn, fc⟩ from ⟨HAT.out, HS13.out, HC13.out, HGL.out, HLL.out, HX13.out, HMO.out, ⟨HTM.out.1.1, HTM.out.1.2, by have := HMO.out.size; simpa [bndS] using this, HTM.out.2, by rw [← HE.out]; omega⟩, HFA.out, HI13.out⟩)
      clear c0 c1 c2 c3 c4 c5 c6 c7 c8 cf hw13
      have hwz : w13.heap[bw]? = some (.cells #[.slice sa sn sc, .slice la k lc, .int .i64 xv.op, .string xv.name, .slice xv.aw xv.nw xv.cw, .int .i64 xv.lo, .int .i64 xv.hi, .slice xv.aa xv.na xv.ca, .slice fa fn fc] 34 (0, 0)) := HW13.out
      obtain ⟨c0, c1, c2, c3, c4, c5, c6, c7, c8, cf⟩ := blk9 hwz
      have hrz : w13.heap[rb]? = some (.cells #[.slice none 0 0, .slice none 0 0, .int .i64 0, .string ⟨#[]⟩, .slice none 0 0, .int .i64 0, .int .i64 0, .slice none 0 0, .slice none 0 0] 34 (0, 0)) := HR13.out
      obtain ⟨r0, r1, r2, r3, r4, r5, r6, r7, r8, rf⟩ := blk9 hrz
      clear hwz hrz
      go_wp2_with fail
      obtain ⟨wz, hwz⟩ : ∃ wz, wz = putW w13 rb ⟨sa, sn, sc, la, k, lc, xv, fa, fn, fc⟩ := ⟨_, rfl⟩
      have hcz : Chg [rb] w13 wz := by rw [hwz]; exact putW_chg _ _ _
      have HZ : wz.heap[rb]? = some (.cells #[.slice sa sn sc, .slice la k lc, .int .i64 xv.op, .string xv.name, .slice xv.aw xv.nw xv.cw, .int .i64 xv.lo, .int .i64 xv.hi, .slice xv.aa xv.na xv.ca, .slice fa fn fc] 34 (0, 0)) := by rw [hwz]; exact putW_blk (v0 := worldV0) HR13.out ⟨sa, sn, sc, la, k, lc, xv, fa, fn, fc⟩
      unfold putW putE at hwz
      rw [← hwz]
      clear hwz c0 c1 c2 c3 c4 c5 c6 c7 c8 cf r0 r1 r2 r3 r4 r5 r6 r7 r8 rf
      obtain ⟨z0, z1, z2, z3, z4, z5, z6, z7, z8, zf⟩ := blk9 HZ
      have hdz := HD13.out.chg hcz (by have := HLT.out; simp; omega) (fun y hy => by simp only [List.mem_singleton] at hy; have := HLT.out; omega)
      refine bodyPost_ret (v := .tuple #[WorldV.val ⟨sa, sn, sc, la, k, lc, xv, fa, fn, fc⟩, .pointer (some ⟨bd, 0, none⟩)]) (by simp [results, Tryz.results12, go_sem, WorldV.val, z0, z1, z2, z3, z4, z5, z6, z7, z8]) rfl ?_
      exact ⟨attrs, l, _, f, _, bd, rfl, (HIW.out.mono (mask_chg hcz (by simp))).mono (mask_less _ (by simp)), hdz, by obtain ⟨_, _, _, _, _, _, _, _, hxw, _⟩ := hdz; exact hxw⟩
open Go.RowKit
def sch2 : List Attr := [⟨⟨#[97]⟩, 3, [], 0, 0⟩, ⟨⟨#[114, 111, 108, 101]⟩, 1, [⟨#[99, 114, 101, 119]⟩, ⟨#[103, 117, 101, 115, 116]⟩], 0, 0⟩, ⟨⟨#[98]⟩, 3, [], 0, 0⟩]
def SchIQ (l : List Attr) (w : World) (e : Ending) (w' : World) : Prop := ∃ v, e = .returned v ∧ IsSchema w' l v ∧ Ext w w'
theorem schIQ_mk {w W : World} {g n : Nat} {l : List Attr} (avs : List AttrV) {t : TypeId} (h : W.heap[g]? = some (.cells (avs.flatMap AttrV.cells).toArray t (0, 0))) (hn : n = avs.length) (hl : avs.map (·.x) = l) (hs : ∀ v ∈ avs, IsStrs W v.x.words v.a v.n v.c) (hx : Ext w W) :
    SchIQ l w (.returned (.agg #[.slice (some ⟨g, 0, none⟩) n n])) W :=
  ⟨_, rfl, hl ▸ isSchema_block h hn hs, hx⟩
theorem within_at (x n r : Int) (w : World) (hn : 0 < n) (hn2 : n ≤ 1000000000000000000) (hr : (x.tmod n + n).tmod n = r) : Calls Tryz.prog 26 #[.int .i64 x, .int .i64 n] w (fun e w' => e = .returned (.int .i64 r) ∧ w' = w) := by
  go_enter Tryz.func26, Tryz.ntmps26
  go_wp2_with fail
  go_ret
  have a1 := Int.tmod_lt_of_pos x hn
  have a5 := Int.lt_tmod_of_pos x hn
  rw [IntWalk.wrap64_in (x.tmod n + n) (by omega), hr]
  exact ⟨rfl, rfl⟩
set_option maxRecDepth 100000 in
set_option maxHeartbeats 1000000 in
theorem schema2_calls (w : World) : Calls Tryz.prog 27 #[.int .i64 2] w (SchIQ sch2 w) := by
  go_enter Tryz.func27, Tryz.ntmps27
  go_wp2_with fail
  refine (within_at 2 6 2 _ (by omega) (by omega) (by decide)).mono ?_
  rintro e w' ⟨rfl, rfl⟩
  go_wp2_with fail
  refine bodyPost_ret (v := .agg #[.slice (some ⟨w.heap.size + 2, 0, none⟩) 3 3]) (by simp [results, Tryz.results27, go_sem]) rfl ?_
  refine schIQ_mk [⟨⟨⟨#[97]⟩, 3, [], 0, 0⟩, none, 0, 0⟩, ⟨⟨⟨#[114, 111, 108, 101]⟩, 1, [⟨#[99, 114, 101, 119]⟩, ⟨#[103, 117, 101, 115, 116]⟩], 0, 0⟩, some ⟨w.heap.size + 1, 0, none⟩, 2, 2⟩, ⟨⟨⟨#[98]⟩, 3, [], 0, 0⟩, none, 0, 0⟩] (t := 85) ?_ rfl rfl ?_ ((((Ext.refl _).alloc _).alloc _).alloc _)
  · simpa [AttrV.cells] using alloc_new ((w.alloc (.cells #[.slice (some ⟨w.heap.size + 2, 0, none⟩) 3 3] 31)).alloc (.cells #[.string ⟨#[99, 114, 101, 119]⟩, .string ⟨#[103, 117, 101, 115, 116]⟩] 9)) (.cells #[.string ⟨#[97]⟩, .int .i64 3, .slice none 0 0, .int .i64 0, .int .i64 0, .string ⟨#[114, 111, 108, 101]⟩, .int .i64 1, .slice (some ⟨w.heap.size + 1, 0, none⟩) 2 2, .int .i64 0, .int .i64 0, .string ⟨#[98]⟩, .int .i64 3, .slice none 0 0, .int .i64 0, .int .i64 0] 85)
  · intro v hv
    simp only [List.mem_cons, List.not_mem_nil, or_false] at hv
    rcases hv with rfl | rfl | rfl
    · exact isStrs_nil _
    · refine isStrs_block (t := 9) (blk_alloc ?_) rfl
      simpa using alloc_new (w.alloc (.cells #[.slice (some ⟨w.heap.size + 2, 0, none⟩) 3 3] 31)) (.cells #[.string ⟨#[99, 114, 101, 119]⟩, .string ⟨#[103, 117, 101, 115, 116]⟩] 9)
    · exact isStrs_nil _
theorem clausesErr_nil {s : List Attr} (h : schemaErr s = 0) : clausesErr s [] = (0, 0) := by
  unfold clausesErr
  rw [if_neg (by simpa using h), if_neg (by simp)]
  have h1 : ∀ g, firstI g ([] : List Cla).length = (0, 0) := fun g => rfl
  rw [h1, if_neg (by simp), if_neg (by
    rw [Classical.not_not]
    exact ⟨[], List.nodup_nil, fun i => ⟨fun h => by simp at h, fun h => by have := isDef_lt h; simp at this⟩, fun k i h => by simp at h⟩)]
  exact h1 _
open Go.RowKit Go.Maps
def exA : Ex := .mk 3 ⟨#[97]⟩ [] 0 0 []
def exB : Ex := .mk 3 ⟨#[98]⟩ [] 0 0 []
def exAB : Ex := .mk 8 ⟨#[]⟩ [] 0 0 [exA, exB]
theorem awk_err : evalErr sch2 [] exAB [0, 0, 1] = 0 := by
  unfold evalErr
  rw [clausesErr_nil (by decide +kernel)]
  rw [if_neg (by decide), if_neg (by decide +kernel), if_neg (by decide +kernel), if_neg (by decide +kernel)]
theorem awk_pf : pf sch2 [] [0, 0, 1] exAB = .mk true 1 [.mk true (-1) []] := by kernel_rfl
theorem exs_two {w : World} {g : Nat} {t : TypeId} {a b : Ex} {va vb : ExV} (h : w.heap[g]? = some (.cells (va.cells ++ vb.cells).toArray t (0, 0))) (ha : IsEx w a va.val) (hb : IsEx w b vb.val) : ExsD w [a, b] (some ⟨g, 0, none⟩) := by
  refine ExsD.of [a, b] 0 [va, vb] rfl fun i h1 h2 => ?_
  have hi : i = 0 ∨ i = 1 := by simp at h1; omega
  rcases hi with rfl | rfl
  · refine ⟨fun j hj => ?_, ha⟩
    rw [blk_cell h]
    have h6 : j < va.cells.length := by simp [ExV.cells]; omega
    simp [List.getElem?_append_left, h6]
  · refine ⟨fun j hj => ?_, hb⟩
    rw [blk_cell h]
    have e6 : va.cells.length = 6 := by simp [ExV.cells]
    simp [List.getElem?_append_right, e6, Nat.add_comm]
theorem in11_awk {w : World} {sv : Value} {xa : Option Addr} {fa : Option Addr} (hs : IsSchema w sch2 sv) (he : ExsD w [exA, exB] xa) (hx : OkAddr xa 2) (hi : IsIntF w [0, 0, 1] fa 3) (ho : HasOps w) : In11 w sch2 [] exAB [0, 0, 1] sv (exV 8 ⟨#[]⟩ none 0 0 0 0 xa 2 2) none 0 0 fa 3 where
  sch := hs
  sfit := by
    intro x hx
    simp only [sch2, List.mem_cons, List.not_mem_nil, or_false] at hx
    rcases hx with rfl | rfl | rfl <;> refine ⟨by decide, by simp, fun x hx => ?_⟩ <;> simp at hx
    rcases hx with rfl | rfl <;> decide
  slen := by simp [sch2]
  clas := ⟨[], ⟨rfl, Nat.le_refl _, Or.inl ⟨rfl, rfl⟩, fun i h => by simp at h⟩, rfl, fun i h => by simp at h⟩
  cn := by omega
  cfit := by simp
  ex := IsEx.mk (isStrs_nil _) rfl (Nat.le_refl _) hx he
  few := by simp [exAB, exA, exB, Ex.few, fewAll]
  fit := by simp [exAB, exA, exB, Ex.fits, fitsAll]; decide
  slim := by simp [exAB, exA, exB, Ex.slim, slimAll]
  ints := hi
  fnl := by omega
  ops := ho
set_option maxRecDepth 100000 in
set_option maxHeartbeats 4000000 in
theorem awake11_calls (w : World) (ho : HasOps w) : Calls Tryz.prog 11 #[] w (GivesE (.bool true) w) := by
  have HO := Lib.hid ho
  clear ho
  go_enter Tryz.func11, Tryz.ntmps11
  go_wp2_with fail
  refine (schema2_calls w).mono ?_
  rintro r w1 ⟨sv, rfl, hs, hx1⟩
  obtain ⟨sa, sn, sc, rfl, -⟩ := hs.slice
  have HS := Lib.hid hs
  have HX1 := Lib.hid hx1
  clear hs hx1
  go_upto_region 2 with fail
  obtain ⟨w2, hw2⟩ : ∃ w2, w2 = w1.alloc (.cells #[.slice sa sn sc] 31) := ⟨_, rfl⟩
  obtain ⟨b1, hb1⟩ : ∃ b1 : Nat, b1 = w1.heap.size := ⟨_, rfl⟩
  have HX2 := Lib.hid (show Ext w1 w2 by rw [hw2]; exact (Ext.refl _).alloc _)
  have HB1 := Lib.hid (show w2.heap[b1]? = some (.cells #[.slice sa sn sc] 31 (0, 0)) by rw [hw2, hb1]; exact alloc_new w1 _)
  rw [← hw2, ← hb1]
  clear hw2 hb1
  go_upto_region 3 with fail
  obtain ⟨w3, hw3⟩ : ∃ w3, w3 = (w2.alloc (.cells #[.int .i64 3, .string ⟨#[97]⟩, .slice none 0 0, .int .i64 0, .int .i64 0, .slice none 0 0, .int .i64 3, .string ⟨#[98]⟩, .slice none 0 0, .int .i64 0, .int .i64 0, .slice none 0 0] 26)).alloc (.cells #[.int .i64 8, .string ⟨#[]⟩, .slice none 0 0, .int .i64 0, .int .i64 0, .slice (some ⟨w2.heap.size, 0, none⟩) 2 2] 26) := ⟨_, rfl⟩
  obtain ⟨y, hy⟩ : ∃ y : Nat, y = w2.heap.size := ⟨_, rfl⟩
  have hx3 : Ext w2 w3 := by rw [hw3]; exact ((Ext.refl _).alloc _).alloc _
  have HBR := Lib.hid (show w3.heap[y]? = some (.cells #[.int .i64 3, .string ⟨#[97]⟩, .slice none 0 0, .int .i64 0, .int .i64 0, .slice none 0 0, .int .i64 3, .string ⟨#[98]⟩, .slice none 0 0, .int .i64 0, .int .i64 0, .slice none 0 0] 26 (0, 0)) by rw [hw3, hy]; exact blk_alloc (alloc_new w2 _))
  have HBE := Lib.hid (show w3.heap[y + 1]? = some (.cells #[.int .i64 8, .string ⟨#[]⟩, .slice none 0 0, .int .i64 0, .int .i64 0, .slice (some ⟨y, 0, none⟩) 2 2] 26 (0, 0)) by rw [hw3, hy]; exact alloc_atR (by simp))
  rw [← hw3, ← hy]
  have HX3 := Lib.hid (HX2.out.trans hx3)
  have HB13 := Lib.hid (hx3.blk HB1.out)
  clear hw3 hy hx3
  obtain ⟨e0, ef⟩ := blk1 HB13.out
  obtain ⟨f0, f1, f2, f3, f4, f5, ff⟩ := blk6 HBE.out
  obtain ⟨w4, hw4⟩ : ∃ w4, w4 = w3.alloc (.cells #[.int .i64 0, .int .i64 0, .int .i64 1] 3) := ⟨_, rfl⟩
  have hx4 : Ext w3 w4 := by rw [hw4]; exact (Ext.refl _).alloc _
  have HBF := Lib.hid (show w4.heap[w3.heap.size]? = some (.cells #[.int .i64 0, .int .i64 0, .int .i64 1] 3 (0, 0)) by rw [hw4]; exact alloc_new w3 _)
  have HPC := Lib.hid (proved_calls sch2 [] exAB [0, 0, 1] (.agg #[.slice sa sn sc]) _ none 0 0 (some ⟨w3.heap.size, 0, none⟩) 3 3 [] w4 (in11_awk (HS.out.ext ((HX3.out.trans hx4))) (exs_two (va := xvN ⟨#[97]⟩) (vb := xvN ⟨#[98]⟩) (hx4.blk HBR.out) (isEx_plain _ 3 0 0 _) (isEx_plain _ 3 0 0 _)) (Or.inr ⟨y, 0, rfl⟩) ⟨rfl, fun i hi => ⟨w3.heap.size, 0, rfl, by
    have hii : i = 0 ∨ i = 1 ∨ i = 2 := by simp at hi; omega
    rcases hii with rfl | rfl | rfl <;> (rw [blk_cell HBF.out]; rfl)⟩⟩ (HO.out.ext (HX1.out.trans (HX3.out.trans hx4)))) (by simp))
  unfold exV at HPC
  have HX4 := Lib.hid (HX1.out.trans (HX3.out.trans hx4))
  clear hx4
  go_wp2_with fail
  rw [← hw4]
  clear hw4 e0 ef f0 f1 f2 f3 f4 f5 ff
  refine HPC.out.mono ?_
  rintro r w5 ⟨hx5, ⟨hz, -⟩ | ⟨-, pv, rfl, hpv⟩⟩
  · exact absurd awk_err hz
  rw [awk_pf] at hpv
  obtain ⟨p1, p2, p3, -, -, p6⟩ := hpv.parts
  obtain ⟨b, off, q, pa, hq, c0, c1, c2⟩ := p6 0 (by simp [Pr.args])
  have hq2 := hq.parts.2.1
  obtain ⟨pb, pk, pa', pn, pc⟩ := pv
  simp only [Pr.value, Pr.pick, Pr.args, List.length_cons, List.length_nil, Nat.zero_add] at p1 p2 p3 pa hq2
  subst p1 p2 p3 pa
  simp only [Nat.zero_mul, Nat.add_zero] at c1
  rw [mask_cell, if_neg (by simp)] at c1
  simp only [List.getElem_cons_zero] at hq2
  rw [hq2] at c1
  have HX5 := Lib.hid (HX4.out.trans hx5)
  clear hx5 hpv p6 hq c0 c2 hq2 HPC
  unfold PrV.val
  have hltb := block_lt c1
  simp only at hltb
  go_wp2_with fail
  go_ret
  exact givesE_bool rfl (HX5.out.alloc _)
open Go.RowKit
theorem deck_lowW {w0 w : World} {bd : Nat} (h : DeckAt w0 w bd) : w0.heap.size ≤ bd := by obtain ⟨_, _, _, _, _, _, _, _, _, h⟩ := h; exact h
theorem sub_freshW {w W : World} {b : Nat} (h : Ext w W) (hb : w.heap.size ≤ b) : Sub w (mask W [b]) := fun p v hp => by
  have := block_lt hp
  rw [mask_cell, if_neg (by simp; omega)]
  exact h.cell hp
theorem IsWorld.lnl {w : World} {s : List Attr} {l : List Cla} {x : Ex} {f : List Int} {v : WorldV} (h : IsWorld w s l x f v) : v.ln ≤ 6 := by
  obtain ⟨vs, hr, hl, -⟩ := h.clas
  have := h.len
  have := hr.1
  omega
theorem IsWorld.in11 {w : World} {s : List Attr} {l : List Cla} {x : Ex} {f : List Int} {v : WorldV} (h : IsWorld w s l x f v) (ho : HasOps w) {e : Ex} {ev : Value} (he : IsEx w e ev) (h1 : e.few) (h2 : e.fits) (h3 : e.slim) {g : List Int} {ga : Option Addr} {gn : Nat} (hg : IsIntF w g ga gn) (hgn : gn ≤ 1000000000000000) : In11 w s l e g (.agg #[.slice v.sa v.sn v.sc]) ev v.la v.ln v.lc ga gn :=
  ⟨h.sch, attrs_fits h.mem, Nat.le_trans (schemas_ok s h.mem).2.2 (by omega), h.clas, by have := h.lnl; omega, h.cfit, he, h1, h2, h3, hg, hgn, ho⟩
theorem isEx_two {W : World} {g : Nat} {t : TypeId} {a b : Ex} {va vb : ExV} (op : Int) (h : W.heap[g]? = some (.cells (va.cells ++ vb.cells).toArray t (0, 0))) (ha : IsEx W a va.val) (hb : IsEx W b vb.val) : IsEx W (.mk op ⟨#[]⟩ [] 0 0 [a, b]) (exV op ⟨#[]⟩ none 0 0 0 0 (some ⟨g, 0, none⟩) 2 2) :=
  IsEx.mk (isStrs_nil _) rfl (Nat.le_refl _) (Or.inr ⟨g, 0, rfl⟩) (exs_two h ha hb)
theorem isEx_three {W : World} {g : Nat} {t : TypeId} {a b c : Ex} {va vb vc : ExV} (op : Int) (h : W.heap[g]? = some (.cells (va.cells ++ vb.cells ++ vc.cells).toArray t (0, 0))) (ha : IsEx W a va.val) (hb : IsEx W b vb.val) (hc : IsEx W c vc.val) : IsEx W (.mk op ⟨#[]⟩ [] 0 0 [a, b, c]) (exV op ⟨#[]⟩ none 0 0 0 0 (some ⟨g, 0, none⟩) 3 3) := by
  refine IsEx.mk (isStrs_nil _) rfl (Nat.le_refl _) (Or.inr ⟨g, 0, rfl⟩) (ExsD.of [a, b, c] 0 [va, vb, vc] rfl fun i h1 h2 => ?_)
  have ea : va.cells.length = 6 := by simp [ExV.cells]
  have eb : vb.cells.length = 6 := by simp [ExV.cells]
  have hi : i = 0 ∨ i = 1 ∨ i = 2 := by simp at h1; omega
  rcases hi with rfl | rfl | rfl
  · refine ⟨fun j hj => ?_, ha⟩
    rw [blk_cell h]
    have h6 : j < va.cells.length := by omega
    simp [List.getElem?_append_left, h6, List.append_assoc]
  · refine ⟨fun j hj => ?_, hb⟩
    rw [blk_cell h]
    have h6 : j < vb.cells.length := by omega
    have e0 : (va.cells ++ vb.cells ++ vc.cells)[0 + 1 * 6 + j]? = vb.cells[j]? := by
      rw [List.append_assoc, List.getElem?_append_right (by omega), List.getElem?_append_left (by omega)]
      congr 1; omega
    simpa using e0
  · refine ⟨fun j hj => ?_, hc⟩
    rw [blk_cell h]
    have e0 : (va.cells ++ vb.cells ++ vc.cells)[0 + 2 * 6 + j]? = vc.cells[j]? := by
      rw [List.getElem?_append_right (by simp; omega)]
      congr 1; simp; omega
    simpa using e0
theorem okNode_fits11 {e : Ex} (h : okNode e) : e.name.size ≤ 1000000000000000 ∧ (∀ x ∈ e.words, x.size ≤ 1000000000000000) ∧ e.words.length ≤ 1000000000000000 := by
  have key : ∀ {s : ByteArray}, nameB s = true → s.size ≤ 1000000000000000 := fun h => by have := nameB_size h; omega
  have k0 : ∀ {s : ByteArray}, s = ⟨#[]⟩ → s.size ≤ 1000000000000000 := fun h => by subst h; decide
  have kw : ∀ {l : List ByteArray}, l = [] → (∀ x ∈ l, x.size ≤ 1000000000000000) ∧ l.length ≤ 1000000000000000 := fun h => by subst h; simp
  rcases h with ⟨h1, h2, h3, _⟩ | ⟨h1, h2, h3, _⟩ | ⟨h1, h2, h3, _⟩ | ⟨h1, h2, h3, _⟩ | ⟨h1, h2, h3, _⟩ | ⟨h1, h2, h3, _⟩ | ⟨h1, h2, h3, _⟩
  · exact ⟨k0 h2, kw h3⟩
  · exact ⟨k0 h2, kw h3⟩
  · exact ⟨key h2, kw h3⟩
  · simp only [wordsB, Bool.and_eq_true, decide_eq_true_eq, List.all_eq_true] at h3
    exact ⟨key h2, fun x hx => key (h3.1.2 x hx), by have := h3.1.1.2; omega⟩
  · exact ⟨key h2, kw h3⟩
  · exact ⟨k0 h2, kw h3⟩
  · exact ⟨k0 h2, kw h3⟩
theorem fits_mk11 {e : Ex} (h1 : e.name.size ≤ 1000000000000000) (h2 : ∀ x ∈ e.words, x.size ≤ 1000000000000000) (h3 : ∀ x ∈ e.args, x.fits) : e.fits := by
  cases e with
  | mk op name words lo hi args =>
    unfold Ex.fits
    refine ⟨h1, h2, ?_⟩
    simp only [Ex.args] at h3
    clear h1 h2
    induction args with
    | nil => unfold fitsAll; trivial
    | cons a r ih => unfold fitsAll; exact ⟨h3 a (by simp), ih (fun x hx => h3 x (List.mem_cons_of_mem _ hx))⟩
theorem few_mk11 {e : Ex} (h2 : e.words.length ≤ 1000000000000000) (h3 : ∀ x ∈ e.args, x.few) : e.few := by
  cases e with
  | mk op name words lo hi args =>
    unfold Ex.few
    refine ⟨h2, ?_⟩
    simp only [Ex.args] at h3
    clear h2
    induction args with
    | nil => unfold fewAll; trivial
    | cons a r ih => unfold fewAll; exact ⟨h3 a (by simp), ih (fun x hx => h3 x (List.mem_cons_of_mem _ hx))⟩
theorem okTree_fits11 (m : Nat) : ∀ e : Ex, e.size ≤ m → okTree e → e.fits ∧ e.few := by
  induction m with
  | zero => intro e h; have := e.size_eq; omega
  | succ m ih =>
    intro e hm hok
    obtain ⟨hn, ha⟩ := okTree_parts hok
    obtain ⟨h1, h2, h3⟩ := okNode_fits11 hn
    have hs : ∀ x ∈ e.args, x.fits ∧ x.few := fun x hx => ih x (by have := sizes_mem hx; have := e.size_eq; omega) (ha x hx)
    exact ⟨fits_mk11 h1 h2 (fun x hx => (hs x hx).1), few_mk11 h3 (fun x hx => (hs x hx).2)⟩
theorem tree_fits {e : Ex} (h : okTree e) : e.fits := (okTree_fits11 e.size e (Nat.le_refl _) h).1
theorem tree_few {e : Ex} (h : okTree e) : e.few := (okTree_fits11 e.size e (Nat.le_refl _) h).2
theorem Term.two {s : List Attr} {l : List Cla} {D S X S' X' : Nat} {op : Int} (ho : op = 7 ∨ op = 8) {a b : Ex} (ha : Term s l D S X a) (hb : Term s l D S' X' b) : Term s l (D + 1) (1 + S + S') (1 + X + X') (.mk op ⟨#[]⟩ [] 0 0 [a, b]) := by
  have h := Term.many ho (xs := [a, b]) (D := D) (S := max S S') (X := max X X') (by simp) (fun x hx => by
    simp only [List.mem_cons, List.not_mem_nil, or_false] at hx
    rcases hx with rfl | rfl
    · exact ha.weak (Nat.le_refl _) (by omega) (by omega)
    · exact hb.weak (Nat.le_refl _) (by omega) (by omega))
  refine ⟨h.tree, h.depth, ?_, h.node, ?_⟩
  · have h1 := ha.size; have h2 := hb.size
    simp only [Ex.size, sizes]; omega
  · have h1 := ha.exp; have h2 := hb.exp
    rw [expanded_eq] at h1 h2 ⊢
    rw [expE, if_neg (by omega), expL, expL, expL]; omega
theorem Term.three {s : List Attr} {l : List Cla} {D S X S' X' S2 X2 : Nat} {op : Int} (ho : op = 7 ∨ op = 8) {a b c : Ex} (ha : Term s l D S X a) (hb : Term s l D S' X' b) (hc : Term s l D S2 X2 c) : Term s l (D + 1) (1 + S + S' + S2) (1 + X + X' + X2) (.mk op ⟨#[]⟩ [] 0 0 [a, b, c]) := by
  have h := Term.many ho (xs := [a, b, c]) (D := D) (S := max S (max S' S2)) (X := max X (max X' X2)) (by simp) (fun x hx => by
    simp only [List.mem_cons, List.not_mem_nil, or_false] at hx
    rcases hx with rfl | rfl | rfl
    · exact ha.weak (Nat.le_refl _) (by omega) (by omega)
    · exact hb.weak (Nat.le_refl _) (by omega) (by omega)
    · exact hc.weak (Nat.le_refl _) (by omega) (by omega))
  refine ⟨h.tree, h.depth, ?_, h.node, ?_⟩
  · have h1 := ha.size; have h2 := hb.size; have h3 := hc.size
    simp only [Ex.size, sizes]; omega
  · have h1 := ha.exp; have h2 := hb.exp; have h3 := hc.exp
    rw [expanded_eq] at h1 h2 h3 ⊢
    rw [expE, if_neg (by omega), expL, expL, expL, expL]; omega
theorem bare_term {s : List Attr} (hs : s ∈ schemas) {l : List Cla} (hc : (clausesErr s l).2 = 0) {e : Ex} (h : MadeE s [] 3 e) : Term s l 3 13 13 e ∧ MadeOk 3 e := by
  have hck := chk_of hc
  have hmo := made_okay hs (names := []) (by simp) 3 e h
  have hsz : e.size ≤ 13 := by have := hmo.size; simpa [bndS] using this
  obtain ⟨h1, h2⟩ := made_tree hs (names := []) (by simp) 3 e h
  refine ⟨⟨h1, h2, hsz, made_nodes hs (names := []) (by simp) 3 e h, ?_⟩, hmo⟩
  rw [expanded_eq]
  refine Nat.le_trans (bare_exp (fun a ha => ?_) 3 e h) hsz
  cases hd : defAt l a.name with
  | none => rfl
  | some d =>
    obtain ⟨i, hi, -⟩ := schema_attr hs ha
    have := hck.apart hd
    rw [this] at hi; cases hi
open Go.RowKit
def GrEX (q k : Nat) (W W' : World) : Prop := k ≠ q → Ext W W'
end Go.Proofs.YtpkljcgihobaiaaGreatDoor
