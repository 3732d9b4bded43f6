/-
  Texts of the claim, joined: Made18, CapW.
-/
import Derived.Test.YtefjomofjejklaaGreatCc25
import Derived.Test.YtefjomofjejklaaGreatCc26
namespace Go.Proofs.YtefjomofjejklaaGreat
set_option maxRecDepth 100000
set_option maxHeartbeats 32000000
open Go.RowKit
structure Wv where
 sa : OA
 sn : Nat
 sc : Nat
 ta : OA
 tn : Nat
 tc : Nat
 wa : OA
 wn : Nat
 wc : Nat
 xa : OA
 xn : Nat
 xc : Nat
 c : Clm
 ea : OA
 en : Nat
 ec : Nat
 h : Int
 k : Int
def Wv.cells (v : Wv) : Array Value := #[.slice v.sa v.sn v.sc, .slice v.ta v.tn v.tc, .slice v.wa v.wn v.wc, .slice v.xa v.xn v.xc, .int .i64 v.c.id, .int .i64 v.c.policy, .int .i64 v.c.risk, .int .i64 v.c.hour, .int .i64 v.c.peril, .int .i64 v.c.area, .slice v.ea v.en v.ec, .int .i64 v.h, .int .i64 v.k]
def Wv.obj (v : Wv) : Obj := .cells v.cells 35 (0, 0)
def clm0 : Clm := ⟨0, 0, 0, 0, 0, 0, []⟩
def wv0 : Wv := ⟨none, 0, 0, none, 0, 0, none, 0, 0, none, 0, 0, clm0, none, 0, 0, 0, 0⟩
theorem blk13 {w : World} {b : Nat} {v : Wv} (h : w.heap[b]? = some v.obj) :
  w.cell? ⟨b, 0, none⟩ = some (.slice v.sa v.sn v.sc) /\ w.cell? ⟨b, 1, none⟩ = some (.slice v.ta v.tn v.tc) /\ w.cell? ⟨b, 2, none⟩ = some (.slice v.wa v.wn v.wc) /\ w.cell? ⟨b, 3, none⟩ = some (.slice v.xa v.xn v.xc) /\ w.cell? ⟨b, 4, none⟩ = some (.int .i64 v.c.id) /\ w.cell? ⟨b, 5, none⟩ = some (.int .i64 v.c.policy) /\ w.cell? ⟨b, 6, none⟩ = some (.int .i64 v.c.risk) /\ w.cell? ⟨b, 7, none⟩ = some (.int .i64 v.c.hour) /\ w.cell? ⟨b, 8, none⟩ = some (.int .i64 v.c.peril) /\ w.cell? ⟨b, 9, none⟩ = some (.int .i64 v.c.area) /\ w.cell? ⟨b, 10, none⟩ = some (.slice v.ea v.en v.ec) /\ w.cell? ⟨b, 11, none⟩ = some (.int .i64 v.h) /\ w.cell? ⟨b, 12, none⟩ = some (.int .i64 v.k) /\ (∀ j, w.frozen? ⟨b, j, none⟩ = false) :=
 ⟨blk_cell h 0, blk_cell h 1, blk_cell h 2, blk_cell h 3, blk_cell h 4, blk_cell h 5, blk_cell h 6, blk_cell h 7, blk_cell h 8, blk_cell h 9, blk_cell h 10, blk_cell h 11, blk_cell h 12, fun j => blk_free h j⟩
def put7o (w : World) (B : Nat) (v0 v1 v2 v3 v4 v5 v6 : Value) : World := ((((((w.setCell ⟨B, 4, none⟩ (v0)).setCell ⟨B, 5, none⟩ (v1)).setCell ⟨B, 6, none⟩ (v2)).setCell ⟨B, 7, none⟩ (v3)).setCell ⟨B, 8, none⟩ (v4)).setCell ⟨B, 9, none⟩ (v5)).setCell ⟨B, 10, none⟩ (v6)
theorem put7o_blk {w : World} {B : Nat} {v : Wv} {c : Clm} {ea : OA} {en ec : Nat} (h : w.heap[B]? = some (Wv.obj v)) : (put7o w B (.int .i64 c.id) (.int .i64 c.policy) (.int .i64 c.risk) (.int .i64 c.hour) (.int .i64 c.peril) (.int .i64 c.area) (.slice ea en ec)).heap[B]? = some (Wv.obj { v with c := c, ea := ea, en := en, ec := ec }) := by
 unfold put7o
 unfold Wv.obj Wv.cells at *
 rw [heap_setCell_same _ _ _ _ _ _ (heap_setCell_same _ _ _ _ _ _ (heap_setCell_same _ _ _ _ _ _ (heap_setCell_same _ _ _ _ _ _ (heap_setCell_same _ _ _ _ _ _ (heap_setCell_same _ _ _ _ _ _ (heap_setCell_same _ _ _ _ _ _ h))))))]
 rfl
theorem put7o_chg (w : World) (B : Nat) {v0 v1 v2 v3 v4 v5 v6 : Value} : Chg [B] w (put7o w B v0 v1 v2 v3 v4 v5 v6) := by
 unfold put7o
 repeat (with_reducible (refine Chg.setCell ?_ ?_ _))
 exact Chg.refl _ _
 all_goals exact Or.inl (by simp)
def put13 (w : World) (B : Nat) (v0 v1 v2 v3 v4 v5 v6 v7 v8 v9 v10 v11 v12 : Value) : World := ((((((((((((w.setCell ⟨B, 0, none⟩ v0).setCell ⟨B, 1, none⟩ v1).setCell ⟨B, 2, none⟩ v2).setCell ⟨B, 3, none⟩ v3).setCell ⟨B, 4, none⟩ v4).setCell ⟨B, 5, none⟩ v5).setCell ⟨B, 6, none⟩ v6).setCell ⟨B, 7, none⟩ v7).setCell ⟨B, 8, none⟩ v8).setCell ⟨B, 9, none⟩ v9).setCell ⟨B, 10, none⟩ v10).setCell ⟨B, 11, none⟩ v11).setCell ⟨B, 12, none⟩ v12
theorem put13_blk {w : World} {B : Nat} {u0 u1 u2 u3 u4 u5 u6 u7 u8 u9 u10 u11 u12 v0 v1 v2 v3 v4 v5 v6 v7 v8 v9 v10 v11 v12 : Value} {t : TypeId} (h : w.heap[B]? = some (.cells #[u0, u1, u2, u3, u4, u5, u6, u7, u8, u9, u10, u11, u12] t (0, 0))) : (put13 w B v0 v1 v2 v3 v4 v5 v6 v7 v8 v9 v10 v11 v12).heap[B]? = some (.cells #[v0, v1, v2, v3, v4, v5, v6, v7, v8, v9, v10, v11, v12] t (0, 0)) := by
 unfold put13
 have h0 : (w.setCell ⟨B, 0, none⟩ v0).heap[B]? = some (.cells #[v0, u1, u2, u3, u4, u5, u6, u7, u8, u9, u10, u11, u12] t (0, 0)) := heap_setCell_same _ B 0 _ _ v0 h
 have h1 : ((w.setCell ⟨B, 0, none⟩ v0).setCell ⟨B, 1, none⟩ v1).heap[B]? = some (.cells #[v0, v1, u2, u3, u4, u5, u6, u7, u8, u9, u10, u11, u12] t (0, 0)) := heap_setCell_same _ B 1 _ _ v1 h0
 have h2 : (((w.setCell ⟨B, 0, none⟩ v0).setCell ⟨B, 1, none⟩ v1).setCell ⟨B, 2, none⟩ v2).heap[B]? = some (.cells #[v0, v1, v2, u3, u4, u5, u6, u7, u8, u9, u10, u11, u12] t (0, 0)) := heap_setCell_same _ B 2 _ _ v2 h1
 have h3 : ((((w.setCell ⟨B, 0, none⟩ v0).setCell ⟨B, 1, none⟩ v1).setCell ⟨B, 2, none⟩ v2).setCell ⟨B, 3, none⟩ v3).heap[B]? = some (.cells #[v0, v1, v2, v3, u4, u5, u6, u7, u8, u9, u10, u11, u12] t (0, 0)) := heap_setCell_same _ B 3 _ _ v3 h2
 have h4 : (((((w.setCell ⟨B, 0, none⟩ v0).setCell ⟨B, 1, none⟩ v1).setCell ⟨B, 2, none⟩ v2).setCell ⟨B, 3, none⟩ v3).setCell ⟨B, 4, none⟩ v4).heap[B]? = some (.cells #[v0, v1, v2, v3, v4, u5, u6, u7, u8, u9, u10, u11, u12] t (0, 0)) := heap_setCell_same _ B 4 _ _ v4 h3
 have h5 : ((((((w.setCell ⟨B, 0, none⟩ v0).setCell ⟨B, 1, none⟩ v1).setCell ⟨B, 2, none⟩ v2).setCell ⟨B, 3, none⟩ v3).setCell ⟨B, 4, none⟩ v4).setCell ⟨B, 5, none⟩ v5).heap[B]? = some (.cells #[v0, v1, v2, v3, v4, v5, u6, u7, u8, u9, u10, u11, u12] t (0, 0)) := heap_setCell_same _ B 5 _ _ v5 h4
 have h6 : (((((((w.setCell ⟨B, 0, none⟩ v0).setCell ⟨B, 1, none⟩ v1).setCell ⟨B, 2, none⟩ v2).setCell ⟨B, 3, none⟩ v3).setCell ⟨B, 4, none⟩ v4).setCell ⟨B, 5, none⟩ v5).setCell ⟨B, 6, none⟩ v6).heap[B]? = some (.cells #[v0, v1, v2, v3, v4, v5, v6, u7, u8, u9, u10, u11, u12] t (0, 0)) := heap_setCell_same _ B 6 _ _ v6 h5
 have h7 : ((((((((w.setCell ⟨B, 0, none⟩ v0).setCell ⟨B, 1, none⟩ v1).setCell ⟨B, 2, none⟩ v2).setCell ⟨B, 3, none⟩ v3).setCell ⟨B, 4, none⟩ v4).setCell ⟨B, 5, none⟩ v5).setCell ⟨B, 6, none⟩ v6).setCell ⟨B, 7, none⟩ v7).heap[B]? = some (.cells #[v0, v1, v2, v3, v4, v5, v6, v7, u8, u9, u10, u11, u12] t (0, 0)) := heap_setCell_same _ B 7 _ _ v7 h6
 have h8 : (((((((((w.setCell ⟨B, 0, none⟩ v0).setCell ⟨B, 1, none⟩ v1).setCell ⟨B, 2, none⟩ v2).setCell ⟨B, 3, none⟩ v3).setCell ⟨B, 4, none⟩ v4).setCell ⟨B, 5, none⟩ v5).setCell ⟨B, 6, none⟩ v6).setCell ⟨B, 7, none⟩ v7).setCell ⟨B, 8, none⟩ v8).heap[B]? = some (.cells #[v0, v1, v2, v3, v4, v5, v6, v7, v8, u9, u10, u11, u12] t (0, 0)) := heap_setCell_same _ B 8 _ _ v8 h7
 have h9 : ((((((((((w.setCell ⟨B, 0, none⟩ v0).setCell ⟨B, 1, none⟩ v1).setCell ⟨B, 2, none⟩ v2).setCell ⟨B, 3, none⟩ v3).setCell ⟨B, 4, none⟩ v4).setCell ⟨B, 5, none⟩ v5).setCell ⟨B, 6, none⟩ v6).setCell ⟨B, 7, none⟩ v7).setCell ⟨B, 8, none⟩ v8).setCell ⟨B, 9, none⟩ v9).heap[B]? = some (.cells #[v0, v1, v2, v3, v4, v5, v6, v7, v8, v9, u10, u11, u12] t (0, 0)) := heap_setCell_same _ B 9 _ _ v9 h8
 have h10 : (((((((((((w.setCell ⟨B, 0, none⟩ v0).setCell ⟨B, 1, none⟩ v1).setCell ⟨B, 2, none⟩ v2).setCell ⟨B, 3, none⟩ v3).setCell ⟨B, 4, none⟩ v4).setCell ⟨B, 5, none⟩ v5).setCell ⟨B, 6, none⟩ v6).setCell ⟨B, 7, none⟩ v7).setCell ⟨B, 8, none⟩ v8).setCell ⟨B, 9, none⟩ v9).setCell ⟨B, 10, none⟩ v10).heap[B]? = some (.cells #[v0, v1, v2, v3, v4, v5, v6, v7, v8, v9, v10, u11, u12] t (0, 0)) := heap_setCell_same _ B 10 _ _ v10 h9
 have h11 : ((((((((((((w.setCell ⟨B, 0, none⟩ v0).setCell ⟨B, 1, none⟩ v1).setCell ⟨B, 2, none⟩ v2).setCell ⟨B, 3, none⟩ v3).setCell ⟨B, 4, none⟩ v4).setCell ⟨B, 5, none⟩ v5).setCell ⟨B, 6, none⟩ v6).setCell ⟨B, 7, none⟩ v7).setCell ⟨B, 8, none⟩ v8).setCell ⟨B, 9, none⟩ v9).setCell ⟨B, 10, none⟩ v10).setCell ⟨B, 11, none⟩ v11).heap[B]? = some (.cells #[v0, v1, v2, v3, v4, v5, v6, v7, v8, v9, v10, v11, u12] t (0, 0)) := heap_setCell_same _ B 11 _ _ v11 h10
 have h12 : (((((((((((((w.setCell ⟨B, 0, none⟩ v0).setCell ⟨B, 1, none⟩ v1).setCell ⟨B, 2, none⟩ v2).setCell ⟨B, 3, none⟩ v3).setCell ⟨B, 4, none⟩ v4).setCell ⟨B, 5, none⟩ v5).setCell ⟨B, 6, none⟩ v6).setCell ⟨B, 7, none⟩ v7).setCell ⟨B, 8, none⟩ v8).setCell ⟨B, 9, none⟩ v9).setCell ⟨B, 10, none⟩ v10).setCell ⟨B, 11, none⟩ v11).setCell ⟨B, 12, none⟩ v12).heap[B]? = some (.cells #[v0, v1, v2, v3, v4, v5, v6, v7, v8, v9, v10, v11, v12] t (0, 0)) := heap_setCell_same _ B 12 _ _ v12 h11
 exact h12
theorem put13_chg (w : World) (B : Nat) {v0 v1 v2 v3 v4 v5 v6 v7 v8 v9 v10 v11 v12 : Value} : Chg [B] w (put13 w B v0 v1 v2 v3 v4 v5 v6 v7 v8 v9 v10 v11 v12) := by
 unfold put13
 repeat (with_reducible (refine Chg.setCell ?_ ?_ _))
 exact Chg.refl _ _
 all_goals exact Or.inl (by simp)
structure IsW18 (w : World) (attrs : List Attr) (rts : List Rt) (x : Wrd) (v : Wv) : Prop where
 mem : attrs ∈ schemas
 sch : IsSchema w attrs (.agg #[.slice v.sa v.sn v.sc])
 rat : IsRts w rts v.ta v.tn v.tc
 rlen : rts.length <= 9
 wrd : IsWrd w x (.agg #[.slice v.wa v.wn v.wc, .slice v.xa v.xn v.xc])
 wok : WrdOk x
 evs : IsEvs w v.c.events v.ea v.en v.ec
 clm : ClmMade attrs v.c.id v.c
 cid : 1 <= v.c.id /\ v.c.id <= 9
 hh : 0 <= v.h /\ v.h < 200
 kk : 0 <= v.k /\ v.k < 4
theorem IsW18.mono {w w' : World} {attrs : List Attr} {rts : List Rt} {x : Wrd} {v : Wv} (h : IsW18 w attrs rts x v) (hs : Sub w w') : IsW18 w' attrs rts x v :=
 {h with sch := h.sch.mono hs, rat := h.rat.mono hs, wrd := h.wrd.mono hs, evs := h.evs.mono hs }
def M18Q (w : World) (e : Ending) (w' : World) : Prop := ∃ attrs rts x v bd, e = .returned (.tuple #[.agg (Wv.cells v), .pointer (some ⟨bd, 0, none⟩)]) /\ IsW18 (mask w' [bd]) attrs rts x v /\ DeckAt w w' bd /\ Ext w w'
def md18R (w : World) (attrs : List Attr) (bd bx : Nat) (sa : OA) (sn sc : Nat) : Nat -> Value -> World -> Prop
 | 0, u, _ => u = .pointer (some ⟨bd, 0, none⟩)
 | 1, u, _ => u = .pointer (some ⟨bx, 0, none⟩)
 | 2, u, _ => u = .agg #[.slice sa sn sc]
 | 3, u, _ => u = .pointer (some ⟨bd, 0, none⟩)
 | 4, u, _ => ∃ (z : Int), u = .int .i64 z /\ (1 <= z /\ z <= 9)
 | 5, u, W => ∃ (c : Clm) (ea : OA) (en : Nat) (ec : Nat), u = .agg #[.int .i64 c.id, .int .i64 c.policy, .int .i64 c.risk, .int .i64 c.hour, .int .i64 c.peril, .int .i64 c.area, .slice ea en ec] /\ (ClmMade attrs c.id c /\ 1 <= c.id /\ c.id <= 9 /\ IsEvs (mask W [bd, bx, w.heap.size]) c.events ea en ec)
 | _, u, _ => u = .pointer (some ⟨bx, 4, none⟩)
theorem made18_calls (da : OA) (dn dc : Nat) (w : World) (h : IntsAt w da dn) (hdl : dn <= 1000000000000000) : Calls Tryz.prog 4 #[.slice da dn dc] w (M18Q w) := by
 have HI := hI h
 clear h
 obtain ⟨wa, hwa⟩ : ∃ wa, wa = w.alloc (.cells (Wv.cells wv0) 35) := ⟨_, rfl⟩
 have HXA := hI (show Ext w wa by rw [hwa]; exact (Ext.refl _).alloc _)
 have HRA := hI (show wa.heap[w.heap.size]? = some (Wv.obj wv0) by rw [hwa]; exact alloc_new w _)
 have hza : w.heap.size < wa.heap.size := blk_lt HRA.out
 unfold Wv.cells wv0 clm0 at hwa
 dsimp only at hwa
 go_enter Tryz.func4, Tryz.ntmps4
 go_upto_region 1 with fail
 rw [<- hwa]
 clear hwa
 go_wp2_with fail
 refine (new_callsB da dn dc w wa HI.out HXA.out hdl).mono ?_
 rintro r w1 ⟨bd, rfl, hd1, hx1, hbd1⟩
 have HD1 := hI hd1
 have HX1 := hI (HXA.out.trans hx1)
 have HR1 := hI (hx1.blk HRA.out)
 have hbdl := hd1.lt
 clear hd1 hx1 HXA HRA HI
 go_upto_region 3 with fail
 obtain ⟨wb, hwb⟩ : ∃ wb, wb = w1.alloc (.cells (Wv.cells wv0) 35) := ⟨_, rfl⟩
 have hxb : Ext w1 wb := by rw [hwb]; exact (Ext.refl _).alloc _
 have HBB := hI (show wb.heap[w1.heap.size]? = some (Wv.obj wv0) by rw [hwb]; exact alloc_new w1 _)
 obtain ⟨bx, hbx⟩ : ∃ bx, bx = w1.heap.size := ⟨_, rfl⟩
 rw [<- hbx] at HBB
 have hbxl : w.heap.size < bx /\ bd < bx := ⟨by omega, by omega⟩
 have hbxlt : bx < wb.heap.size := blk_lt HBB.out
 unfold Wv.cells wv0 clm0 at hwb
 dsimp only at hwb
 rw [<- hwb, <- hbx]
 have HDB := hI (HD1.out.ext hxb)
 have HXB := hI (HX1.out.trans hxb)
 have HRB := hI (hxb.blk HR1.out)
 clear hwb hxb hbx HD1 HX1 HR1
 go_wp2_with fail
 refine (next_calls HDB.out 6 (by omega) (by omega)).mono ?_
 rintro r w2 ⟨q, rfl, hq0, hq1, hd2, hc2⟩
 have HD2 := hI hd2
 have HC2 := hI hc2
 have hz2 := hc2.size
 clear hd2 hc2
 go_wp2_with fail
 refine (schema_calls q [bd, bx, w.heap.size] w2 (by simp; omega)).mono ?_
 rintro r w3 ⟨attrs, sv, rfl, hat, hsch, hx3⟩
 obtain ⟨sa, sn, sc, rfl, -⟩ := hsch.slice
 have HAT := hI hat
 have HD3 := hI (HD2.out.ext hx3)
 have HC3 := hI (HC2.out.then (hx3.chg [bd]))
 have HB3 := hI ((HC2.out.then (hx3.chg [bd])).blk HBB.out (by simp; omega))
 have HSCH := hI hsch
 have hz3 := hx3.size
 clear hsch hat hx3 hq0 hq1
 obtain ⟨b0, b1, b2, b3, b4, b5, b6, b7, b8, b9, b10, b11, b12, bf⟩ := blk13 HB3.out
 have hlb := blk_lt HB3.out
 go_upto_region 4 with fail
 obtain ⟨wS, hwS⟩ : ∃ wS, wS = w3.setCell ⟨bx, 0, none⟩ (.slice sa sn sc) := ⟨_, rfl⟩
 rw [<- hwS]
 have hcs : Chg [bx] w3 wS := by rw [hwS]; exact (Chg.refl [bx] _).setCell (Or.inl (by simp)) _
 have HBS := hI (show wS.heap[bx]? = some (Wv.obj { wv0 with sa := sa, sn := sn, sc := sc }) by rw [hwS]; exact heap_setCell_same w3 bx 0 _ _ (.slice sa sn sc) HB3.out)
 have HDS := hI (HD3.out.chg hcs (by simp; omega) (by simp; omega))
 have HCS := hI (show Chg [bd, bx] wb wS from (HC3.out.weak (fun y hy => by simp at hy; simp [hy])).then (hcs.weak (fun y hy => by simp at hy; simp [hy])))
 have HSCS := hI (HSCH.out.mono (mask_step hcs (by simp)))
 have hzs := hcs.size
 clear hwS hcs b0 b1 b2 b3 b4 b5 b6 b7 b8 b9 b10 b11 b12 bf hlb
 have HCM := hI (fun (id : Int) W (hW : Chg [bd] wS W) (hd : DeckAt w W bd) (h1 : 1 <= id) (h2 : id <= 9) => dclaim_calls (schema_zero HAT.out) (attrs_fits HAT.out) hd sa sn sc [bd, bx, w.heap.size] ((HSCS.out.mono (mask_step hW (by simp))).mono (mask_less _ (fun y hy => by simp at hy; simp [hy]))) (by have := hW.size; simp; omega) id h1 (by omega))
 refine wp_region_grow (m := 7) [5, 6] (GnG w wS bd) (GnE bd) (GrP (md18R w attrs bd bx sa sn sc)) (by kernel_rfl) (by kernel_rfl) ⟨HDS.out.ext ((Ext.refl wS).drew), ((Ext.refl wS).drew).chg _⟩ ?_ ?_ ?_
 ·intro i k v W W' hi hk hne hout h hE
  have hE : Chg [bd] W W' := hE
  have hi' := ltc7 hi
  clear hi hk hne hout
  rcases hi' with rfl | rfl | rfl | rfl | rfl | rfl | rfl
  ·exact h
  ·exact h
  ·exact h
  ·exact h
  ·obtain ⟨z, e0, h⟩ := h
   exact ⟨z, e0, h⟩
  ·obtain ⟨c, ea, en, ec, e0, h⟩ := h
   exact ⟨c, ea, en, ec, e0, ⟨h.1, h.2.1, h.2.2.1, h.2.2.2.mono (mask_step hE (by simp))⟩⟩
  exact h
 ·intro q op hq ho vs W hW hd ρ hρ
  have hq' := ltc7 hq
  clear hq
  have o4 : ρ (.tmp 4) = .pointer (some ⟨bd, 0, none⟩) := hρ.out 4 rfl
  have o5 : ρ (.tmp 5) = .pointer (some ⟨bx, 0, none⟩) := hρ.out 5 rfl
  have i1 := hρ.i 1 13
  have i3 := hρ.i 3 15
  have i0 := hρ.i 0 12
  have i2 := hρ.i 2 14
  have i4 := hρ.i 4 16
  have hc := hρ.const
  have hfn := hρ.func
  clear hρ
  have HW := hI (show DeckAt w W bd /\ Chg [bd] wS W from hW)
  rcases hq' with rfl | rfl | rfl | rfl | rfl | rfl | rfl
  ·cases ho
   clear hd
   unfold GivesOp
   go_simp
   exact ⟨Chg.refl _ _, rfl⟩
  ·cases ho
   clear hd
   unfold GivesOp
   go_simp
   exact ⟨Chg.refl _ _, rfl⟩
  ·cases ho
   have h1 : vs 1 = _ := hd ⟨1, .data⟩ (by simp) rfl
   rw [h1] at i1
   clear hd
   have g2 := (blk13 (HW.out.2.blk HBS.out (by simp; omega))).1
   unfold GivesOp
   go_simp
   exact ⟨Chg.refl _ _, rfl⟩
  ·cases ho
   clear hd
   unfold GivesOp
   go_simp
   exact ⟨Chg.refl _ _, rfl⟩
  ·cases ho
   have h3 : vs 3 = _ := hd ⟨3, .data⟩ (by simp) rfl
   rw [h3] at i3
   clear hd
   unfold GivesOp
   go_simp
   refine (range_calls HW.out.1 1 9 (by omega) (by omega) (by omega)).mono ?_
   rintro e5 w5 ⟨z, rfl, hz0, hz1, hd5, hc5⟩
   exact ⟨_, rfl, hc5, ⟨hd5, HW.out.2.then hc5⟩, z, rfl, by omega, by omega⟩
  ·cases ho
   have h0 : vs 0 = _ := hd ⟨0, .data⟩ (by simp) rfl
   rw [h0] at i0
   have h2 : vs 2 = _ := hd ⟨2, .data⟩ (by simp) rfl
   rw [h2] at i2
   obtain ⟨z, h4, hs4⟩ : ∃ (z : Int), vs 4 = .int .i64 z /\ (1 <= z /\ z <= 9) := hd ⟨4, .data⟩ (by simp) rfl
   have HS4 := hI hs4
   clear hs4
   rw [h4] at i4
   clear hd
   unfold GivesOp
   go_simp
   refine (HCM.out z W HW.out.2 HW.out.1 HS4.out.1 HS4.out.2).mono ?_
   rintro e5 w5 ⟨c, ea, en, ec, rfl, q1, q2, hd5, hc5⟩
   have hcz := q1.2.1
   exact ⟨_, rfl, hc5, ⟨hd5, HW.out.2.then hc5⟩, c, ea, en, ec, rfl, by rw [hcz]; exact q1, by rw [hcz]; exact HS4.out.1, by rw [hcz]; exact HS4.out.2, q2⟩
  cases ho
  clear hd
  unfold GivesOp
  go_simp
  exact ⟨Chg.refl _ _, rfl⟩
 intro vs W hW hR
 rw [if_neg (by decide +kernel)]
 obtain ⟨c, ea, en, ec, h5, hs5⟩ : ∃ (c : Clm) (ea : OA) (en : Nat) (ec : Nat), vs 5 = .agg #[.int .i64 c.id, .int .i64 c.policy, .int .i64 c.risk, .int .i64 c.hour, .int .i64 c.peril, .int .i64 c.area, .slice ea en ec] /\ (ClmMade attrs c.id c /\ 1 <= c.id /\ c.id <= 9 /\ IsEvs (mask W [bd, bx, w.heap.size]) c.events ea en ec) := hR 5 (by simp) (by omega)
 have HS5 := hI hs5
 clear hs5
 have h6 : vs 6 = .pointer (some ⟨bx, 4, none⟩) := hR 6 (by simp) (by omega)
 obtain ⟨y0, y1, y2, y3, y4, y5, y6, y7, y8, y9, y10, y11, y12, yf⟩ := blk13 (hW.2.blk HBS.out (by simp; omega))
 have hly := blk_lt (hW.2.blk HBS.out (by simp; omega))
 refine wpOp_lastG rfl ?_
 change wpList _ _ _ [⟨none, .store _ (.tmp 18) (.tmp 17), _, _, _, none⟩] _ _
 simp only [acts, dstAt, List.range, List.range.loop, List.foldl_cons, List.foldl_nil, h5, h6]
 go_simp
 have hW2 : DeckAt w W bd /\ Chg [bd] wS W := hW
 clear hR hW h5 h6
 have HW2 := hI hW2
 clear hW2
 obtain ⟨m1, m2, m3, m4⟩ := HS5.out
 go_upto_region 5 with fail
 obtain ⟨w4, hw4⟩ : ∃ w4, w4 = put7o W bx (.int .i64 c.id) (.int .i64 c.policy) (.int .i64 c.risk) (.int .i64 c.hour) (.int .i64 c.peril) (.int .i64 c.area) (.slice ea en ec) := ⟨_, rfl⟩
 have HB4 := hI (show w4.heap[bx]? = some (Wv.obj { wv0 with sa := sa, sn := sn, sc := sc, c := c, ea := ea, en := en, ec := ec }) by rw [hw4]; exact put7o_blk (HW2.out.2.blk HBS.out (by simp; omega)))
 have hcs : Chg [bx] W w4 := by rw [hw4]; exact put7o_chg _ _
 unfold put7o at hw4
 rw [<- hw4]
 have HEV := hI (m4.mono (mask_step hcs (by simp)))
 have HD4 := hI (HW2.out.1.chg hcs (by simp; omega) (by simp; omega))
 have HC4 := hI (show Chg [bd, bx] wS w4 from (HW2.out.2.weak (fun y hy => by simp at hy; simp [hy])).then (hcs.weak (fun y hy => by simp at hy; simp [hy])))
 have HMD := hI (And.intro m1 (And.intro m2 m3))
 have hz4 := (HW2.out.2.size)
 have hz4' := hcs.size
 clear hw4 hcs m1 m2 m3 m4 y0 y1 y2 y3 y4 y5 y6 y7 y8 y9 y10 y11 y12 yf hly HS5 HW2
 go_wp2_with fail
 refine (rates_calls HD4.out [bd, bx, w.heap.size] (by simp; omega)).mono ?_
 rintro r w5 ⟨rts, ta, tc, rfl, hrl, hrt, hd5, hc5⟩
 obtain ⟨tn, htn⟩ : ∃ tn, tn = rts.length := ⟨_, rfl⟩
 rw [<- htn] at hrt ⊢
 have HRL := hI hrl
 have HB5 := hI (hc5.blk HB4.out (by simp; omega))
 have hz5 := hc5.size
 have hlb := blk_lt HB5.out
 obtain ⟨b0, b1, b2, b3, b4, b5, b6, b7, b8, b9, b10, b11, b12, bf⟩ := blk13 HB5.out
 have HD5 := hI hd5
 have HC5 := hI (HC4.out.then (hc5.weak (fun y hy => by simp at hy; simp [hy])))
 have HEV5 := hI (HEV.out.mono (mask_step hc5 (by simp)))
 have HRT := hI hrt
 clear hd5 hc5 hrl hrt htn
 go_upto_region 6 with fail
 obtain ⟨w6, hw6⟩ : ∃ w6, w6 = w5.setCell ⟨bx, 1, none⟩ (.slice ta tn tc) := ⟨_, rfl⟩
 rw [<- hw6]
 have HB6 := hI (show w6.heap[bx]? = some (Wv.obj { wv0 with sa := sa, sn := sn, sc := sc, c := c, ea := ea, en := en, ec := ec, ta := ta, tn := tn, tc := tc }) by rw [hw6]; exact heap_setCell_same w5 bx 1 _ _ (.slice ta tn tc) HB5.out)
 have hcs : Chg [bx] w5 w6 := by rw [hw6]; exact (Chg.refl [bx] _).setCell (Or.inl (by simp)) _
 have HD6 := hI (HD5.out.chg hcs (by simp; omega) (by simp; omega))
 have HC6 := hI (HC5.out.then (hcs.weak (fun y hy => by simp at hy; simp [hy])))
 have HEV6 := hI (HEV5.out.mono (mask_step hcs (by simp)))
 have HRT6 := hI (HRT.out.mono (mask_step hcs (by simp)))
 have hz6 := hcs.size
 have HSC6 := hI (show IsSchema (mask w6 [bd, bx, w.heap.size]) attrs (.agg #[.slice sa sn sc]) from HSCS.out.mono (mask_grow HC6.out (fun y hy => by simp at hy; rcases hy with rfl | rfl <;> exact Or.inl (by simp))))
 clear hw6 hcs b0 b1 b2 b3 b4 b5 b6 b7 b8 b9 b10 b11 b12 bf hlb
 have hlb := blk_lt HB6.out
 obtain ⟨b0, b1, b2, b3, b4, b5, b6, b7, b8, b9, b10, b11, b12, bf⟩ := blk13 HB6.out
 have HWC := hI (dwording_calls HAT.out HD6.out sa sn sc [bd, bx, w.heap.size] (HSC6.out.mono (mask_less _ (fun y hy => by simp at hy; simp [hy]))) (by simp; omega) 4 (by omega) true)
 go_wp2_with fail
 refine HWC.out.mono ?_
 rintro r w7 ⟨x, v, rfl, hwok, hwrd, hd7, hc7⟩
 obtain ⟨xca, xcn, xcc, xea, xen, xec, rfl, hq1, hq2⟩ := hwrd
 have HWRD := hI (show IsWrd (mask w7 [bd, bx, w.heap.size]) x (.agg #[.slice xca xcn xcc, .slice xea xen xec]) from ⟨xca, xcn, xcc, xea, xen, xec, rfl, hq1, hq2⟩)
 have HWOK := hI hwok
 have HB7 := hI (hc7.blk HB6.out (by simp; omega))
 have HD7 := hI hd7
 have HC7 := hI (HC6.out.then (hc7.weak (fun y hy => by simp at hy; simp [hy])))
 have HEV7 := hI (HEV6.out.mono (mask_step hc7 (by simp)))
 have HRT7 := hI (HRT6.out.mono (mask_step hc7 (by simp)))
 have hz7 := hc7.size
 have HS67 := hI (show Sub (mask w6 [bd, bx, w.heap.size]) (mask w7 [bd, bx, w.heap.size]) from mask_step hc7 (by simp))
 clear hq1 hq2 hwok hd7 hc7 b0 b1 b2 b3 b4 b5 b6 b7 b8 b9 b10 b11 b12 bf hlb
 have hlb := blk_lt HB7.out
 obtain ⟨b0, b1, b2, b3, b4, b5, b6, b7, b8, b9, b10, b11, b12, bf⟩ := blk13 HB7.out
 go_upto_region 7 with fail
 obtain ⟨w8, hw8⟩ : ∃ w8, w8 = (w7.setCell ⟨bx, 2, none⟩ (.slice xca xcn xcc)).setCell ⟨bx, 3, none⟩ (.slice xea xen xec) := ⟨_, rfl⟩
 rw [<- hw8]
 have HB8 := hI (show w8.heap[bx]? = some (Wv.obj { wv0 with sa := sa, sn := sn, sc := sc, c := c, ea := ea, en := en, ec := ec, ta := ta, tn := tn, tc := tc, wa := xca, wn := xcn, wc := xcc, xa := xea, xn := xen, xc := xec }) by rw [hw8]; exact heap_setCell_same _ bx 3 _ _ (.slice xea xen xec) (heap_setCell_same w7 bx 2 _ _ (.slice xca xcn xcc) HB7.out))
 have hcs : Chg [bx] w7 w8 := by rw [hw8]; exact ((Chg.refl [bx] _).setCell (Or.inl (by simp)) _).setCell (Or.inl (by simp)) _
 have HD8 := hI (HD7.out.chg hcs (by simp; omega) (by simp; omega))
 have HC8 := hI (HC7.out.then (hcs.weak (fun y hy => by simp at hy; simp [hy])))
 have HEV8 := hI (HEV7.out.mono (mask_step hcs (by simp)))
 have HRT8 := hI (HRT7.out.mono (mask_step hcs (by simp)))
 have HWR8 := hI (HWRD.out.mono (mask_step hcs (by simp)))
 have hz8 := hcs.size
 have HS78 := hI (show Sub (mask w7 [bd, bx, w.heap.size]) (mask w8 [bd, bx, w.heap.size]) from mask_step hcs (by simp))
 clear hw8 hcs b0 b1 b2 b3 b4 b5 b6 b7 b8 b9 b10 b11 b12 bf hlb
 go_wp2_with fail
 refine (next_calls HD8.out 200 (by omega) (by omega)).mono ?_
 rintro r w9 ⟨hh, rfl, hh0, hh1, hd9, hc9⟩
 have HD9 := hI hd9
 have HC9 := hI hc9
 clear hd9 hc9
 go_wp2_with fail
 refine (next_calls HD9.out 4 (by omega) (by omega)).mono ?_
 rintro r wA ⟨kk, rfl, hk0, hk1, hdA, hcA⟩
 have HCA := hI (HC9.out.then hcA)
 have HDA := hI hdA
 have HBA := hI ((HC9.out.then hcA).blk HB8.out (by simp; omega))
 have hzA := (HC9.out.then hcA).size
 clear hdA hcA
 have hlb := blk_lt HBA.out
 obtain ⟨b0, b1, b2, b3, b4, b5, b6, b7, b8, b9, b10, b11, b12, bf⟩ := blk13 HBA.out
 go_upto_region 8 with fail
 obtain ⟨wB, hwB⟩ : ∃ wB, wB = (wA.setCell ⟨bx, 11, none⟩ (.int .i64 hh)).setCell ⟨bx, 12, none⟩ (.int .i64 kk) := ⟨_, rfl⟩
 rw [<- hwB]
 obtain ⟨V, hV⟩ : ∃ V : Wv, V = ⟨sa, sn, sc, ta, tn, tc, xca, xcn, xcc, xea, xen, xec, c, ea, en, ec, hh, kk⟩ := ⟨_, rfl⟩
 have HBW := hI (show wB.heap[bx]? = some (Wv.obj V) by rw [hwB, hV]; exact heap_setCell_same _ bx 12 _ _ (.int .i64 kk) (heap_setCell_same wA bx 11 _ _ (.int .i64 hh) HBA.out))
 have hcs : Chg [bx] wA wB := by rw [hwB]; exact ((Chg.refl [bx] _).setCell (Or.inl (by simp)) _).setCell (Or.inl (by simp)) _
 have HDW := hI (HDA.out.chg hcs (by simp; omega) (by simp; omega))
 have HCW := hI (show Chg [bd, bx] w8 wB from (HCA.out.weak (fun y hy => by simp at hy; simp [hy])).then (hcs.weak (fun y hy => by simp at hy; simp [hy])))
 have HRW := hI (show wB.heap[w.heap.size]? = some (Wv.obj wv0) from (HC8.out.then HCW.out).blk (HCS.out.blk HRB.out (by simp; omega)) (by simp; omega))
 have HXW := hI (show Ext w wB from (HCS.out.then (HC8.out.then HCW.out)).ext HXB.out (fun y hy => by simp at hy; rcases hy with rfl | rfl <;> omega))
 have HSUB := hI (show Sub (mask w8 [bd, bx, w.heap.size]) (mask wB [bd, bx, w.heap.size]) from mask_grow HCW.out (fun y hy => by simp at hy; rcases hy with rfl | rfl <;> exact Or.inl (by simp)))
 have HSUB6 := hI (show Sub (mask w6 [bd, bx, w.heap.size]) (mask w8 [bd, bx, w.heap.size]) from HS67.out.trans HS78.out)
 have HIS := hI (show IsW18 (mask wB [bd, bx, w.heap.size]) attrs rts x V from by
  rw [hV]
  exact ⟨HAT.out, HSC6.out.mono (HSUB6.out.trans HSUB.out), HRT8.out.mono HSUB.out, HRL.out, HWR8.out.mono HSUB.out, HWOK.out, HEV8.out.mono HSUB.out, HMD.out.1, ⟨HMD.out.2.1, HMD.out.2.2⟩, ⟨hh0, hh1⟩, ⟨hk0, hk1⟩⟩)
 clear hwB hcs b0 b1 b2 b3 b4 b5 b6 b7 b8 b9 b10 b11 b12 bf hlb hV
 have hlb := blk_lt HBW.out
 have hlr := blk_lt HRW.out
 obtain ⟨b0, b1, b2, b3, b4, b5, b6, b7, b8, b9, b10, b11, b12, bf⟩ := blk13 HBW.out
 obtain ⟨y0, y1, y2, y3, y4, y5, y6, y7, y8, y9, y10, y11, y12, yf⟩ := blk13 HRW.out
 go_wp2_with fail
 obtain ⟨wq, hwq⟩ : ∃ wq, wq = put13 wB w.heap.size (.slice V.sa V.sn V.sc) (.slice V.ta V.tn V.tc) (.slice V.wa V.wn V.wc) (.slice V.xa V.xn V.xc) (.int .i64 V.c.id) (.int .i64 V.c.policy) (.int .i64 V.c.risk) (.int .i64 V.c.hour) (.int .i64 V.c.peril) (.int .i64 V.c.area) (.slice V.ea V.en V.ec) (.int .i64 V.h) (.int .i64 V.k) := ⟨_, rfl⟩
 have hbq : wq.heap[w.heap.size]? = some (Wv.obj V) := by rw [hwq]; exact put13_blk HRW.out
 have HCQ := hI (show Chg [w.heap.size] wB wq by rw [hwq]; exact put13_chg _ _)
 unfold put13 at hwq
 rw [<- hwq]
 clear hwq b0 b1 b2 b3 b4 b5 b6 b7 b8 b9 b10 b11 b12 bf y0 y1 y2 y3 y4 y5 y6 y7 y8 y9 y10 y11 y12 yf
 obtain ⟨z0, z1, z2, z3, z4, z5, z6, z7, z8, z9, z10, z11, z12, zf⟩ := blk13 hbq
 refine bodyPost_ret (v := .tuple #[.agg (Wv.cells V), .pointer (some ⟨bd, 0, none⟩)]) (by simp [results, Tryz.results4, go_sem, Wv.cells, z0, z1, z2, z3, z4, z5, z6, z7, z8, z9, z10, z11, z12]) rfl ?_
 exact ⟨attrs, rts, x, V, bd, rfl, HIS.out.mono ((mask_step HCQ.out (by simp)).trans (mask_less _ (fun y hy => by simp at hy; simp [hy]))), HDW.out.chg HCQ.out (by simp; omega) (by simp), HCQ.out.ext HXW.out (by simp)⟩
theorem capV_small {p : Psn} (h : PsnOk p) {m : Int} (hm : 0 <= m /\ m <= 200000000000) : smallP (capV p m) /\ (capV p m).net <= m /\ capV p p.net = p /\ capV (capV p m) m = capV p m := by
 obtain ⟨⟨h1, h2⟩, ⟨h3, h4⟩, ⟨h5, h6⟩, h7⟩ := h
 have hn : (capV p m).net = if m < p.net then m else p.net := rfl
 have hp : (capV p m).paid = p.paid := rfl
 have hr : (capV p m).rcv = p.rcv := rfl
 have ho : (capV p m).opn = p.opn := rfl
 refine ⟨⟨by rw [hn]; split <;> omega, by rw [hp]; omega, by rw [hr]; omega⟩, by rw [hn]; split <;> omega, ?_, ?_⟩
 ·have : capV p p.net = posV p.opn (if p.net < p.net then p.net else p.net) p.paid p.rcv := rfl
  rw [this, if_neg (by omega), <- h7]
 have : capV (capV p m) m = posV (capV p m).opn (if m < (capV p m).net then m else (capV p m).net) (capV p m).paid (capV p m).rcv := rfl
 rw [this, if_neg (by rw [hn]; split <;> omega)]
 rfl
theorem capW_calls (da : OA) (dn dc : Nat) (most : Int) (w : World) (h : IntsAt w da dn) (hdl : dn <= 1000000000000000) : Calls Tryz.prog 3 #[.slice da dn dc, .int .i64 most] w (GivesE (.bool true) w) := by
 have HMD := hI (made18_calls da dn dc w h hdl)
 clear h
 go_enter Tryz.func3, Tryz.ntmps3
 go_wp2_with fail
 refine HMD.out.mono ?_
 rintro r w1 ⟨attrs, rts, x, ⟨sa, sn, sc, ta, tn, tc, wa, wn, wc, xa, xn, xc, c, ea, en, ec, h0, kk⟩, bd, rfl, hw, -, hx1⟩
 have HX1 := hI hx1
 have hsch := schemas_ok attrs hw.mem
 have HST := hI (fun W (hW : Ext w1 W) => rState_calls (x := x) (c := c) (attrs_fits hw.mem) (by have := hsch.2.2; omega) (wrdOk_fit hw.wok) (fun y hy => (hw.clm.2.2.2.2.2 y hy).1) kk h0 W (by have h1 : tn = rts.length := hw.rat.1; have := hw.rlen; show tn <= 1000000000000; omega) (by have h1 : en = c.events.length := hw.evs.len; have h2 : c.events.length <= 7 := hw.clm.2.2.2.1; show en <= 1000000000000; omega) ((hw.sch.mono (mask_sub _ _)).ext hW) (IsRows.ext (IsRows.mono hw.rat (mask_sub _ _)) hW) ((hw.wrd.mono (mask_sub _ _)).ext hW) ((hw.evs.mono (mask_sub _ _)).ext hW))
 clear hw hx1 HMD hsch
 unfold Wv.cells
 unfold ClmArg at HST
 try dsimp only at HST
 go_upto_region 2 with fail
 obtain ⟨w2, hw2⟩ : ∃ w2, w2 = w1.alloc (.cells (Wv.cells ⟨sa, sn, sc, ta, tn, tc, wa, wn, wc, xa, xn, xc, c, ea, en, ec, h0, kk⟩) 35) := ⟨_, rfl⟩
 have HX2 := hI (show Ext w1 w2 by rw [hw2]; exact (Ext.refl _).alloc _)
 have HB2 := hI (show w2.heap[w1.heap.size]? = some (Wv.obj ⟨sa, sn, sc, ta, tn, tc, wa, wn, wc, xa, xn, xc, c, ea, en, ec, h0, kk⟩) by rw [hw2]; exact alloc_new w1 _)
 unfold Wv.cells at hw2
 dsimp only at hw2
 rw [<- hw2]
 clear hw2
 obtain ⟨b0, b1, b2, b3', b4, b5, b6, b7, b8, b9, b10, b11, b12, bf⟩ := blk13 HB2.out
 dsimp only at b0 b1 b2 b3' b4 b5 b6 b7 b8 b9 b10 b11 b12
 have hlb := blk_lt HB2.out
 go_wp2_with fail
 refine (HST.out w2 HX2.out).mono ?_
 rintro r w3 ⟨p, z, rfl, hok, hx3⟩
 have HX3 := hI ((HX1.out.trans HX2.out).trans hx3)
 have HOK := hI hok
 clear hok hx3 b0 b1 b2 b3' b4 b5 b6 b7 b8 b9 b10 b11 b12 bf hlb HST
 unfold Psn.cells
 by_cases hz : z = 0
 case neg =>
  have t1 : (z != 0) = true := by simp [hz]
  clear hz
  go_wp2_with fail
  refine (awake18_calls _).mono ?_
  rintro r w4 ⟨rfl, hx4⟩
  go_wp2_with fail
  go_ret
  exact ⟨rfl, (HX3.out.alloc _).trans hx4⟩
 subst hz
 have HP := hI (HOK.out rfl)
 clear HOK
 have hpn : 0 <= p.net /\ p.net <= 100000000000 := HP.out.1
 obtain ⟨po, pn, pp, pr, ps, pi⟩ := p
 dsimp only at hpn
 obtain ⟨w4, hw4⟩ : ∃ w4, w4 = w3.alloc (.cells #[.bool po, .int .i64 pn, .int .i64 pp, .int .i64 pr, .int .i64 ps, .int .i64 pi] 40) := ⟨_, rfl⟩
 obtain ⟨y, hy⟩ : ∃ y, y = w3.heap.size := ⟨_, rfl⟩
 have HX4 := hI (show Ext w w4 by rw [hw4]; exact HX3.out.alloc _)
 have HB4 := hI (show w4.heap[y]? = some (.cells #[.bool po, .int .i64 pn, .int .i64 pp, .int .i64 pr, .int .i64 ps, .int .i64 pi] 40 (0, 0)) by rw [hw4, hy]; exact alloc_new w3 _)
 dsimp only
 go_upto_region 3 with fail
 rw [<- hw4, <- hy]
 clear hw4 hy
 obtain ⟨b0, b1, b2, b3, b4, b5, bf⟩ := blk6d HB4.out
 have hlb := blk_lt HB4.out
 go_wp2_with fail
 refine (within_calls most (pn + 2) _ (by omega) (by omega)).mono ?_
 rintro r w5 ⟨m, rfl, hm0, hm1, hx5⟩
 obtain rfl : w4 = w5 := hx5
 have HX5 := HX4
 have HB5 := HB4
 clear b0 b1 b2 b3 b4 b5 bf hlb HB4
 have hcs := capV_small HP.out (m := m) ⟨hm0, by omega⟩
 have hsp : smallP (⟨po, pn, pp, pr, ps, pi⟩ : Psn) := ⟨⟨by show -1000000000000000 <= pn; omega, by show pn <= _; omega⟩, ⟨by have : 0 <= pp := HP.out.2.1.1; show -1000000000000000 <= pp; omega, by have : pp <= 17592186044416 := HP.out.2.1.2; show pp <= _; omega⟩, ⟨by have : 0 <= pr := HP.out.2.2.1.1; show -1000000000000000 <= pr; omega, by have : pr <= 17592186044416 := HP.out.2.2.1.2; show pr <= _; omega⟩⟩
 have HC1 := hI (fun W => cCapped_calls ⟨po, pn, pp, pr, ps, pi⟩ m W hsp (by omega))
 have HC2 := hI (fun W => rCapped_calls ⟨po, pn, pp, pr, ps, pi⟩ m W hsp (by omega))
 have HC3 := hI (fun W => cCapped_calls ⟨po, pn, pp, pr, ps, pi⟩ pn W hsp (by omega))
 have HC4 := hI (fun W => cCapped_calls (capV ⟨po, pn, pp, pr, ps, pi⟩ m) m W hcs.1 (by omega))
 have e3 : capV ⟨po, pn, pp, pr, ps, pi⟩ pn = ⟨po, pn, pp, pr, ps, pi⟩ := hcs.2.2.1
 rw [e3] at HC3
 rw [hcs.2.2.2] at HC4
 obtain ⟨q, hq⟩ : ∃ q, q = capV ⟨po, pn, pp, pr, ps, pi⟩ m := ⟨_, rfl⟩
 rw [<- hq] at HC1 HC2 HC4 hcs
 have hqm : q.net <= m := hcs.2.1
 obtain ⟨qo, qn, qp, qr, qs, qi⟩ := q
 dsimp only at hqm
 have tq : decide (qn <= m) = true := decide_eq_true hqm
 unfold Psn.cells at HC1 HC2 HC3 HC4
 dsimp only at HC1 HC2 HC3 HC4
 clear hcs hsp e3 hq HP
 obtain ⟨b0, b1, b2, b3, b4, b5, bf⟩ := blk6d HB5.out
 go_wp2_with fail
 refine (HC1.out _).mono ?_
 rintro r w6 ⟨rfl, hx6⟩
 have HX6 := hI (HX5.out.trans hx6)
 have HB6 := hI (hx6.blk HB5.out)
 clear hx6 b0 b1 b2 b3 b4 b5 bf HB5
 obtain ⟨w7, hw7⟩ : ∃ w7, w7 = w6.alloc (.cells #[.bool qo, .int .i64 qn, .int .i64 qp, .int .i64 qr, .int .i64 qs, .int .i64 qi] 40) := ⟨_, rfl⟩
 obtain ⟨u, hu⟩ : ∃ u, u = w6.heap.size := ⟨_, rfl⟩
 have HX7 := hI (show Ext w w7 by rw [hw7]; exact HX6.out.alloc _)
 have HB7 := hI (show w7.heap[y]? = some (.cells #[.bool po, .int .i64 pn, .int .i64 pp, .int .i64 pr, .int .i64 ps, .int .i64 pi] 40 (0, 0)) by rw [hw7]; exact blk_alloc HB6.out)
 have HB8 := hI (show w7.heap[u]? = some (.cells #[.bool qo, .int .i64 qn, .int .i64 qp, .int .i64 qr, .int .i64 qs, .int .i64 qi] 40 (0, 0)) by rw [hw7, hu]; exact alloc_new w6 _)
 go_upto_region 7 with fail
 rw [<- hw7, <- hu]
 clear hw7 hu HB6
 obtain ⟨b0, b1, b2, b3, b4, b5, bf⟩ := blk6d HB7.out
 obtain ⟨c0, c1, c2, c3, c4, c5, cf⟩ := blk6d HB8.out
 have B0 := win_cell b0
 have B1 := win_cell b1
 have B2 := win_cell b2
 have B3 := win_cell b3
 have B4 := win_cell b4
 have B5 := win_cell b5
 have C0 := win_cell c0
 have C1 := win_cell c1
 have C2 := win_cell c2
 have C3 := win_cell c3
 have C4 := win_cell c4
 have C5 := win_cell c5
 clear b0 b1 b2 b3 b4 b5 bf c0 c1 c2 c3 c4 c5 cf
 refine chn_ext 30 ?_
 repeat (refine chn_plain ?_; intro K hK; go_big_quiet_op; go_big_quiet_on)
 refine chn_ge (fun W _ => HC2.out W) ?_
 intro K hK; go_simp; go_big_quiet_on
 repeat (refine chn_plain ?_; intro K hK; go_big_quiet_op; go_big_quiet_on)
 refine chn_ge (fun W _ => HC3.out W) ?_
 intro K hK; go_simp; go_big_quiet_on
 repeat (refine chn_plain ?_; intro K hK; go_big_quiet_op; go_big_quiet_on)
 refine chn_ge (fun W _ => HC4.out W) ?_
 intro K hK; go_simp; go_big_quiet_on
 repeat (refine chn_plain ?_; intro K hK; go_big_quiet_op; go_big_quiet_on)
 refine chn_ge (fun W _ => awake18_calls W) ?_
 intro K hK; go_simp; go_big_quiet_on
 repeat (refine chn_plain ?_; intro K hK; go_big_quiet_op; go_big_quiet_on)
 refine chn_nil fun w9 hx9 _ _ => ?_
 go_wp2_with fail
 go_ret
 exact ⟨rfl, HX7.out.trans hx9⟩
end Go.Proofs.YtefjomofjejklaaGreat
