/-
  Texts of the claim, joined: Made18, Effs, SameF, Awk18, Void0, EffR, EffX.
-/
import Derived.Test.YtpkljcgihobaiaaGreatEf15
import Derived.Test.YtpkljcgihobaiaaGreatEf18
import Derived.Lib.SlicesCompact
namespace Go.Proofs.YtpkljcgihobaiaaGreat
set_option maxRecDepth 100000
set_option maxHeartbeats 32000000
open Go.RowKit
structure Wv where
 sa : OA
 sn : Nat
 sc : Nat
 ta : OA
 tn : Nat
 tc : Nat
 wa : OA
 wn : Nat
 wc : Nat
 xa : OA
 xn : Nat
 xc : Nat
 c : Clm
 ea : OA
 en : Nat
 ec : Nat
 h : Int
 k : Int
def Wv.cells (v : Wv) : Array Value := #[.slice v.sa v.sn v.sc, .slice v.ta v.tn v.tc, .slice v.wa v.wn v.wc, .slice v.xa v.xn v.xc, .int .i64 v.c.id, .int .i64 v.c.policy, .int .i64 v.c.risk, .int .i64 v.c.hour, .int .i64 v.c.peril, .int .i64 v.c.area, .slice v.ea v.en v.ec, .int .i64 v.h, .int .i64 v.k]
def Wv.obj (v : Wv) : Obj := .cells v.cells 39 (0, 0)
def clm0 : Clm := ⟨0, 0, 0, 0, 0, 0, []⟩
def wv0 : Wv := ⟨none, 0, 0, none, 0, 0, none, 0, 0, none, 0, 0, clm0, none, 0, 0, 0, 0⟩
theorem blk13 {w : World} {b : Nat} {v : Wv} (h : w.heap[b]? = some v.obj) :
  w.cell? ⟨b, 0, none⟩ = some (.slice v.sa v.sn v.sc) /\ w.cell? ⟨b, 1, none⟩ = some (.slice v.ta v.tn v.tc) /\ w.cell? ⟨b, 2, none⟩ = some (.slice v.wa v.wn v.wc) /\ w.cell? ⟨b, 3, none⟩ = some (.slice v.xa v.xn v.xc) /\ w.cell? ⟨b, 4, none⟩ = some (.int .i64 v.c.id) /\ w.cell? ⟨b, 5, none⟩ = some (.int .i64 v.c.policy) /\ w.cell? ⟨b, 6, none⟩ = some (.int .i64 v.c.risk) /\ w.cell? ⟨b, 7, none⟩ = some (.int .i64 v.c.hour) /\ w.cell? ⟨b, 8, none⟩ = some (.int .i64 v.c.peril) /\ w.cell? ⟨b, 9, none⟩ = some (.int .i64 v.c.area) /\ w.cell? ⟨b, 10, none⟩ = some (.slice v.ea v.en v.ec) /\ w.cell? ⟨b, 11, none⟩ = some (.int .i64 v.h) /\ w.cell? ⟨b, 12, none⟩ = some (.int .i64 v.k) /\ (∀ j, w.frozen? ⟨b, j, none⟩ = false) :=
 ⟨blk_cell h 0, blk_cell h 1, blk_cell h 2, blk_cell h 3, blk_cell h 4, blk_cell h 5, blk_cell h 6, blk_cell h 7, blk_cell h 8, blk_cell h 9, blk_cell h 10, blk_cell h 11, blk_cell h 12, fun j => blk_free h j⟩
def put7o (w : World) (B : Nat) (v0 v1 v2 v3 v4 v5 v6 : Value) : World := ((((((w.setCell ⟨B, 4, none⟩ (v0)).setCell ⟨B, 5, none⟩ (v1)).setCell ⟨B, 6, none⟩ (v2)).setCell ⟨B, 7, none⟩ (v3)).setCell ⟨B, 8, none⟩ (v4)).setCell ⟨B, 9, none⟩ (v5)).setCell ⟨B, 10, none⟩ (v6)
theorem put7o_blk {w : World} {B : Nat} {v : Wv} {c : Clm} {ea : OA} {en ec : Nat} (h : w.heap[B]? = some (Wv.obj v)) : (put7o w B (.int .i64 c.id) (.int .i64 c.policy) (.int .i64 c.risk) (.int .i64 c.hour) (.int .i64 c.peril) (.int .i64 c.area) (.slice ea en ec)).heap[B]? = some (Wv.obj { v with c := c, ea := ea, en := en, ec := ec }) := by
 unfold put7o
 unfold Wv.obj Wv.cells at *
 rw [heap_setCell_same _ _ _ _ _ _ (heap_setCell_same _ _ _ _ _ _ (heap_setCell_same _ _ _ _ _ _ (heap_setCell_same _ _ _ _ _ _ (heap_setCell_same _ _ _ _ _ _ (heap_setCell_same _ _ _ _ _ _ (heap_setCell_same _ _ _ _ _ _ h))))))]
 rfl
theorem put7o_chg (w : World) (B : Nat) {v0 v1 v2 v3 v4 v5 v6 : Value} : Chg [B] w (put7o w B v0 v1 v2 v3 v4 v5 v6) := by
 unfold put7o
 repeat (with_reducible (refine Chg.setCell ?_ ?_ _))
 exact Chg.refl _ _
 all_goals exact Or.inl (by simp)
def put13 (w : World) (B : Nat) (v0 v1 v2 v3 v4 v5 v6 v7 v8 v9 v10 v11 v12 : Value) : World := ((((((((((((w.setCell ⟨B, 0, none⟩ v0).setCell ⟨B, 1, none⟩ v1).setCell ⟨B, 2, none⟩ v2).setCell ⟨B, 3, none⟩ v3).setCell ⟨B, 4, none⟩ v4).setCell ⟨B, 5, none⟩ v5).setCell ⟨B, 6, none⟩ v6).setCell ⟨B, 7, none⟩ v7).setCell ⟨B, 8, none⟩ v8).setCell ⟨B, 9, none⟩ v9).setCell ⟨B, 10, none⟩ v10).setCell ⟨B, 11, none⟩ v11).setCell ⟨B, 12, none⟩ v12
theorem put13_blk {w : World} {B : Nat} {u0 u1 u2 u3 u4 u5 u6 u7 u8 u9 u10 u11 u12 v0 v1 v2 v3 v4 v5 v6 v7 v8 v9 v10 v11 v12 : Value} {t : TypeId} (h : w.heap[B]? = some (.cells #[u0, u1, u2, u3, u4, u5, u6, u7, u8, u9, u10, u11, u12] t (0, 0))) : (put13 w B v0 v1 v2 v3 v4 v5 v6 v7 v8 v9 v10 v11 v12).heap[B]? = some (.cells #[v0, v1, v2, v3, v4, v5, v6, v7, v8, v9, v10, v11, v12] t (0, 0)) := by
 unfold put13
 have h0 : (w.setCell ⟨B, 0, none⟩ v0).heap[B]? = some (.cells #[v0, u1, u2, u3, u4, u5, u6, u7, u8, u9, u10, u11, u12] t (0, 0)) := heap_setCell_same _ B 0 _ _ v0 h
 have h1 : ((w.setCell ⟨B, 0, none⟩ v0).setCell ⟨B, 1, none⟩ v1).heap[B]? = some (.cells #[v0, v1, u2, u3, u4, u5, u6, u7, u8, u9, u10, u11, u12] t (0, 0)) := heap_setCell_same _ B 1 _ _ v1 h0
 have h2 : (((w.setCell ⟨B, 0, none⟩ v0).setCell ⟨B, 1, none⟩ v1).setCell ⟨B, 2, none⟩ v2).heap[B]? = some (.cells #[v0, v1, v2, u3, u4, u5, u6, u7, u8, u9, u10, u11, u12] t (0, 0)) := heap_setCell_same _ B 2 _ _ v2 h1
 have h3 : ((((w.setCell ⟨B, 0, none⟩ v0).setCell ⟨B, 1, none⟩ v1).setCell ⟨B, 2, none⟩ v2).setCell ⟨B, 3, none⟩ v3).heap[B]? = some (.cells #[v0, v1, v2, v3, u4, u5, u6, u7, u8, u9, u10, u11, u12] t (0, 0)) := heap_setCell_same _ B 3 _ _ v3 h2
 have h4 : (((((w.setCell ⟨B, 0, none⟩ v0).setCell ⟨B, 1, none⟩ v1).setCell ⟨B, 2, none⟩ v2).setCell ⟨B, 3, none⟩ v3).setCell ⟨B, 4, none⟩ v4).heap[B]? = some (.cells #[v0, v1, v2, v3, v4, u5, u6, u7, u8, u9, u10, u11, u12] t (0, 0)) := heap_setCell_same _ B 4 _ _ v4 h3
 have h5 : ((((((w.setCell ⟨B, 0, none⟩ v0).setCell ⟨B, 1, none⟩ v1).setCell ⟨B, 2, none⟩ v2).setCell ⟨B, 3, none⟩ v3).setCell ⟨B, 4, none⟩ v4).setCell ⟨B, 5, none⟩ v5).heap[B]? = some (.cells #[v0, v1, v2, v3, v4, v5, u6, u7, u8, u9, u10, u11, u12] t (0, 0)) := heap_setCell_same _ B 5 _ _ v5 h4
 have h6 : (((((((w.setCell ⟨B, 0, none⟩ v0).setCell ⟨B, 1, none⟩ v1).setCell ⟨B, 2, none⟩ v2).setCell ⟨B, 3, none⟩ v3).setCell ⟨B, 4, none⟩ v4).setCell ⟨B, 5, none⟩ v5).setCell ⟨B, 6, none⟩ v6).heap[B]? = some (.cells #[v0, v1, v2, v3, v4, v5, v6, u7, u8, u9, u10, u11, u12] t (0, 0)) := heap_setCell_same _ B 6 _ _ v6 h5
 have h7 : ((((((((w.setCell ⟨B, 0, none⟩ v0).setCell ⟨B, 1, none⟩ v1).setCell ⟨B, 2, none⟩ v2).setCell ⟨B, 3, none⟩ v3).setCell ⟨B, 4, none⟩ v4).setCell ⟨B, 5, none⟩ v5).setCell ⟨B, 6, none⟩ v6).setCell ⟨B, 7, none⟩ v7).heap[B]? = some (.cells #[v0, v1, v2, v3, v4, v5, v6, v7, u8, u9, u10, u11, u12] t (0, 0)) := heap_setCell_same _ B 7 _ _ v7 h6
 have h8 : (((((((((w.setCell ⟨B, 0, none⟩ v0).setCell ⟨B, 1, none⟩ v1).setCell ⟨B, 2, none⟩ v2).setCell ⟨B, 3, none⟩ v3).setCell ⟨B, 4, none⟩ v4).setCell ⟨B, 5, none⟩ v5).setCell ⟨B, 6, none⟩ v6).setCell ⟨B, 7, none⟩ v7).setCell ⟨B, 8, none⟩ v8).heap[B]? = some (.cells #[v0, v1, v2, v3, v4, v5, v6, v7, v8, u9, u10, u11, u12] t (0, 0)) := heap_setCell_same _ B 8 _ _ v8 h7
 have h9 : ((((((((((w.setCell ⟨B, 0, none⟩ v0).setCell ⟨B, 1, none⟩ v1).setCell ⟨B, 2, none⟩ v2).setCell ⟨B, 3, none⟩ v3).setCell ⟨B, 4, none⟩ v4).setCell ⟨B, 5, none⟩ v5).setCell ⟨B, 6, none⟩ v6).setCell ⟨B, 7, none⟩ v7).setCell ⟨B, 8, none⟩ v8).setCell ⟨B, 9, none⟩ v9).heap[B]? = some (.cells #[v0, v1, v2, v3, v4, v5, v6, v7, v8, v9, u10, u11, u12] t (0, 0)) := heap_setCell_same _ B 9 _ _ v9 h8
 have h10 : (((((((((((w.setCell ⟨B, 0, none⟩ v0).setCell ⟨B, 1, none⟩ v1).setCell ⟨B, 2, none⟩ v2).setCell ⟨B, 3, none⟩ v3).setCell ⟨B, 4, none⟩ v4).setCell ⟨B, 5, none⟩ v5).setCell ⟨B, 6, none⟩ v6).setCell ⟨B, 7, none⟩ v7).setCell ⟨B, 8, none⟩ v8).setCell ⟨B, 9, none⟩ v9).setCell ⟨B, 10, none⟩ v10).heap[B]? = some (.cells #[v0, v1, v2, v3, v4, v5, v6, v7, v8, v9, v10, u11, u12] t (0, 0)) := heap_setCell_same _ B 10 _ _ v10 h9
 have h11 : ((((((((((((w.setCell ⟨B, 0, none⟩ v0).setCell ⟨B, 1, none⟩ v1).setCell ⟨B, 2, none⟩ v2).setCell ⟨B, 3, none⟩ v3).setCell ⟨B, 4, none⟩ v4).setCell ⟨B, 5, none⟩ v5).setCell ⟨B, 6, none⟩ v6).setCell ⟨B, 7, none⟩ v7).setCell ⟨B, 8, none⟩ v8).setCell ⟨B, 9, none⟩ v9).setCell ⟨B, 10, none⟩ v10).setCell ⟨B, 11, none⟩ v11).heap[B]? = some (.cells #[v0, v1, v2, v3, v4, v5, v6, v7, v8, v9, v10, v11, u12] t (0, 0)) := heap_setCell_same _ B 11 _ _ v11 h10
 have h12 : (((((((((((((w.setCell ⟨B, 0, none⟩ v0).setCell ⟨B, 1, none⟩ v1).setCell ⟨B, 2, none⟩ v2).setCell ⟨B, 3, none⟩ v3).setCell ⟨B, 4, none⟩ v4).setCell ⟨B, 5, none⟩ v5).setCell ⟨B, 6, none⟩ v6).setCell ⟨B, 7, none⟩ v7).setCell ⟨B, 8, none⟩ v8).setCell ⟨B, 9, none⟩ v9).setCell ⟨B, 10, none⟩ v10).setCell ⟨B, 11, none⟩ v11).setCell ⟨B, 12, none⟩ v12).heap[B]? = some (.cells #[v0, v1, v2, v3, v4, v5, v6, v7, v8, v9, v10, v11, v12] t (0, 0)) := heap_setCell_same _ B 12 _ _ v12 h11
 exact h12
theorem put13_chg (w : World) (B : Nat) {v0 v1 v2 v3 v4 v5 v6 v7 v8 v9 v10 v11 v12 : Value} : Chg [B] w (put13 w B v0 v1 v2 v3 v4 v5 v6 v7 v8 v9 v10 v11 v12) := by
 unfold put13
 repeat (with_reducible (refine Chg.setCell ?_ ?_ _))
 exact Chg.refl _ _
 all_goals exact Or.inl (by simp)
structure IsW18 (w : World) (attrs : List Attr) (rts : List Rt) (x : Wrd) (v : Wv) : Prop where
 mem : attrs ∈ schemas
 sch : IsSchema w attrs (.agg #[.slice v.sa v.sn v.sc])
 rat : IsRts w rts v.ta v.tn v.tc
 rlen : rts.length <= 9
 wrd : IsWrd w x (.agg #[.slice v.wa v.wn v.wc, .slice v.xa v.xn v.xc])
 wok : WrdOk x
 evs : IsEvs w v.c.events v.ea v.en v.ec
 clm : ClmMade attrs v.c.id v.c
 cid : 1 <= v.c.id /\ v.c.id <= 9
 hh : 0 <= v.h /\ v.h < 200
 kk : 0 <= v.k /\ v.k < 4
theorem IsW18.mono {w w' : World} {attrs : List Attr} {rts : List Rt} {x : Wrd} {v : Wv} (h : IsW18 w attrs rts x v) (hs : Sub w w') : IsW18 w' attrs rts x v :=
 {h with sch := h.sch.mono hs, rat := h.rat.mono hs, wrd := h.wrd.mono hs, evs := h.evs.mono hs }
def M18Q (w : World) (e : Ending) (w' : World) : Prop := ∃ attrs rts x v bd, e = .returned (.tuple #[.agg (Wv.cells v), .pointer (some ⟨bd, 0, none⟩)]) /\ IsW18 (mask w' [bd]) attrs rts x v /\ DeckAt w w' bd /\ Ext w w'
def md18R (w : World) (attrs : List Attr) (bd bx : Nat) (sa : OA) (sn sc : Nat) : Nat -> Value -> World -> Prop
 | 0, u, _ => u = .pointer (some ⟨bd, 0, none⟩)
 | 1, u, _ => u = .pointer (some ⟨bx, 0, none⟩)
 | 2, u, _ => u = .agg #[.slice sa sn sc]
 | 3, u, _ => u = .pointer (some ⟨bd, 0, none⟩)
 | 4, u, _ => ∃ (z : Int), u = .int .i64 z /\ (1 <= z /\ z <= 9)
 | 5, u, W => ∃ (c : Clm) (ea : OA) (en : Nat) (ec : Nat), u = .agg #[.int .i64 c.id, .int .i64 c.policy, .int .i64 c.risk, .int .i64 c.hour, .int .i64 c.peril, .int .i64 c.area, .slice ea en ec] /\ (ClmMade attrs c.id c /\ 1 <= c.id /\ c.id <= 9 /\ IsEvs (mask W [bd, bx, w.heap.size]) c.events ea en ec)
 | _, u, _ => u = .pointer (some ⟨bx, 4, none⟩)
theorem made18_calls (da : OA) (dn dc : Nat) (w : World) (h : IntsAt w da dn) (hdl : dn <= 1000000000000000) : Calls Tryz.prog 7 #[.slice da dn dc] w (M18Q w) := by
 have HI := hI h
 clear h
 obtain ⟨wa, hwa⟩ : ∃ wa, wa = w.alloc (.cells (Wv.cells wv0) 39) := ⟨_, rfl⟩
 have HXA := hI (show Ext w wa by rw [hwa]; exact (Ext.refl _).alloc _)
 have HRA := hI (show wa.heap[w.heap.size]? = some (Wv.obj wv0) by rw [hwa]; exact alloc_new w _)
 have hza : w.heap.size < wa.heap.size := blk_lt HRA.out
 unfold Wv.cells wv0 clm0 at hwa
 dsimp only at hwa
 go_enter Tryz.func7, Tryz.ntmps7
 go_upto_region 1 with fail
 rw [<- hwa]
 clear hwa
 go_wp2_with fail
 refine (new_callsB da dn dc w wa HI.out HXA.out hdl).mono ?_
 rintro r w1 ⟨bd, rfl, hd1, hx1, hbd1⟩
 have HD1 := hI hd1
 have HX1 := hI (HXA.out.trans hx1)
 have HR1 := hI (hx1.blk HRA.out)
 have hbdl := hd1.lt
 clear hd1 hx1 HXA HRA HI
 go_upto_region 3 with fail
 obtain ⟨wb, hwb⟩ : ∃ wb, wb = w1.alloc (.cells (Wv.cells wv0) 39) := ⟨_, rfl⟩
 have hxb : Ext w1 wb := by rw [hwb]; exact (Ext.refl _).alloc _
 have HBB := hI (show wb.heap[w1.heap.size]? = some (Wv.obj wv0) by rw [hwb]; exact alloc_new w1 _)
 obtain ⟨bx, hbx⟩ : ∃ bx, bx = w1.heap.size := ⟨_, rfl⟩
 rw [<- hbx] at HBB
 have hbxl : w.heap.size < bx /\ bd < bx := ⟨by omega, by omega⟩
 have hbxlt : bx < wb.heap.size := blk_lt HBB.out
 unfold Wv.cells wv0 clm0 at hwb
 dsimp only at hwb
 rw [<- hwb, <- hbx]
 have HDB := hI (HD1.out.ext hxb)
 have HXB := hI (HX1.out.trans hxb)
 have HRB := hI (hxb.blk HR1.out)
 clear hwb hxb hbx HD1 HX1 HR1
 go_wp2_with fail
 refine (next_calls HDB.out 6 (by omega) (by omega)).mono ?_
 rintro r w2 ⟨q, rfl, hq0, hq1, hd2, hc2⟩
 have HD2 := hI hd2
 have HC2 := hI hc2
 have hz2 := hc2.size
 clear hd2 hc2
 go_wp2_with fail
 refine (schema_calls q [bd, bx, w.heap.size] w2 (by simp; omega)).mono ?_
 rintro r w3 ⟨attrs, sv, rfl, hat, hsch, hx3⟩
 obtain ⟨sa, sn, sc, rfl, -⟩ := hsch.slice
 have HAT := hI hat
 have HD3 := hI (HD2.out.ext hx3)
 have HC3 := hI (HC2.out.then (hx3.chg [bd]))
 have HB3 := hI ((HC2.out.then (hx3.chg [bd])).blk HBB.out (by simp; omega))
 have HSCH := hI hsch
 have hz3 := hx3.size
 clear hsch hat hx3 hq0 hq1
 obtain ⟨b0, b1, b2, b3, b4, b5, b6, b7, b8, b9, b10, b11, b12, bf⟩ := blk13 HB3.out
 have hlb := blk_lt HB3.out
 go_upto_region 4 with fail
 obtain ⟨wS, hwS⟩ : ∃ wS, wS = w3.setCell ⟨bx, 0, none⟩ (.slice sa sn sc) := ⟨_, rfl⟩
 rw [<- hwS]
 have hcs : Chg [bx] w3 wS := by rw [hwS]; exact (Chg.refl [bx] _).setCell (Or.inl (by simp)) _
 have HBS := hI (show wS.heap[bx]? = some (Wv.obj { wv0 with sa := sa, sn := sn, sc := sc }) by rw [hwS]; exact heap_setCell_same w3 bx 0 _ _ (.slice sa sn sc) HB3.out)
 have HDS := hI (HD3.out.chg hcs (by simp; omega) (by simp; omega))
 have HCS := hI (show Chg [bd, bx] wb wS from (HC3.out.weak (fun y hy => by simp at hy; simp [hy])).then (hcs.weak (fun y hy => by simp at hy; simp [hy])))
 have HSCS := hI (HSCH.out.mono (mask_step hcs (by simp)))
 have hzs := hcs.size
 clear hwS hcs b0 b1 b2 b3 b4 b5 b6 b7 b8 b9 b10 b11 b12 bf hlb
 have HCM := hI (fun (id : Int) W (hW : Chg [bd] wS W) (hd : DeckAt w W bd) (h1 : 1 <= id) (h2 : id <= 9) => dclaim_calls (schema_zero HAT.out) (attrs_fits HAT.out) hd sa sn sc [bd, bx, w.heap.size] ((HSCS.out.mono (mask_step hW (by simp))).mono (mask_less _ (fun y hy => by simp at hy; simp [hy]))) (by have := hW.size; simp; omega) id h1 (by omega))
 refine wp_region_grow (m := 7) [5, 6] (GnG w wS bd) (GnE bd) (GrP (md18R w attrs bd bx sa sn sc)) (by kernel_rfl) (by kernel_rfl) ⟨HDS.out.ext ((Ext.refl wS).drew), ((Ext.refl wS).drew).chg _⟩ ?_ ?_ ?_
 ·intro i k v W W' hi hk hne hout h hE
  have hE : Chg [bd] W W' := hE
  have hi' := ltc7 hi
  clear hi hk hne hout
  rcases hi' with rfl | rfl | rfl | rfl | rfl | rfl | rfl
  ·exact h
  ·exact h
  ·exact h
  ·exact h
  ·obtain ⟨z, e0, h⟩ := h
   exact ⟨z, e0, h⟩
  ·obtain ⟨c, ea, en, ec, e0, h⟩ := h
   exact ⟨c, ea, en, ec, e0, ⟨h.1, h.2.1, h.2.2.1, h.2.2.2.mono (mask_step hE (by simp))⟩⟩
  exact h
 ·intro q op hq ho vs W hW hd ρ hρ
  have hq' := ltc7 hq
  clear hq
  have o4 : ρ (.tmp 4) = .pointer (some ⟨bd, 0, none⟩) := hρ.out 4 rfl
  have o5 : ρ (.tmp 5) = .pointer (some ⟨bx, 0, none⟩) := hρ.out 5 rfl
  have i1 := hρ.i 1 13
  have i3 := hρ.i 3 15
  have i0 := hρ.i 0 12
  have i2 := hρ.i 2 14
  have i4 := hρ.i 4 16
  have hc := hρ.const
  have hfn := hρ.func
  clear hρ
  have HW := hI (show DeckAt w W bd /\ Chg [bd] wS W from hW)
  rcases hq' with rfl | rfl | rfl | rfl | rfl | rfl | rfl
  ·cases ho
   clear hd
   unfold GivesOp
   go_simp
   exact ⟨Chg.refl _ _, rfl⟩
  ·cases ho
   clear hd
   unfold GivesOp
   go_simp
   exact ⟨Chg.refl _ _, rfl⟩
  ·cases ho
   have h1 : vs 1 = _ := hd ⟨1, .data⟩ (by simp) rfl
   rw [h1] at i1
   clear hd
   have g2 := (blk13 (HW.out.2.blk HBS.out (by simp; omega))).1
   unfold GivesOp
   go_simp
   exact ⟨Chg.refl _ _, rfl⟩
  ·cases ho
   clear hd
   unfold GivesOp
   go_simp
   exact ⟨Chg.refl _ _, rfl⟩
  ·cases ho
   have h3 : vs 3 = _ := hd ⟨3, .data⟩ (by simp) rfl
   rw [h3] at i3
   clear hd
   unfold GivesOp
   go_simp
   refine (range_calls HW.out.1 1 9 (by omega) (by omega) (by omega)).mono ?_
   rintro e5 w5 ⟨z, rfl, hz0, hz1, hd5, hc5⟩
   exact ⟨_, rfl, hc5, ⟨hd5, HW.out.2.then hc5⟩, z, rfl, by omega, by omega⟩
  ·cases ho
   have h0 : vs 0 = _ := hd ⟨0, .data⟩ (by simp) rfl
   rw [h0] at i0
   have h2 : vs 2 = _ := hd ⟨2, .data⟩ (by simp) rfl
   rw [h2] at i2
   obtain ⟨z, h4, hs4⟩ : ∃ (z : Int), vs 4 = .int .i64 z /\ (1 <= z /\ z <= 9) := hd ⟨4, .data⟩ (by simp) rfl
   have HS4 := hI hs4
   clear hs4
   rw [h4] at i4
   clear hd
   unfold GivesOp
   go_simp
   refine (HCM.out z W HW.out.2 HW.out.1 HS4.out.1 HS4.out.2).mono ?_
   rintro e5 w5 ⟨c, ea, en, ec, rfl, q1, q2, hd5, hc5⟩
   have hcz := q1.2.1
   exact ⟨_, rfl, hc5, ⟨hd5, HW.out.2.then hc5⟩, c, ea, en, ec, rfl, by rw [hcz]; exact q1, by rw [hcz]; exact HS4.out.1, by rw [hcz]; exact HS4.out.2, q2⟩
  cases ho
  clear hd
  unfold GivesOp
  go_simp
  exact ⟨Chg.refl _ _, rfl⟩
 intro vs W hW hR
 rw [if_neg (by decide +kernel)]
 obtain ⟨c, ea, en, ec, h5, hs5⟩ : ∃ (c : Clm) (ea : OA) (en : Nat) (ec : Nat), vs 5 = .agg #[.int .i64 c.id, .int .i64 c.policy, .int .i64 c.risk, .int .i64 c.hour, .int .i64 c.peril, .int .i64 c.area, .slice ea en ec] /\ (ClmMade attrs c.id c /\ 1 <= c.id /\ c.id <= 9 /\ IsEvs (mask W [bd, bx, w.heap.size]) c.events ea en ec) := hR 5 (by simp) (by omega)
 have HS5 := hI hs5
 clear hs5
 have h6 : vs 6 = .pointer (some ⟨bx, 4, none⟩) := hR 6 (by simp) (by omega)
 obtain ⟨y0, y1, y2, y3, y4, y5, y6, y7, y8, y9, y10, y11, y12, yf⟩ := blk13 (hW.2.blk HBS.out (by simp; omega))
 have hly := blk_lt (hW.2.blk HBS.out (by simp; omega))
 refine wpOp_lastG rfl ?_
 change wpList _ _ _ [⟨none, .store _ (.tmp 18) (.tmp 17), _, _, _, none⟩] _ _
 simp only [acts, dstAt, List.range, List.range.loop, List.foldl_cons, List.foldl_nil, h5, h6]
 go_simp
 have hW2 : DeckAt w W bd /\ Chg [bd] wS W := hW
 clear hR hW h5 h6
 have HW2 := hI hW2
 clear hW2
 obtain ⟨m1, m2, m3, m4⟩ := HS5.out
 go_upto_region 5 with fail
 obtain ⟨w4, hw4⟩ : ∃ w4, w4 = put7o W bx (.int .i64 c.id) (.int .i64 c.policy) (.int .i64 c.risk) (.int .i64 c.hour) (.int .i64 c.peril) (.int .i64 c.area) (.slice ea en ec) := ⟨_, rfl⟩
 have HB4 := hI (show w4.heap[bx]? = some (Wv.obj { wv0 with sa := sa, sn := sn, sc := sc, c := c, ea := ea, en := en, ec := ec }) by rw [hw4]; exact put7o_blk (HW2.out.2.blk HBS.out (by simp; omega)))
 have hcs : Chg [bx] W w4 := by rw [hw4]; exact put7o_chg _ _
 unfold put7o at hw4
 rw [<- hw4]
 have HEV := hI (m4.mono (mask_step hcs (by simp)))
 have HD4 := hI (HW2.out.1.chg hcs (by simp; omega) (by simp; omega))
 have HC4 := hI (show Chg [bd, bx] wS w4 from (HW2.out.2.weak (fun y hy => by simp at hy; simp [hy])).then (hcs.weak (fun y hy => by simp at hy; simp [hy])))
 have HMD := hI (And.intro m1 (And.intro m2 m3))
 have hz4 := (HW2.out.2.size)
 have hz4' := hcs.size
 clear hw4 hcs m1 m2 m3 m4 y0 y1 y2 y3 y4 y5 y6 y7 y8 y9 y10 y11 y12 yf hly HS5 HW2
 go_wp2_with fail
 refine (rates_calls HD4.out [bd, bx, w.heap.size] (by simp; omega)).mono ?_
 rintro r w5 ⟨rts, ta, tc, rfl, hrl, hrt, hd5, hc5⟩
 obtain ⟨tn, htn⟩ : ∃ tn, tn = rts.length := ⟨_, rfl⟩
 rw [<- htn] at hrt ⊢
 have HRL := hI hrl
 have HB5 := hI (hc5.blk HB4.out (by simp; omega))
 have hz5 := hc5.size
 have hlb := blk_lt HB5.out
 obtain ⟨b0, b1, b2, b3, b4, b5, b6, b7, b8, b9, b10, b11, b12, bf⟩ := blk13 HB5.out
 have HD5 := hI hd5
 have HC5 := hI (HC4.out.then (hc5.weak (fun y hy => by simp at hy; simp [hy])))
 have HEV5 := hI (HEV.out.mono (mask_step hc5 (by simp)))
 have HRT := hI hrt
 clear hd5 hc5 hrl hrt htn
 go_upto_region 6 with fail
 obtain ⟨w6, hw6⟩ : ∃ w6, w6 = w5.setCell ⟨bx, 1, none⟩ (.slice ta tn tc) := ⟨_, rfl⟩
 rw [<- hw6]
 have HB6 := hI (show w6.heap[bx]? = some (Wv.obj { wv0 with sa := sa, sn := sn, sc := sc, c := c, ea := ea, en := en, ec := ec, ta := ta, tn := tn, tc := tc }) by rw [hw6]; exact heap_setCell_same w5 bx 1 _ _ (.slice ta tn tc) HB5.out)
 have hcs : Chg [bx] w5 w6 := by rw [hw6]; exact (Chg.refl [bx] _).setCell (Or.inl (by simp)) _
 have HD6 := hI (HD5.out.chg hcs (by simp; omega) (by simp; omega))
 have HC6 := hI (HC5.out.then (hcs.weak (fun y hy => by simp at hy; simp [hy])))
 have HEV6 := hI (HEV5.out.mono (mask_step hcs (by simp)))
 have HRT6 := hI (HRT.out.mono (mask_step hcs (by simp)))
 have hz6 := hcs.size
 have HSC6 := hI (show IsSchema (mask w6 [bd, bx, w.heap.size]) attrs (.agg #[.slice sa sn sc]) from HSCS.out.mono (mask_grow HC6.out (fun y hy => by simp at hy; rcases hy with rfl | rfl <;> exact Or.inl (by simp))))
 clear hw6 hcs b0 b1 b2 b3 b4 b5 b6 b7 b8 b9 b10 b11 b12 bf hlb
 have hlb := blk_lt HB6.out
 obtain ⟨b0, b1, b2, b3, b4, b5, b6, b7, b8, b9, b10, b11, b12, bf⟩ := blk13 HB6.out
 have HWC := hI (dwording_calls HAT.out HD6.out sa sn sc [bd, bx, w.heap.size] (HSC6.out.mono (mask_less _ (fun y hy => by simp at hy; simp [hy]))) (by simp; omega) 4 (by omega) true)
 go_wp2_with fail
 refine HWC.out.mono ?_
 rintro r w7 ⟨x, v, rfl, hwok, hwrd, hd7, hc7⟩
 obtain ⟨xca, xcn, xcc, xea, xen, xec, rfl, hq1, hq2⟩ := hwrd
 have HWRD := hI (show IsWrd (mask w7 [bd, bx, w.heap.size]) x (.agg #[.slice xca xcn xcc, .slice xea xen xec]) from ⟨xca, xcn, xcc, xea, xen, xec, rfl, hq1, hq2⟩)
 have HWOK := hI hwok
 have HB7 := hI (hc7.blk HB6.out (by simp; omega))
 have HD7 := hI hd7
 have HC7 := hI (HC6.out.then (hc7.weak (fun y hy => by simp at hy; simp [hy])))
 have HEV7 := hI (HEV6.out.mono (mask_step hc7 (by simp)))
 have HRT7 := hI (HRT6.out.mono (mask_step hc7 (by simp)))
 have hz7 := hc7.size
 have HS67 := hI (show Sub (mask w6 [bd, bx, w.heap.size]) (mask w7 [bd, bx, w.heap.size]) from mask_step hc7 (by simp))
 clear hq1 hq2 hwok hd7 hc7 b0 b1 b2 b3 b4 b5 b6 b7 b8 b9 b10 b11 b12 bf hlb
 have hlb := blk_lt HB7.out
 obtain ⟨b0, b1, b2, b3, b4, b5, b6, b7, b8, b9, b10, b11, b12, bf⟩ := blk13 HB7.out
 go_upto_region 7 with fail
 obtain ⟨w8, hw8⟩ : ∃ w8, w8 = (w7.setCell ⟨bx, 2, none⟩ (.slice xca xcn xcc)).setCell ⟨bx, 3, none⟩ (.slice xea xen xec) := ⟨_, rfl⟩
 rw [<- hw8]
 have HB8 := hI (show w8.heap[bx]? = some (Wv.obj { wv0 with sa := sa, sn := sn, sc := sc, c := c, ea := ea, en := en, ec := ec, ta := ta, tn := tn, tc := tc, wa := xca, wn := xcn, wc := xcc, xa := xea, xn := xen, xc := xec }) by rw [hw8]; exact heap_setCell_same _ bx 3 _ _ (.slice xea xen xec) (heap_setCell_same w7 bx 2 _ _ (.slice xca xcn xcc) HB7.out))
 have hcs : Chg [bx] w7 w8 := by rw [hw8]; exact ((Chg.refl [bx] _).setCell (Or.inl (by simp)) _).setCell (Or.inl (by simp)) _
 have HD8 := hI (HD7.out.chg hcs (by simp; omega) (by simp; omega))
 have HC8 := hI (HC7.out.then (hcs.weak (fun y hy => by simp at hy; simp [hy])))
 have HEV8 := hI (HEV7.out.mono (mask_step hcs (by simp)))
 have HRT8 := hI (HRT7.out.mono (mask_step hcs (by simp)))
 have HWR8 := hI (HWRD.out.mono (mask_step hcs (by simp)))
 have hz8 := hcs.size
 have HS78 := hI (show Sub (mask w7 [bd, bx, w.heap.size]) (mask w8 [bd, bx, w.heap.size]) from mask_step hcs (by simp))
 clear hw8 hcs b0 b1 b2 b3 b4 b5 b6 b7 b8 b9 b10 b11 b12 bf hlb
 go_wp2_with fail
 refine (next_calls HD8.out 200 (by omega) (by omega)).mono ?_
 rintro r w9 ⟨hh, rfl, hh0, hh1, hd9, hc9⟩
 have HD9 := hI hd9
 have HC9 := hI hc9
 clear hd9 hc9
 go_wp2_with fail
 refine (next_calls HD9.out 4 (by omega) (by omega)).mono ?_
 rintro r wA ⟨kk, rfl, hk0, hk1, hdA, hcA⟩
 have HCA := hI (HC9.out.then hcA)
 have HDA := hI hdA
 have HBA := hI ((HC9.out.then hcA).blk HB8.out (by simp; omega))
 have hzA := (HC9.out.then hcA).size
 clear hdA hcA
 have hlb := blk_lt HBA.out
 obtain ⟨b0, b1, b2, b3, b4, b5, b6, b7, b8, b9, b10, b11, b12, bf⟩ := blk13 HBA.out
 go_upto_region 8 with fail
 obtain ⟨wB, hwB⟩ : ∃ wB, wB = (wA.setCell ⟨bx, 11, none⟩ (.int .i64 hh)).setCell ⟨bx, 12, none⟩ (.int .i64 kk) := ⟨_, rfl⟩
 rw [<- hwB]
 obtain ⟨V, hV⟩ : ∃ V : Wv, V = ⟨sa, sn, sc, ta, tn, tc, xca, xcn, xcc, xea, xen, xec, c, ea, en, ec, hh, kk⟩ := ⟨_, rfl⟩
 have HBW := hI (show wB.heap[bx]? = some (Wv.obj V) by rw [hwB, hV]; exact heap_setCell_same _ bx 12 _ _ (.int .i64 kk) (heap_setCell_same wA bx 11 _ _ (.int .i64 hh) HBA.out))
 have hcs : Chg [bx] wA wB := by rw [hwB]; exact ((Chg.refl [bx] _).setCell (Or.inl (by simp)) _).setCell (Or.inl (by simp)) _
 have HDW := hI (HDA.out.chg hcs (by simp; omega) (by simp; omega))
 have HCW := hI (show Chg [bd, bx] w8 wB from (HCA.out.weak (fun y hy => by simp at hy; simp [hy])).then (hcs.weak (fun y hy => by simp at hy; simp [hy])))
 have HRW := hI (show wB.heap[w.heap.size]? = some (Wv.obj wv0) from (HC8.out.then HCW.out).blk (HCS.out.blk HRB.out (by simp; omega)) (by simp; omega))
 have HXW := hI (show Ext w wB from (HCS.out.then (HC8.out.then HCW.out)).ext HXB.out (fun y hy => by simp at hy; rcases hy with rfl | rfl <;> omega))
 have HSUB := hI (show Sub (mask w8 [bd, bx, w.heap.size]) (mask wB [bd, bx, w.heap.size]) from mask_grow HCW.out (fun y hy => by simp at hy; rcases hy with rfl | rfl <;> exact Or.inl (by simp)))
 have HSUB6 := hI (show Sub (mask w6 [bd, bx, w.heap.size]) (mask w8 [bd, bx, w.heap.size]) from HS67.out.trans HS78.out)
 have HIS := hI (show IsW18 (mask wB [bd, bx, w.heap.size]) attrs rts x V from by
  rw [hV]
  exact ⟨HAT.out, HSC6.out.mono (HSUB6.out.trans HSUB.out), HRT8.out.mono HSUB.out, HRL.out, HWR8.out.mono HSUB.out, HWOK.out, HEV8.out.mono HSUB.out, HMD.out.1, ⟨HMD.out.2.1, HMD.out.2.2⟩, ⟨hh0, hh1⟩, ⟨hk0, hk1⟩⟩)
 clear hwB hcs b0 b1 b2 b3 b4 b5 b6 b7 b8 b9 b10 b11 b12 bf hlb hV
 have hlb := blk_lt HBW.out
 have hlr := blk_lt HRW.out
 obtain ⟨b0, b1, b2, b3, b4, b5, b6, b7, b8, b9, b10, b11, b12, bf⟩ := blk13 HBW.out
 obtain ⟨y0, y1, y2, y3, y4, y5, y6, y7, y8, y9, y10, y11, y12, yf⟩ := blk13 HRW.out
 go_wp2_with fail
 obtain ⟨wq, hwq⟩ : ∃ wq, wq = put13 wB w.heap.size (.slice V.sa V.sn V.sc) (.slice V.ta V.tn V.tc) (.slice V.wa V.wn V.wc) (.slice V.xa V.xn V.xc) (.int .i64 V.c.id) (.int .i64 V.c.policy) (.int .i64 V.c.risk) (.int .i64 V.c.hour) (.int .i64 V.c.peril) (.int .i64 V.c.area) (.slice V.ea V.en V.ec) (.int .i64 V.h) (.int .i64 V.k) := ⟨_, rfl⟩
 have hbq : wq.heap[w.heap.size]? = some (Wv.obj V) := by rw [hwq]; exact put13_blk HRW.out
 have HCQ := hI (show Chg [w.heap.size] wB wq by rw [hwq]; exact put13_chg _ _)
 unfold put13 at hwq
 rw [<- hwq]
 clear hwq b0 b1 b2 b3 b4 b5 b6 b7 b8 b9 b10 b11 b12 bf y0 y1 y2 y3 y4 y5 y6 y7 y8 y9 y10 y11 y12 yf
 obtain ⟨z0, z1, z2, z3, z4, z5, z6, z7, z8, z9, z10, z11, z12, zf⟩ := blk13 hbq
 refine bodyPost_ret (v := .tuple #[.agg (Wv.cells V), .pointer (some ⟨bd, 0, none⟩)]) (by simp [results, Tryz.results7, go_sem, Wv.cells, z0, z1, z2, z3, z4, z5, z6, z7, z8, z9, z10, z11, z12]) rfl ?_
 exact ⟨attrs, rts, x, V, bd, rfl, HIS.out.mono ((mask_step HCQ.out (by simp)).trans (mask_less _ (fun y hy => by simp at hy; simp [hy]))), HDW.out.chg HCQ.out (by simp; omega) (by simp), HCQ.out.ext HXW.out (by simp)⟩
theorem effGo_len (hour : Int) : (l : List Ev) -> (v : ZI) -> (effGo hour v l).length <= l.length
 | [], _ => by simp [effGo]
 | x :: r, v => by
  unfold effGo
  by_cases h : hour < x.known \/ v.any (· == x.number) = true
  ·rw [if_pos h]; have := effGo_len hour r v; simp; omega
  rw [if_neg h]; have := effGo_len hour r (if isVoid x then x.target :: v else v); simp; omega
theorem effL_len (l : List Ev) (hour : Int) : (effL l hour).length <= l.length := by
 unfold effL
 by_cases h : soundEvs [] l = true
 ·rw [if_pos h, List.length_reverse]; have := effGo_len hour l.reverse []; simpa using this
 rw [if_neg h]; simp
def EffN (l : List Ev) (n base : Nat) (w : World) (v i : Value) (wr : World) : Prop := ∃ f : ZI, i = .int .i64 (f.length : Nat) /\ f.length <= n /\ f = (l.take f.length).map (·.number) /\ wr.ownsRow base 3 1 v f.length (f.flatMap intCells) /\ Ext w wr
theorem effs_calls (c : Clm) (a : OA) (n cap : Nat) (hour : Int) (w : World) (hi : IsEvs w c.events a n cap) (hn2 : n <= 1000000000000) (hfit : ∀ x ∈ c.events, fitEv x) :
  Calls Tryz.prog 19 #[ClmArg c a n cap, .int .i64 hour] w (IntsQ ((effL c.events hour).map (·.number)) w) := by
 obtain ⟨wa, hwa⟩ : ∃ wa, wa = w.alloc (.cells #[.int .i64 c.id, .int .i64 c.policy, .int .i64 c.risk, .int .i64 c.hour, .int .i64 c.peril, .int .i64 c.area, .slice a n cap] 27) := ⟨_, rfl⟩
 have HXA := hI (show Ext w wa by rw [hwa]; exact (Ext.refl _).alloc _)
 have HB0 := hI (show wa.heap[w.heap.size]? = some (.cells #[.int .i64 c.id, .int .i64 c.policy, .int .i64 c.risk, .int .i64 c.hour, .int .i64 c.peril, .int .i64 c.area, .slice a n cap] 27 (0, 0)) by rw [hwa]; exact alloc_new w _)
 have HE := hI (effective_calls c a n cap hour wa (hi.ext HXA.out) hn2 hfit)
 unfold ClmArg at HE
 obtain ⟨l, hl⟩ : ∃ l, l = effL c.events hour := ⟨_, rfl⟩
 have HLL := hI (show l.length <= n by rw [hl]; have := effL_len c.events hour; have := hi.len; omega)
 unfold EffQ at HE
 rw [<- hl] at HE ⊢
 clear hl hi hfit
 unfold ClmArg
 obtain ⟨b0, b1, b2, b3, b4, b5, b6, bf⟩ := blk7 HB0.out
 go_enter Tryz.func19, Tryz.ntmps19
 go_upto_region 1 with fail
 rw [<- hwa]
 clear hwa
 go_wp2_with fail
 refine HE.out.mono ?_
 rintro r w1 ⟨ra, rn, rc, rfl, hev, hx1⟩
 have HEV := hI hev
 have HX1 := hI (HXA.out.trans hx1)
 have HRN := hI hev.len
 have hrn : rn <= 1000000000000 := by have := HRN.out; have := HLL.out; omega
 clear hev hx1 HE b0 b1 b2 b3 b4 b5 b6 bf HB0 HXA
 go_wp2_with fail
 go_loopw [5, 12] (EffN l rn w1.heap.size w1) (fun _ i _ => rn - (intOf i).toNat)
 case atStart => exact ⟨[], rfl, Nat.zero_le _, rfl, ⟨rfl, Or.inl ⟨rfl, rfl⟩⟩, Ext.refl _⟩
 case round =>
  obtain ⟨f, rfl, hk, hfe, hown, hx⟩ := hrel
  obtain ⟨wo, rfl⟩ : ∃ wo : World, wo = wr := ⟨_, rfl⟩
  obtain ⟨k, hkf⟩ : ∃ k, k = f.length := ⟨_, rfl⟩
  rw [<- hkf] at hown hk hfe ⊢
  have HKF := hI hkf
  have HFE := hI hfe
  have HOWN := hI hown
  have HX := hI hx
  clear hkf hfe hown hx
  by_cases hkn : k < rn
  ·have hkl : k < l.length := by have := HRN.out; omega
   have t1 : decide ((k : Int) < (rn : Int)) = true := decide_eq_true (by omega)
   have HXE := hI (HEV.out.ext HX.out)
   obtain ⟨b, off, v, rfl, hvx, hits, hrow⟩ := HXE.out.at hkl
   obtain ⟨c0, c1, c2, c3, c4, c5, c6⟩ := hrow.seven
   have HVX := hI hvx
   clear hvx hits hrow
   obtain ⟨wb, hwb⟩ : ∃ wb, wb = wo.alloc (.cells #[.int .i64 v.x.number, .int .i64 v.x.known, .int .i64 v.x.kind, .slice v.a v.n v.c, .int .i64 v.x.cur, .int .i64 v.x.amount, .int .i64 v.x.target] 30) := ⟨_, rfl⟩
   have HXB := hI (show Ext wo wb by rw [hwb]; exact (Ext.refl _).alloc _)
   have HBE := hI (show wb.heap[wo.heap.size]? = some (.cells #[.int .i64 v.x.number, .int .i64 v.x.known, .int .i64 v.x.kind, .slice v.a v.n v.c, .int .i64 v.x.cur, .int .i64 v.x.amount, .int .i64 v.x.target] 30 (0, 0)) by rw [hwb]; exact alloc_new wo _)
   go_upto_region 5 with fail
   rw [<- hwb]
   clear hwb c0 c1 c2 c3 c4 c5 c6
   obtain ⟨y0, y1, y2, y3, y4, y5, y6, yf⟩ := blk7 HBE.out
   have HO2 := hI (owns_ext HOWN.out HXB.out)
   have hsz := (HX.out.trans HXB.out).size
   go_wp2_with (at_builtin; refine wpList_append_at elemInts rfl _ _ rfl w1.heap.size _ k _ rfl HO2.out _ 1 1 rfl ?f0 rfl ?f1 ?f2 ?f3 ?f4 ?_)
   case f0 => simp
   case f1 => simp [Value.oneCell']
   case f2 => unfold maxLen; omega
   case f3 => omega
   case f4 => omega
   intro v8 w8 hown8 hc8 hw8
   have HO8 := hI (own_snoc HKF.out hown8)
   have HX8 := hI (hc8.ext (HX.out.trans HXB.out) (fun y hy => (HO2.out.lt y (mem_rowOf.1 hy)).1))
   obtain ⟨a8, c8, hv8⟩ := owns_formG hown8
   subst hv8
   clear hown8 hc8 hw8 y0 y1 y2 y3 y4 y5 y6 yf
   go_wp2_with fail
   go_roundw
   case rel =>
    have e1 : (f ++ [v.x.number]).length = k + 1 := by rw [List.length_append, <- HKF.out]; rfl
    refine ⟨f ++ [v.x.number], by rw [e1]; go_num, by omega, ?_, ?_, HX8.out⟩
    ·rw [e1, List.take_succ_eq_append_getElem hkl, List.map_append, <- HFE.out, <- HVX.out]
     rfl
    exact HO8.out
   case measure => simp [intOf]; omega
  have t1 : decide ((k : Int) < (rn : Int)) = false := decide_eq_false (by omega)
  have hke : k = l.length := by have := HRN.out; omega
  have HQ := hI (show f = l.map (·.number) by have := HFE.out; rwa [hke, List.take_length] at this)
  obtain ⟨fa, fc, e, hints⟩ := ints_own (M := []) (by rw [<- HKF.out]; exact HOWN.out) (fun k _ => by simp)
  subst e
  rw [<- HKF.out] at hints
  have HI := hI hints
  clear hints hke
  go_wp2_with fail
  go_ret
  refine ⟨fa, fc, ?_, ?_, HX1.out.trans HX.out⟩
  ·rw [<- HQ.out, <- HKF.out]; rfl
  rw [<- HQ.out, <- HKF.out]
  exact HI.out.mono (mask_sub _ _)
theorem sameIntsF_calls (l m : ZI) (a : OA) (n c : Nat) (b : OA) (k d : Nat) (w : World) (hl : IsIntF w l a n) (hm : IsIntF w m b k) (hn : n <= 1000000000000000) :
  Calls Tryz.prog 18 #[.slice a n c, .slice b k d] w (GivesD (.bool (decide (l = m))) w) := by
 have HL := hI hl
 have HM := hI hm
 have HNL := hI hl.1
 have HNM := hI hm.1
 clear hl hm
 by_cases hnk : n = k
 ·subst hnk
  have t0 : ((n : Int) != (n : Int)) = false := by simp
  have HLL := hI (show l.length = m.length by rw [<- HNL.out, <- HNM.out])
  go_enter Tryz.func18, Tryz.ntmps18
  go_wp2_with fail
  go_loopw [5] (fun t wr => ∃ j : Nat, t = .int .i64 j /\ j <= n /\ (∀ i (h1 : i < l.length) (h2 : i < m.length), i < j -> l[i] = m[i]) /\ ∃ q, wr = w.drewN q) (fun t _ => n - (intOf t).toNat)
  case atStart => exact ⟨0, rfl, by omega, fun i _ _ h => by omega, 0, rfl⟩
  case round =>
   obtain ⟨j, rfl, hj, hsame, q, rfl⟩ := hrel
   have HS := hI hsame
   clear hsame
   by_cases hjn : j < n
   ·have hj1 : j < l.length := by have := HNL.out; omega
    have hj2 : j < m.length := by have := HNM.out; omega
    obtain ⟨b1, off1, rfl, c1⟩ := HL.out.2 j hj1
    obtain ⟨b2, off2, rfl, c2⟩ := HM.out.2 j hj2
    have t1 : decide ((j : Int) < (n : Int)) = true := by simp; omega
    have ti0 : (0 : Int) <= (j : Int) := by omega
    have ti1 : (j : Int) < (n : Int) := by omega
    cases he : (l[j] != m[j])
    ·have HE := hI he
     go_wp2_with fail
     go_quiet (fail)
     go_wp2_with fail
     go_roundw
     case rel =>
      refine ⟨j + 1, by go_num, by omega, fun i h1 h2 hi => ?_, _, rfl⟩
      by_cases e : i = j
      ·subst e; have := HE.out; simpa using this
      exact HS.out i h1 h2 (by omega)
     case measure => simp [intOf]; omega
    have HF := hI (show decide (l = m) = false by
     rw [decide_eq_false_iff_not]
     intro e
     subst e
     simp at he)
    go_wp2_with fail
    go_quiet (fail)
    go_wp2_with fail
    go_ret
    exact givesD_bool (by rw [HF.out]) ⟨_, drewN_drewN _ _ _⟩
   have t1 : decide ((j : Int) < (n : Int)) = false := by simp; omega
   go_wp2_with fail
   go_ret
   exact givesD_bool (by
    symm
    rw [decide_eq_true_eq]
    refine List.ext_getElem HLL.out fun i h1 h2 => HS.out i h1 h2 ?_
    have := HNL.out
    omega) ⟨q, rfl⟩
 have t0 : ((n : Int) != (k : Int)) = true := by simp; omega
 have HF := hI (show decide (l = m) = false by
  rw [decide_eq_false_iff_not]
  intro e
  subst e
  exact hnk (by rw [HNL.out, HNM.out]))
 go_enter Tryz.func18, Tryz.ntmps18
 go_wp2_with fail
 go_ret
 exact givesD_bool (by rw [HF.out]) ⟨0, rfl⟩
def kev : List EvV := [⟨⟨1, 10, 1, [], 0, 0, 0⟩, none, 0, 0⟩, ⟨⟨2, 20, 3, [], 0, 50, 0⟩, none, 0, 0⟩, ⟨⟨3, 30, 7, [], 0, 0, 2⟩, none, 0, 0⟩]
def kclm : Clm := ⟨1, 1, 1, 0, 0, 0, kev.map (·.x)⟩
theorem kclm_25 : (effL kclm.events 25).map (·.number) = [1, 2] := by decide +kernel
theorem kclm_30 : (effL kclm.events 30).map (·.number) = [1, 3] := by decide +kernel
theorem kclm_ok {attrs : List Attr} (h : schemaErr attrs = 0) : clmErr attrs kclm = 0 := by
 rw [clm_evs h (by decide +kernel) (by decide +kernel)]
 refine evsErr_zero fun j hj => ?_
 have : j = 0 \/ j = 1 \/ j = 2 := by simp [kclm, kev] at hj; omega
 rcases this with rfl | rfl | rfl <;> rfl
theorem kev_fit : ∀ x ∈ kclm.events, fitEv x := by
 intro x hx
 simp only [kclm, kev, List.map_cons, List.map_nil, List.mem_cons, List.mem_nil_iff, or_false] at hx
 rcases hx with rfl | rfl | rfl <;> exact ⟨rfl, rfl⟩
theorem kev_few : ∀ x ∈ kclm.events, fewEv x := by
 intro x hx
 simp only [kclm, kev, List.map_cons, List.map_nil, List.mem_cons, List.mem_nil_iff, or_false] at hx
 rcases hx with rfl | rfl | rfl <;> exact ⟨by simp, fun y h => by simp at h⟩
def GrGZ (wr : World) (_ : ZN) (_ : Nat -> Value) (W : World) : Prop := Ext wr W
theorem ints_two {w : World} {b : Nat} {x y : Int} {t : TypeId} (h : w.heap[b]? = some (.cells #[.int .i64 x, .int .i64 y] t (0, 0))) : IsIntF w [x, y] (some ⟨b, 0, none⟩) 2 := by
 refine ⟨rfl, fun i hi => ⟨b, 0, rfl, ?_⟩⟩
 rw [Nat.zero_add, blk_cell h]
 have : i = 0 \/ i = 1 := by simp at hi; omega
 rcases this with rfl | rfl <;> rfl
theorem kev_is {w : World} {b : Nat} {t : TypeId} (h : w.heap[b]? = some (.cells (kev.flatMap EvV.cells).toArray t (0, 0))) : IsEvs w kclm.events (some ⟨b, 0, none⟩) 3 3 := by
 refine ⟨kev, ⟨rfl, Nat.le_refl _, Or.inr ⟨b, 0, rfl⟩, fun i hi => ⟨b, 0, rfl, fun j hj => ?_⟩⟩, rfl, fun u hu => ?_⟩
 ·have := flatMap_at EvV.cells 7 EvV.len kev i hi j hj
  rw [Nat.zero_add, blk_cell h]
  simpa using this
 simp only [kev, List.mem_cons, List.mem_nil_iff, or_false] at hu
 rcases hu with rfl | rfl | rfl <;> exact IsIts.nil _
def awk18R (w : World) : Nat -> Value -> World -> Prop
 | 0, u, _ => u = .agg #[.int .i64 1, .int .i64 1, .int .i64 1, .int .i64 0, .int .i64 0, .int .i64 0, .slice (some ⟨w.heap.size, 0, none⟩) 3 3]
 | 1, u, W => ∃ (a1 : OA) (d1 : Nat), u = .slice a1 2 d1 /\ IsIntF W [1, 2] a1 2
 | 2, u, W => ∃ (b2 : Nat), u = .slice (some ⟨b2, 0, none⟩) 2 2 /\ W.heap[b2]? = some (.cells #[.int .i64 1, .int .i64 2] 3 (0, 0))
 | 3, u, _ => u = .bool true
 | 4, u, _ => u = .bool true
 | 5, u, _ => u = .agg #[.int .i64 1, .int .i64 1, .int .i64 1, .int .i64 0, .int .i64 0, .int .i64 0, .slice (some ⟨w.heap.size, 0, none⟩) 3 3]
 | 6, u, W => ∃ (a6 : OA) (d6 : Nat), u = .slice a6 2 d6 /\ IsIntF W [1, 3] a6 2
 | 7, u, W => ∃ (b7 : Nat), u = .slice (some ⟨b7, 0, none⟩) 2 2 /\ W.heap[b7]? = some (.cells #[.int .i64 1, .int .i64 3] 3 (0, 0))
 | 8, u, _ => u = .bool true
 | 9, u, _ => u = .bool true
 | 10, u, _ => u = .bool true
 | 11, u, W => ∃ (attrs : List Attr) (va : OA) (vn : Nat) (vc : Nat), u = .agg #[.slice va vn vc] /\ (attrs ∈ schemas /\ IsSchema W attrs (.agg #[.slice va vn vc]))
 | 12, u, _ => u = .agg #[.int .i64 1, .int .i64 1, .int .i64 1, .int .i64 0, .int .i64 0, .int .i64 0, .slice (some ⟨w.heap.size, 0, none⟩) 3 3]
 | 13, u, _ => u = .int .i64 0
 | 14, u, _ => u = .bool true
 | 15, u, _ => u = .bool true
 | _, u, _ => u = .bool true
theorem awake18_calls (w : World) : Calls Tryz.prog 6 #[] w (GivesE (.bool true) w) := by
 obtain ⟨wa, hwa⟩ : ∃ wa, wa = w.alloc (.cells #[.int .i64 1, .int .i64 10, .int .i64 1, .slice none 0 0, .int .i64 0, .int .i64 0, .int .i64 0, .int .i64 2, .int .i64 20, .int .i64 3, .slice none 0 0, .int .i64 0, .int .i64 50, .int .i64 0, .int .i64 3, .int .i64 30, .int .i64 7, .slice none 0 0, .int .i64 0, .int .i64 0, .int .i64 2] 30) := ⟨_, rfl⟩
 have hka : wa.heap[w.heap.size]? = some (.cells (kev.flatMap EvV.cells).toArray 30 (0, 0)) := by rw [hwa]; exact alloc_new w _
 obtain ⟨wb, hwb⟩ : ∃ wb, wb = wa.alloc (.cells #[.int .i64 1, .int .i64 1, .int .i64 1, .int .i64 0, .int .i64 0, .int .i64 0, .slice (some ⟨w.heap.size, 0, none⟩) 3 3] 27) := ⟨_, rfl⟩
 have HXB := hI (show Ext w wb by rw [hwb, hwa]; exact ((Ext.refl _).alloc _).alloc _)
 have HKB := hI (show wb.heap[w.heap.size]? = some (.cells (kev.flatMap EvV.cells).toArray 30 (0, 0)) by rw [hwb]; exact blk_alloc hka)
 obtain ⟨bc, hbc⟩ : ∃ bc, bc = wa.heap.size := ⟨_, rfl⟩
 have HBB := hI (show wb.heap[bc]? = some (.cells #[.int .i64 1, .int .i64 1, .int .i64 1, .int .i64 0, .int .i64 0, .int .i64 0, .slice (some ⟨w.heap.size, 0, none⟩) 3 3] 27 (0, 0)) by rw [hwb, hbc]; exact alloc_new wa _)
 have HEF := hI (fun (h : Int) W (hW : Ext wb W) => effs_calls kclm (some ⟨w.heap.size, 0, none⟩) 3 3 h W (kev_is (hW.blk HKB.out)) (by omega) kev_fit)
 have HSM := hI (fun (l : ZI) a c b W (h1 : IsIntF W l a 2) (h2 : IsIntF W l (some ⟨b, 0, none⟩) 2) => sameIntsF_calls l l a 2 c (some ⟨b, 0, none⟩) 2 2 W h1 h2 (by omega))
 have HVD := hI (fun (attrs : List Attr) (v : Value) W (hW : Ext wb W) (hm : attrs ∈ schemas) (hs : IsSchema W attrs v) => cvalidate_calls attrs v kclm (some ⟨w.heap.size, 0, none⟩) 3 3 W hs (attrs_fits hm) (by have := (schemas_ok attrs hm).2.2; omega) (kev_is (hW.blk HKB.out)) (by omega) kev_few)
 have hwb2 : bc = w.heap.size + 1 := by rw [hbc, hwa]; simp
 obtain ⟨c0, c1, c2, c3, c4, c5, c6, cf⟩ := blk7 HBB.out
 unfold ClmArg kclm at HEF HVD
 dsimp only at HEF HVD
 go_enter Tryz.func6, Tryz.ntmps6
 go_upto_region 2 with fail
 rw [<- hwa, <- hwb, <- hwb2]
 clear hwa hwb hka hbc hwb2
 refine wp_region_growLG (n := 23) (m := 17) [16] (GrGZ wb) GrE (GrP (awk18R w)) (by kernel_rfl) (by kernel_rfl) (Nat.le_of_ble_eq_true rfl) ?gd ((Ext.refl wb).drew) ?_ ?_ ?_
 case gd =>
  intro i o j b hi ho hg
  have hi' : i = 0 \/ i = 1 \/ i = 2 \/ i = 3 \/ i = 4 \/ i = 5 \/ i = 6 \/ i = 7 \/ i = 8 \/ i = 9 \/ i = 10 \/ i = 11 \/ i = 12 \/ i = 13 \/ i = 14 \/ i = 15 \/ i = 16 := by omega
  rcases hi' with rfl | rfl | rfl | rfl | rfl | rfl | rfl | rfl | rfl | rfl | rfl | rfl | rfl | rfl | rfl | rfl | rfl <;> (cases ho; first | (cases hg; done) | (cases hg; intro v W h; exact h))
 ·intro i k v W W' hi hk hne hout h hE
  have hE : Ext W W' := hE
  have hi' : i = 0 \/ i = 1 \/ i = 2 \/ i = 3 \/ i = 4 \/ i = 5 \/ i = 6 \/ i = 7 \/ i = 8 \/ i = 9 \/ i = 10 \/ i = 11 \/ i = 12 \/ i = 13 \/ i = 14 \/ i = 15 \/ i = 16 := by omega
  clear hi hk hne hout
  rcases hi' with rfl | rfl | rfl | rfl | rfl | rfl | rfl | rfl | rfl | rfl | rfl | rfl | rfl | rfl | rfl | rfl | rfl
  ·exact h
  ·obtain ⟨a1, d1, e0, h⟩ := h
   exact ⟨a1, d1, e0, h.mono hE.sub⟩
  ·obtain ⟨b2, e0, h⟩ := h
   exact ⟨b2, e0, hE.blk h⟩
  ·exact h
  ·exact h
  ·exact h
  ·obtain ⟨a6, d6, e0, h⟩ := h
   exact ⟨a6, d6, e0, h.mono hE.sub⟩
  ·obtain ⟨b7, e0, h⟩ := h
   exact ⟨b7, e0, hE.blk h⟩
  ·exact h
  ·exact h
  ·exact h
  ·obtain ⟨attrs, va, vn, vc, e0, h⟩ := h
   exact ⟨attrs, va, vn, vc, e0, ⟨h.1, h.2.mono hE.sub⟩⟩
  ·exact h
  ·exact h
  ·exact h
  ·exact h
  exact h
 ·intro q op hq ho L vs W hqL hcL hW hd ρ hρ
  have hq' : q = 0 \/ q = 1 \/ q = 2 \/ q = 3 \/ q = 4 \/ q = 5 \/ q = 6 \/ q = 7 \/ q = 8 \/ q = 9 \/ q = 10 \/ q = 11 \/ q = 12 \/ q = 13 \/ q = 14 \/ q = 15 \/ q = 16 := by omega
  clear hq
  have o1 : ρ (.tmp 1) = .pointer (some ⟨bc, 0, none⟩) := hρ.out 1 rfl
  have i0 := hρ.i 0 7
  have i1 := hρ.i 1 8
  have i2 := hρ.i 2 9
  have i3 := hρ.i 3 10
  have i5 := hρ.i 5 12
  have i6 := hρ.i 6 13
  have i7 := hρ.i 7 14
  have i4 := hρ.i 4 11
  have i8 := hρ.i 8 15
  have i9 := hρ.i 9 16
  have i11 := hρ.i 11 18
  have i12 := hρ.i 12 19
  have i13 := hρ.i 13 20
  have i10 := hρ.i 10 17
  have i14 := hρ.i 14 21
  have i15 := hρ.i 15 22
  have hc := hρ.const
  have hfn := hρ.func
  clear hρ
  have HG := hI hW
  have HW := hI (show Ext wb W from hW)
  have HQL := hI hqL
  clear hW hqL hcL
  rcases hq' with rfl | rfl | rfl | rfl | rfl | rfl | rfl | rfl | rfl | rfl | rfl | rfl | rfl | rfl | rfl | rfl | rfl
  ·cases ho
   clear hd
   have g0 := HW.out.cell c0
   have g1 := HW.out.cell c1
   have g2 := HW.out.cell c2
   have g3 := HW.out.cell c3
   have g4 := HW.out.cell c4
   have g5 := HW.out.cell c5
   have g6 := HW.out.cell c6
   unfold GivesOp
   go_simp
   exact ⟨Ext.refl _, HW.out, rfl⟩
  ·cases ho
   have h0 : vs 0 = _ := hd ⟨0, .data⟩ (by simp) rfl
   rw [h0] at i0
   clear hd
   unfold GivesOp
   go_simp
   refine (HEF.out 25 W HW.out).mono ?_
   rintro r5 w5 ⟨a5, c5, rfl, hi5, hx5⟩
   have e5 := kclm_25
   unfold kclm at e5
   dsimp only at e5
   rw [e5] at hi5 ⊢
   exact ⟨_, rfl, hx5, HW.out.trans hx5, a5, c5, rfl, hi5⟩
  ·cases ho
   clear hd
   unfold GivesOp
   go_simp
   exact ⟨(Ext.refl W).alloc _, HW.out.alloc _, W.heap.size, rfl, alloc_new W _⟩
  ·cases ho
   obtain ⟨a1, d1, h1, hs1⟩ : ∃ (a1 : OA) (d1 : Nat), vs 1 = .slice a1 2 d1 /\ IsIntF W [1, 2] a1 2 := hd ⟨1, .data⟩ (by simp) rfl
   have HS1 := hI hs1
   clear hs1
   rw [h1] at i1
   obtain ⟨b2, h2, hs2⟩ : ∃ (b2 : Nat), vs 2 = .slice (some ⟨b2, 0, none⟩) 2 2 /\ W.heap[b2]? = some (.cells #[.int .i64 1, .int .i64 2] 3 (0, 0)) := hd ⟨2, .data⟩ (by simp) rfl
   have HS2 := hI hs2
   clear hs2
   rw [h2] at i2
   clear hd
   unfold GivesOp
   go_simp
   refine (HSM.out [1, 2] _ _ _ W HS1.out (ints_two HS2.out)).mono ?_
   rintro r5 w5 ⟨rfl, ⟨m5, rfl⟩⟩
   exact ⟨_, rfl, (Ext.refl W).drewN _, HW.out.trans ((Ext.refl W).drewN _), by rw [decide_eq_true rfl]; rfl⟩
  ·cases ho
   have h3 : vs 3 = _ := hd ⟨3, .data⟩ (by simp) rfl
   rw [h3] at i3
   clear hd
   unfold GivesOp
   go_simp
   exact ⟨Ext.refl _, HW.out, rfl⟩
  ·cases ho
   clear hd
   have g0 := HW.out.cell c0
   have g1 := HW.out.cell c1
   have g2 := HW.out.cell c2
   have g3 := HW.out.cell c3
   have g4 := HW.out.cell c4
   have g5 := HW.out.cell c5
   have g6 := HW.out.cell c6
   unfold GivesOp
   go_simp
   exact ⟨Ext.refl _, HW.out, rfl⟩
  ·cases ho
   have h5 : vs 5 = _ := hd ⟨5, .data⟩ (by simp) rfl
   rw [h5] at i5
   clear hd
   unfold GivesOp
   go_simp
   refine (HEF.out 30 W HW.out).mono ?_
   rintro r5 w5 ⟨a5, c5, rfl, hi5, hx5⟩
   have e5 := kclm_30
   unfold kclm at e5
   dsimp only at e5
   rw [e5] at hi5 ⊢
   exact ⟨_, rfl, hx5, HW.out.trans hx5, a5, c5, rfl, hi5⟩
  ·cases ho
   clear hd
   unfold GivesOp
   go_simp
   exact ⟨(Ext.refl W).alloc _, HW.out.alloc _, W.heap.size, rfl, alloc_new W _⟩
  ·cases ho
   obtain ⟨a6, d6, h6, hs6⟩ : ∃ (a6 : OA) (d6 : Nat), vs 6 = .slice a6 2 d6 /\ IsIntF W [1, 3] a6 2 := hd ⟨6, .data⟩ (by simp) rfl
   have HS6 := hI hs6
   clear hs6
   rw [h6] at i6
   obtain ⟨b7, h7, hs7⟩ : ∃ (b7 : Nat), vs 7 = .slice (some ⟨b7, 0, none⟩) 2 2 /\ W.heap[b7]? = some (.cells #[.int .i64 1, .int .i64 3] 3 (0, 0)) := hd ⟨7, .data⟩ (by simp) rfl
   have HS7 := hI hs7
   clear hs7
   rw [h7] at i7
   clear hd
   unfold GivesOp
   go_simp
   refine (HSM.out [1, 3] _ _ _ W HS6.out (ints_two HS7.out)).mono ?_
   rintro r5 w5 ⟨rfl, ⟨m5, rfl⟩⟩
   exact ⟨_, rfl, (Ext.refl W).drewN _, HW.out.trans ((Ext.refl W).drewN _), by rw [decide_eq_true rfl]; rfl⟩
  ·cases ho
   have h4 : vs 4 = _ := hd ⟨4, .data⟩ (by simp) rfl
   rw [h4] at i4
   have h8 : vs 8 = _ := hd ⟨8, .data⟩ (by simp) rfl
   rw [h8] at i8
   clear hd
   unfold GivesOp
   go_simp
   exact ⟨Ext.refl _, HW.out, rfl⟩
  ·cases ho
   have h9 : vs 9 = _ := hd ⟨9, .data⟩ (by simp) rfl
   rw [h9] at i9
   clear hd
   unfold GivesOp
   go_simp
   exact ⟨Ext.refl _, HW.out, rfl⟩
  ·cases ho
   clear hd
   unfold GivesOp
   go_simp
   refine (schema_calls 0 [] W (by simp)).mono ?_
   rintro r5 w5 ⟨attrs, v5, rfl, hm5, hs5, hx5⟩
   obtain ⟨va, vn, vc, rfl, -⟩ := hs5.slice
   exact ⟨_, rfl, hx5, HW.out.trans hx5, attrs, va, vn, vc, rfl, hm5, hs5.mono (mask_sub _ _)⟩
  ·cases ho
   clear hd
   have g0 := HW.out.cell c0
   have g1 := HW.out.cell c1
   have g2 := HW.out.cell c2
   have g3 := HW.out.cell c3
   have g4 := HW.out.cell c4
   have g5 := HW.out.cell c5
   have g6 := HW.out.cell c6
   unfold GivesOp
   go_simp
   exact ⟨Ext.refl _, HW.out, rfl⟩
  ·cases ho
   obtain ⟨attrs, va, vn, vc, h11, hs11⟩ : ∃ (attrs : List Attr) (va : OA) (vn : Nat) (vc : Nat), vs 11 = .agg #[.slice va vn vc] /\ (attrs ∈ schemas /\ IsSchema W attrs (.agg #[.slice va vn vc])) := hd ⟨11, .data⟩ (by simp) rfl
   have HS11 := hI hs11
   clear hs11
   rw [h11] at i11
   have h12 : vs 12 = _ := hd ⟨12, .data⟩ (by simp) rfl
   rw [h12] at i12
   clear hd
   unfold GivesOp
   go_simp
   refine (HVD.out attrs _ W HW.out HS11.out.1 HS11.out.2).mono ?_
   rintro r5 w5 ⟨rfl, hx5⟩
   have hz := kclm_ok (schema_zero HS11.out.1)
   unfold kclm at hz
   rw [hz]
   exact ⟨_, rfl, hx5, HW.out.trans hx5, rfl⟩
  ·cases ho
   have h13 : vs 13 = _ := hd ⟨13, .data⟩ (by simp) rfl
   rw [h13] at i13
   clear hd
   unfold GivesOp
   go_simp
   exact ⟨Ext.refl _, HW.out, rfl⟩
  ·cases ho
   have h10 : vs 10 = _ := hd ⟨10, .data⟩ (by simp) rfl
   rw [h10] at i10
   have h14 : vs 14 = _ := hd ⟨14, .data⟩ (by simp) rfl
   rw [h14] at i14
   clear hd
   unfold GivesOp
   go_simp
   exact ⟨Ext.refl _, HW.out, rfl⟩
  cases ho
  have h15 : vs 15 = _ := hd ⟨15, .data⟩ (by simp) rfl
  rw [h15] at i15
  clear hd
  unfold GivesOp
  go_simp
  exact ⟨Ext.refl _, HW.out, rfl⟩
 intro L vs W hLm hW hR
 rw [if_pos (by decide +kernel)]
 have h16 : vs 16 = .bool true := hR 16 (by simp) (by omega)
 simp only [acts, dstAt, List.range, List.range.loop, List.foldl_cons, List.foldl_nil, h16]
 go_simp
 have hW2 : Ext wb W := hW
 clear hR hW hLm h16
 have HW2 := hI hW2
 clear hW2
 go_wp2_with fail
 go_ret
 exact givesE_bool rfl (HXB.out.trans HW2.out)
theorem evErr_zero_inv {s : List Attr} {l : List Ev} {x : Ev} (h : evErr s l x = 0) : orderB l x = false /\ (x.kind = 7 -> (l.any fun y => y.number == x.target) = true) := by
 unfold evErr at h
 by_cases h1 : inB 1 1048576 x.number = false \/ inB 0 876599 x.known = false
 ·rw [if_pos h1] at h; cases h
 rw [if_neg h1] at h
 by_cases h2 : orderB l x = true
 ·rw [if_pos h2] at h; cases h
 rw [if_neg h2] at h
 by_cases h3 : inB 1 7 x.kind = false
 ·rw [if_pos h3] at h; cases h
 rw [if_neg h3] at h
 by_cases h4 : fieldB x = true
 ·rw [if_pos h4] at h; cases h
 rw [if_neg h4] at h
 refine ⟨by simpa using h2, fun h7 => ?_⟩
 unfold partErr at h
 rw [if_neg (by omega), if_neg (by omega), if_pos h7] at h
 by_cases h5 : (l.any fun y => y.number == x.target) = true
 ·exact h5
 rw [if_neg h5] at h; cases h
theorem ok_sound {attrs : List Attr} : ∀ (n : Nat) (l : List Ev), l.length = n -> (∀ j (h : j < l.length), evErr attrs (l.take j) l[j] = 0) -> soundEvs [] l = true /\ ∀ z, l.getLast? = some z -> ∀ y ∈ l, y.number <= z.number
 | 0, l, hl, _ => by
  rw [List.eq_nil_of_length_eq_zero hl]
  exact ⟨rfl, fun z h => by simp at h⟩
 | n + 1, l, hl, h => by
  rcases List.eq_nil_or_concat l with rfl | ⟨L, x, rfl⟩
  ·simp at hl
  simp only [List.concat_eq_append] at hl h ⊢
  have hL : L.length = n := by simp at hl; omega
  obtain ⟨ih1, ih2⟩ := ok_sound (attrs := attrs) n L hL (fun j hj => by
   have := h j (by simp; omega)
   rw [List.take_append_of_le_length (by omega), List.getElem_append_left hj] at this
   exact this)
  have hx := h L.length (by simp)
  rw [List.take_append_of_le_length (Nat.le_refl _), List.take_of_length_le (Nat.le_refl _), List.getElem_append_right (Nat.le_refl _)] at hx
  simp only [Nat.sub_self, List.getElem_cons_zero] at hx
  obtain ⟨ho, hv⟩ := evErr_zero_inv hx
  have hlt : ∀ y ∈ L, y.number < x.number := by
   intro y hy
   unfold orderB at ho
   cases hg : L.getLast? with
   | none => rw [List.getLast?_eq_none_iff] at hg; rw [hg] at hy; simp at hy
   | some z =>
    rw [hg] at ho
    simp only [Bool.or_eq_false_iff, decide_eq_false_iff_not] at ho
    have := ih2 z hg y hy
    omega
  refine ⟨?_, fun z hz y hy => ?_⟩
  ·rw [soundEvs_snoc, ih1]
   have h1 : (L.any fun y => y.number == x.number) = false := by
    rw [List.any_eq_false]
    intro y hy
    have := hlt y hy
    simp; omega
   rw [h1]
   by_cases hk : isVoid x = true
   ·have := hv (by unfold isVoid at hk; simpa using hk)
    simp [this]
   simp [hk]
  simp only [List.getLast?_append, List.getLast?_singleton, Option.some_or, Option.some.injEq] at hz
  subst hz
  rcases List.mem_append.1 hy with h' | h'
  ·have := hlt y h'; omega
  simp only [List.mem_singleton] at h'; subst h'; omega
def voidedBy (h n : Int) : List Ev -> Bool
 | [] => false
 | y :: r => (isVoid y && (y.target == n) && (decide (y.known <= h) && !voidedBy h y.number r)) || voidedBy h n r
def countsB (h : Int) (x : Ev) (r : List Ev) : Bool := decide (x.known <= h) && !voidedBy h x.number r
def effFwd (h : Int) : List Ev -> List Ev
 | [] => []
 | x :: r => if countsB h x r = true then x :: effFwd h r else effFwd h r
def vAfter (h : Int) : ZI -> List Ev -> ZI
 | v, [] => v
 | v, x :: r => if h < x.known \/ v.any (· == x.number) = true then vAfter h v r else vAfter h (if isVoid x then x.target :: v else v) r
theorem effGo_append (h : Int) : (a b : List Ev) -> (v : ZI) -> effGo h v (a ++ b) = effGo h v a ++ effGo h (vAfter h v a) b
 | [], b, v => rfl
 | x :: a, b, v => by
  rw [List.cons_append]
  rw [effGo, effGo, vAfter]
  by_cases hc : h < x.known \/ v.any (· == x.number) = true
  ·rw [if_pos hc, if_pos hc, if_pos hc, effGo_append h a b v]
  rw [if_neg hc, if_neg hc, if_neg hc, effGo_append h a b _]
  rfl
theorem vAfter_append (h : Int) : (a b : List Ev) -> (v : ZI) -> vAfter h v (a ++ b) = vAfter h (vAfter h v a) b
 | [], b, v => rfl
 | x :: a, b, v => by
  rw [List.cons_append]
  rw [vAfter, vAfter]
  by_cases hc : h < x.known \/ v.any (· == x.number) = true
  ·rw [if_pos hc, if_pos hc, vAfter_append h a b v]
  rw [if_neg hc, if_neg hc, vAfter_append h a b _]
theorem vAfter_mem (h : Int) : (r : List Ev) -> (n : Int) -> ((vAfter h [] r.reverse).any (· == n) = voidedBy h n r)
 | [], n => rfl
 | y :: r, n => by
  rw [List.reverse_cons, vAfter_append, vAfter, vAfter, vAfter]
  have hy := vAfter_mem h r y.number
  have hn := vAfter_mem h r n
  rw [hy]
  rw [voidedBy]
  by_cases hc : h < y.known \/ voidedBy h y.number r = true
  ·rw [if_pos hc, hn]
   have : (decide (y.known <= h) && !voidedBy h y.number r) = false := by
    rcases hc with hc | hc
    ·simp; omega
    simp [hc]
   rw [this]
   simp
  rw [if_neg hc]
  have h1 : decide (y.known <= h) = true := decide_eq_true (by omega)
  have h2 : voidedBy h y.number r = false := by
   cases hv : voidedBy h y.number r
   ·rfl
   exact absurd (Or.inr hv) hc
  rw [h1, h2]
  cases hv : isVoid y
  ·simp [hn]
  simp [hn]
theorem effGo_fwd (h : Int) : (l : List Ev) -> (effGo h [] l.reverse).reverse = effFwd h l
 | [] => rfl
 | x :: r => by
  rw [List.reverse_cons, effGo_append, List.reverse_append, effGo_fwd h r, effFwd, effGo, effGo, effGo]
  rw [vAfter_mem]
  unfold countsB
  by_cases hc : h < x.known \/ voidedBy h x.number r = true
  ·rw [if_pos hc]
   have : (decide (x.known <= h) && !voidedBy h x.number r) = false := by
    rcases hc with hc | hc
    ·simp; omega
    simp [hc]
   rw [this]
   rfl
  rw [if_neg hc]
  have h1 : decide (x.known <= h) = true := decide_eq_true (by omega)
  have h2 : voidedBy h x.number r = false := by
   cases hv : voidedBy h x.number r
   ·rfl
   exact absurd (Or.inr hv) hc
  rw [h1, h2]
  rfl
theorem effL_fwd {l : List Ev} (hs : soundEvs [] l = true) (h : Int) : effL l h = effFwd h l := by
 unfold effL
 rw [if_pos hs, effGo_fwd]
def itStep (p : Bool × List It) (x : Ev) : Bool × List It := if x.kind = 1 then (true, x.items) else if x.kind = 2 then (p.1, x.items) else p
def itsK (l : List Ev) : Bool × List It := l.foldl itStep (false, [])
theorem itsK_take {l : List Ev} {k : Nat} (hk : k < l.length) : itsK (l.take (k + 1)) = itStep (itsK (l.take k)) l[k] := by
 unfold itsK
 rw [List.take_succ_eq_append_getElem hk, List.foldl_append]
 rfl
theorem itsK_mem : (l : List Ev) -> (p : Bool × List It) -> (l.foldl itStep p).2 = p.2 \/ ∃ x ∈ l, (l.foldl itStep p).2 = x.items
 | [], _ => Or.inl rfl
 | x :: r, p => by
  rw [List.foldl_cons]
  rcases itsK_mem r (itStep p x) with h | ⟨y, hy, h⟩
  ·by_cases h1 : x.kind = 1
   ·refine Or.inr ⟨x, by simp, ?_⟩; rw [h, itStep, if_pos h1]
   by_cases h2 : x.kind = 2
   ·refine Or.inr ⟨x, by simp, ?_⟩; rw [h, itStep, if_neg h1, if_pos h2]
   refine Or.inl ?_; rw [h, itStep, if_neg h1, if_neg h2]
  exact Or.inr ⟨y, by simp [hy], h⟩
def knownL (l : List Ev) : ZI := (l.map (·.known)).foldl addPt []
theorem addPt_end {x : Int} : (f : ZI) -> (∀ y ∈ f, y < x) -> addPt f x = f ++ [x]
 | [], _ => rfl
 | y :: r, h => by
  have hy := h y (by simp)
  rw [addPt, if_neg (by omega), if_neg (by omega), addPt_end r (fun z hz => h z (by simp [hz]))]
  rfl
theorem addPt_last {x : Int} : (f : ZI) -> (∀ y ∈ f, y < x) -> addPt (f ++ [x]) x = f ++ [x]
 | [], _ => by simp [addPt]
 | y :: r, h => by
  have hy := h y (by simp)
  rw [List.cons_append, addPt, if_neg (by omega), if_neg (by omega), addPt_last r (fun z hz => h z (by simp [hz]))]
theorem compact_snoc (zs : ZI) (x : Int) : Lib.compact (zs ++ [x]) = Lib.compact zs ++ (if Lib.keeps (zs ++ [x]).toArray zs.length = true then [x] else []) := by
 unfold Lib.compact
 have hlen : (zs ++ [x]).length = zs.length + 1 := by simp
 rw [hlen, Lib.compactUpTo_succ]
 have e1 : (zs ++ [x]).toArray[zs.length]! = x := by simp
 rw [e1]
 congr 1
 unfold Lib.compactUpTo
 have hk : ∀ j, j < zs.length -> (zs ++ [x]).toArray[j]! = zs.toArray[j]! := fun j hj => by
  rw [getElem!_pos _ _ (by simp; omega), getElem!_pos _ _ (by simpa using hj)]
  simp [List.getElem_append_left hj]
 have hf : (List.range zs.length).filter (Lib.keeps (zs ++ [x]).toArray) = (List.range zs.length).filter (Lib.keeps zs.toArray) := by
  apply List.filter_congr
  intro j hj
  have hj := List.mem_range.1 hj
  unfold Lib.keeps
  rw [hk j hj, hk (j - 1) (by omega)]
 rw [hf]
 apply List.map_congr_left
 intro j hj
 exact hk j (List.mem_range.1 (List.mem_filter.1 hj).1)
theorem compact_add : (n : Nat) -> (zs : ZI) -> zs.length = n -> zs.Pairwise (· <= ·) -> Lib.compact zs = zs.foldl addPt [] /\ ∀ z, zs.getLast? = some z -> ∃ f, Lib.compact zs = f ++ [z] /\ ∀ y ∈ f, y < z
 | 0, zs, hl, _ => by
  rw [List.eq_nil_of_length_eq_zero hl]
  exact ⟨rfl, fun z h => by simp at h⟩
 | n + 1, zs, hl, hp => by
  rcases List.eq_nil_or_concat zs with rfl | ⟨ws, x, rfl⟩
  ·simp at hl
  simp only [List.concat_eq_append] at hl hp ⊢
  have hL : ws.length = n := by simp at hl; omega
  obtain ⟨hp1, _, hp2⟩ := List.pairwise_append.1 hp
  obtain ⟨ih1, ih2⟩ := compact_add n ws hL hp1
  have hle : ∀ y ∈ ws, y <= x := fun y hy => hp2 y hy x (by simp)
  rw [List.foldl_append, <- ih1, compact_snoc]
  rcases List.eq_nil_or_concat ws with rfl | ⟨us, z, rfl⟩
  ·have : Lib.keeps ([] ++ [x]).toArray ([] : ZI).length = true := by simp [Lib.keeps]
   rw [if_pos this]
   refine ⟨rfl, fun z hz => ⟨[], ?_, by simp⟩⟩
   simp at hz
   subst hz
   rfl
  rw [List.concat_eq_append] at *
  obtain ⟨f, hf, hf2⟩ := ih2 z (by simp)
  have hzx : z <= x := hle z (by simp)
  have hlast : (us ++ [z] ++ [x]).toArray[(us ++ [z]).length]! = x := by simp
  have hprev : (us ++ [z] ++ [x]).toArray[(us ++ [z]).length - 1]! = z := by simp
  have hne : (us ++ [z]).length ≠ 0 := by simp
  by_cases he : x = z
  ·have hk : ¬ Lib.keeps (us ++ [z] ++ [x]).toArray (us ++ [z]).length = true := by
    unfold Lib.keeps
    rw [hlast, hprev]
    simp [he]
   rw [if_neg hk, List.append_nil, hf]
   subst he
   refine ⟨(addPt_last f hf2).symm, fun w hw => ?_⟩
   simp at hw
   subst hw
   exact ⟨f, rfl, hf2⟩
  have hk : Lib.keeps (us ++ [z] ++ [x]).toArray (us ++ [z]).length = true := by
   unfold Lib.keeps
   rw [hlast, hprev]
   simp [he]
  have hall : ∀ y ∈ f ++ [z], y < x := by
   intro y hy
   rcases List.mem_append.1 hy with h | h
   ·have := hf2 y h; omega
   simp at h; omega
  rw [if_pos hk, hf]
  refine ⟨(addPt_end (f ++ [z]) hall).symm, fun w hw => ?_⟩
  simp at hw
  subst hw
  exact ⟨f ++ [z], rfl, hall⟩
theorem sorted_compact {l : ZI} (hp : l.Pairwise (· <= ·)) : Lib.compact (l.mergeSort fun x y => decide (x <= y)) = l.foldl addPt [] := by
 have e : l.mergeSort (fun x y => decide (x <= y)) = l := List.mergeSort_of_pairwise (hp.imp (by simp))
 rw [e]
 exact (compact_add _ l rfl hp).1
end Go.Proofs.YtpkljcgihobaiaaGreat
