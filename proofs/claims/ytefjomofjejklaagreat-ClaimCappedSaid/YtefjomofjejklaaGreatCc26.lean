/-
  Texts of the claim, joined: DClm, Made10.
-/
import Derived.Test.YtefjomofjejklaaGreatCc19
namespace Go.Proofs.YtefjomofjejklaaGreat
set_option maxRecDepth 100000
set_option maxHeartbeats 32000000
open Go.RowKit
def EvMade (x : Ev) : Prop := fewEv x /\ 0 <= x.number /\ x.number <= 1000 /\ 0 <= x.target /\ x.target <= 1000 /\ x.known <= 1000
def ClmMade (attrs : List Attr) (id : Int) (c : Clm) : Prop := idsB c = true /\ c.id = id /\ c.events ≠ [] /\ c.events.length <= 7 /\ (∀ j (h : j < c.events.length), evErr attrs (c.events.take j) c.events[j] = 0) /\ (∀ x ∈ c.events, EvMade x)
def DClQ (attrs : List Attr) (w0 : World) (bd : Nat) (M : ZN) (id : Int) (w : World) (e : Ending) (w' : World) : Prop := ∃ (c : Clm) (a : OA) (n cap : Nat), e = .returned (ClmArg c a n cap) /\ ClmMade attrs id c /\ IsEvs (mask w' M) c.events a n cap /\ DeckAt w0 w' bd /\ Chg [bd] w w'
def ClmO (id p r h pe ar : Int) (v : Value) : Obj := .cells #[.int .i64 id, .int .i64 p, .int .i64 r, .int .i64 h, .int .i64 pe, .int .i64 ar, v] 33 (0, 0)
def EvO (v : EvV) : Obj := .cells #[.int .i64 v.x.number, .int .i64 v.x.known, .int .i64 v.x.kind, .slice v.a v.n v.c, .int .i64 v.x.cur, .int .i64 v.x.amount, .int .i64 v.x.target] 71 (0, 0)
theorem ev_zero {attrs : List Attr} {l : List Ev} {x : Ev} (h1 : 1 <= x.number) (h2 : x.number <= 1000) (h3 : 0 <= x.known) (h4 : x.known <= 1000) (hl : ∀ y, l.getLast? = some y -> y.number < x.number /\ y.known <= x.known) (hk : 1 <= x.kind) (hk7 : x.kind <= 7) (hf : fieldB x = false) (hp : partErr attrs l x = 0) : evErr attrs l x = 0 := by
 rw [evErr_part (by unfold inB; simp; omega) (by unfold inB; simp; omega) ?_ (by unfold inB; simp; omega) hf]
 ·exact hp
 unfold orderB
 cases h : l.getLast? with
 | none => rfl
 | some y => have := hl y h; simp; omega
def CutE (attrs : List Attr) (w0 w9 : World) (bd bc : Nat) (M : ZN) (ev : Value) (NM KN : Int) (l : List Ev) (Bx : Nat) (wz : World) : Prop := ∃ u : EvV, wz.heap[Bx]? = some (EvO u) /\ evErr attrs l u.x = 0 /\ EvMade u.x /\ u.x.number = NM /\ u.x.known = KN /\ IsIts (mask wz (Bx :: bd :: rowOf ev ++ (bc :: M))) u.x.items u.a u.n u.c /\ DeckAt w0 wz bd /\ Chg [bd] w9 wz
theorem cutE_plain {attrs : List Attr} {w0 w9 : World} {bd bc : Nat} {M : ZN} {ev : Value} {NM KN : Int} {l : List Ev} {Bx : Nat} {wz : World} {kd cu am tg : Int} (hb : wz.heap[Bx]? = some (.cells #[.int .i64 NM, .int .i64 KN, .int .i64 kd, .slice none 0 0, .int .i64 cu, .int .i64 am, .int .i64 tg] 71 (0, 0)))
  (hl : ∀ y, l.getLast? = some y -> y.number < NM /\ y.known <= KN) (hn : 1 <= NM /\ NM <= 1000) (hk : 0 <= KN /\ KN <= 1000) (k1 : 1 <= kd) (k7 : kd <= 7) (hf : fieldB ⟨NM, KN, kd, [], cu, am, tg⟩ = false) (hp : partErr attrs l ⟨NM, KN, kd, [], cu, am, tg⟩ = 0) (t0 : 0 <= tg) (t1 : tg <= 1000) (hd : DeckAt w0 wz bd) (hc : Chg [bd] w9 wz) : CutE attrs w0 w9 bd bc M ev NM KN l Bx wz :=
 ⟨⟨⟨NM, KN, kd, [], cu, am, tg⟩, none, 0, 0⟩, hb, ev_zero hn.1 hn.2 hk.1 hk.2 hl k1 k7 hf hp, ⟨⟨by simp, fun y hy => by simp at hy⟩, by show 0 <= NM; omega, hn.2, t0, t1, hk.2⟩, rfl, rfl, IsIts.nil _, hd, hc⟩
theorem cutE_items {attrs : List Attr} {w0 w9 : World} {bd bc : Nat} {M : ZN} {ev : Value} {NM KN : Int} {l : List Ev} {Bx : Nat} {wz : World} {kd : Int} {il : List It} {ia : OA} {iln ic : Nat} (hb : wz.heap[Bx]? = some (.cells #[.int .i64 NM, .int .i64 KN, .int .i64 kd, .slice ia iln ic, .int .i64 0, .int .i64 0, .int .i64 0] 71 (0, 0)))
  (hl : ∀ y, l.getLast? = some y -> y.number < NM /\ y.known <= KN) (hn : 1 <= NM /\ NM <= 1000) (hk : 0 <= KN /\ KN <= 1000) (hkd : kd = 1 \/ kd = 2) (hok : ∀ x ∈ il, ItmOk attrs x) (hil : il.length <= 3) (hi : IsIts (mask wz (Bx :: bd :: rowOf ev ++ (bc :: M))) il ia iln ic) (hd : DeckAt w0 wz bd) (hc : Chg [bd] w9 wz) : CutE attrs w0 w9 bd bc M ev NM KN l Bx wz := by
 refine ⟨⟨⟨NM, KN, kd, il, 0, 0, 0⟩, ia, iln, ic⟩, hb, ev_zero hn.1 hn.2 hk.1 hk.2 hl (by show 1 <= kd; omega) (by show kd <= 7; omega) ?_ ?_, ⟨⟨by show il.length <= _; omega, fun y hy => by have := (hok y hy).2; omega⟩, by show 0 <= NM; omega, hn.2, by show (0 : Int) <= 0; omega, by show (0 : Int) <= 1000; omega, hk.2⟩, rfl, rfl, hi, hd, hc⟩
 ·rcases hkd with rfl | rfl <;> simp [fieldB]
 unfold partErr
 rw [if_pos hkd, if_neg (by show ¬ 64 < il.length; omega)]
 exact itsErr_zero fun j hj => (hok _ (List.getElem_mem hj)).1
theorem cash_part {attrs : List Attr} {l : List Ev} {NM KN kd cu am : Int} (hkd : kd = 3 \/ kd = 4) (c0 : 0 <= cu) (c1 : cu < 4) (a0 : 0 <= am) (a1 : am < 1073741824) : partErr attrs l ⟨NM, KN, kd, [], cu, 1 + am, 0⟩ = 0 := by
 unfold partErr
 rw [if_neg (by show ¬ (kd = 1 \/ kd = 2); omega), if_pos hkd]
 unfold cashErr inB
 rw [if_neg (by simp; omega), if_neg (by simp; omega)]
theorem ev_cells {w : World} {base : Nat} {a : OA} {n c : Nat} {vs : List EvV} (h : w.ownsRow base 71 7 (.slice a n c) vs.length (vs.flatMap EvV.cells)) (hp : 0 < vs.length) : ∃ g off, a = some ⟨g, off, none⟩ /\ ∀ (W : World) {bd : Nat}, Chg [bd] w W -> ∀ {r : Nat}, r < vs.length -> bd < base -> ∃ z : Int, W.cell? ⟨g, off + r * 7, none⟩ = some (.int .i64 z) /\ ∃ u ∈ vs, u.x.number = z := by
 have hl : ∀ k, (Value.slice a n c).ownBlock = some k -> base <= k := fun k hk => (h.lt k hk).1
 obtain ⟨a', c', e, hr⟩ := IsRows.of_owns EvV.len h
 obtain ⟨rfl, -, -⟩ : a = a' /\ n = vs.length /\ c = c' := by simpa using e
 obtain ⟨g, off, rfl, hc⟩ := hr.2.2.2 0 hp
 refine ⟨g, off, rfl, fun W bd hW r hr2 hb => ?_⟩
 obtain ⟨g', off', e', hc'⟩ := hr.2.2.2 r hr2
 obtain ⟨rfl, rfl⟩ : g = g' /\ off = off' := by simpa using e'
 have h0 := hc' 0 (by simp [EvV.len])
 refine ⟨vs[r].x.number, ?_, vs[r], List.getElem_mem hr2, rfl⟩
 have hg := hl g rfl
 have := hW.cell h0 (by simp; omega)
 simpa [EvV.cells] using this
structure ClP (attrs : List Attr) (w0 w : World) (bd bc : Nat) (M : ZN) (O : Value -> Obj) (SO RO : Obj) (KN NUM K : Int) (vs : List EvV) (v : Value) (wr : World) : Prop where
 k0 : -1 <= K
 k6 : K <= 6
 len : vs.length + (K + 1) <= 7
 ne : vs = [] -> 0 <= K
 kn0 : 0 <= KN
 kn1 : KN <= 30 + 57 * (6 - K)
 nm0 : 0 <= NUM
 nm1 : NUM <= 2 * (6 - K)
 last : ∀ y, (vs.map (·.x)).getLast? = some y -> y.number <= NUM /\ y.known <= KN
 ok : ∀ j (h : j < (vs.map (·.x)).length), evErr attrs ((vs.map (·.x)).take j) (vs.map (·.x))[j] = 0
 made : ∀ u ∈ vs, EvMade u.x
 own : wr.ownsRow (bc + 1) 71 7 v vs.length (vs.flatMap EvV.cells)
 box : wr.heap[bc]? = some (O v)
 its : ∀ u ∈ vs, IsIts (mask wr (bd :: rowOf v ++ (bc :: M))) u.x.items u.a u.n u.c
 sbox : wr.heap[w.heap.size]? = some SO
 rbox : wr.heap[w.heap.size + 1]? = some RO
 deck : DeckAt w0 wr bd
 chg : Chg [bd] w wr
def put7 (w : World) (B : Nat) (v0 v1 v2 v3 v4 v5 v6 : Value) : World := ((((((w.setCell ⟨B, 0, none⟩ v0).setCell ⟨B, 1, none⟩ v1).setCell ⟨B, 2, none⟩ v2).setCell ⟨B, 3, none⟩ v3).setCell ⟨B, 4, none⟩ v4).setCell ⟨B, 5, none⟩ v5).setCell ⟨B, 6, none⟩ v6
theorem put7_blk {w : World} {B : Nat} {u0 u1 u2 u3 u4 u5 u6 v0 v1 v2 v3 v4 v5 v6 : Value} {t : TypeId} (h : w.heap[B]? = some (.cells #[u0, u1, u2, u3, u4, u5, u6] t (0, 0))) : (put7 w B v0 v1 v2 v3 v4 v5 v6).heap[B]? = some (.cells #[v0, v1, v2, v3, v4, v5, v6] t (0, 0)) := by
 unfold put7
 rw [heap_setCell_same _ _ _ _ _ _ (heap_setCell_same _ _ _ _ _ _ (heap_setCell_same _ _ _ _ _ _ (heap_setCell_same _ _ _ _ _ _ (heap_setCell_same _ _ _ _ _ _ (heap_setCell_same _ _ _ _ _ _ (heap_setCell_same _ _ _ _ _ _ h))))))]
 rfl
theorem put7_chg (w : World) (B : Nat) {v0 v1 v2 v3 v4 v5 v6 : Value} : Chg [B] w (put7 w B v0 v1 v2 v3 v4 v5 v6) := by
 unfold put7
 repeat (with_reducible (refine Chg.setCell ?_ ?_ _))
 exact Chg.refl _ _
 all_goals exact Or.inl (by simp)
theorem evs_own {w W' : World} {base rc n c : Nat} {M N : ZN} {a : OA} {vs : List EvV} (hn : n = vs.length) (h : w.ownsRow base 71 7 (.slice a n c) n (vs.flatMap EvV.cells)) (hcs : Chg [rc] w W') (hrc : rc < base) (hM : ∀ y ∈ M, y < base) (hi : ∀ u ∈ vs, IsIts (mask w N) u.x.items u.a u.n u.c) (hrN : rc ∈ N) (hMN : ∀ y ∈ M, y ∈ N) : IsEvs (mask W' M) (vs.map (·.x)) a n c := by
 have hl : ∀ k, (Value.slice a n c).ownBlock = some k -> base <= k := fun k hk => (h.lt k hk).1
 rw [hn] at h
 obtain ⟨a', c', e, hr⟩ := IsRows.of_owns EvV.len h
 obtain ⟨rfl, -, rfl⟩ : a = a' /\ vs.length = vs.length /\ c = c' := by simpa using e
 refine ⟨vs, ⟨hn, by rw [hn]; exact hr.2.1, hr.2.2.1, fun i hi => ?_⟩, rfl, fun u hu => ((hi u hu).mono (mask_step hcs hrN)).mono (mask_less _ hMN)⟩
 obtain ⟨b, off, rfl, hc⟩ := hr.2.2.2 i hi
 refine ⟨b, off, rfl, fun j hj => ?_⟩
 have hb := hl b rfl
 rw [mask_cell, if_neg (fun hm => by have := hM b hm; omega)]
 exact hcs.cell (hc j hj) (by simp; omega)
theorem ClP.later {attrs : List Attr} {w0 w : World} {bd bc : Nat} {M : ZN} {O : Value -> Obj} {SO RO : Obj} {KN KN' NUM K : Int} {vs : List EvV} {v : Value} {wr wr' : World} (h : ClP attrs w0 w bd bc M O SO RO KN NUM K vs v wr) (hb : bd < w.heap.size) (hbc : bd < bc) (hc : Chg [bd] wr wr') (hd : DeckAt w0 wr' bd) (h1 : KN <= KN') (h2 : KN' <= 30 + 57 * (6 - K)) : ClP attrs w0 w bd bc M O SO RO KN' NUM K vs v wr' :=
 {h with
  kn0 := by have := h.kn0; omega
  kn1 := h2
  last := fun y hy => by have := h.last y hy; omega
  own := owns_chg h.own hc (fun q hq hm => by have := (h.own.lt q hq).1; simp only [List.mem_singleton] at hm; omega)
  box := hc.blk h.box (by simp; omega)
  its := fun u hu => (h.its u hu).mono (mask_step hc (by simp))
  sbox := hc.blk h.sbox (by simp; omega)
  rbox := hc.blk h.rbox (by simp; omega)
  deck := hd
  chg := h.chg.then hc }
theorem own_snocEv {w : World} {base : Nat} {v : Value} {vs : List EvV} {k : Nat} {u : EvV} (hk : k = vs.length) (h : w.ownsRow base 71 7 v (k + 1) (vs.flatMap EvV.cells ++ u.cells)) : w.ownsRow base 71 7 v (vs ++ [u]).length ((vs ++ [u]).flatMap EvV.cells) := by
 have : (vs ++ [u]).length = k + 1 := by simp [hk]
 rw [this]
 simpa using h
theorem evs_snoc {attrs : List Attr} {vs : List EvV} {u : EvV} (h : ∀ j (h : j < (vs.map (·.x)).length), evErr attrs ((vs.map (·.x)).take j) (vs.map (·.x))[j] = 0) (hu : evErr attrs (vs.map (·.x)) u.x = 0) : ∀ j (h : j < ((vs ++ [u]).map (·.x)).length), evErr attrs (((vs ++ [u]).map (·.x)).take j) ((vs ++ [u]).map (·.x))[j] = 0 := by
 intro j hj
 by_cases e : j < vs.length
 ·have := h j (by simpa using e)
  simp only [List.map_append, List.map_cons, List.map_nil] at hj ⊢
  rw [List.take_append_of_le_length (by simp; omega), List.getElem_append_left (by simpa using e)]
  exact this
 have e2 : j = vs.length := by simp at hj; omega
 subst e2
 simp only [List.map_append, List.map_cons, List.map_nil] at hj ⊢
 rw [List.getElem_append_right (by simp)]
 simp only [List.length_map, Nat.sub_self, List.getElem_cons_zero]
 rw [List.take_append_of_le_length (by simp), List.take_of_length_le (by simp)]
 exact hu
def dc20R (bd bc Bx g off vn evc : Nat) (EL : List EvV) : Nat -> Value -> World -> Prop
 | 0, u, _ => u = .pointer (some ⟨bc, 6, none⟩)
 | 1, u, _ => u = .slice (some ⟨g, off, none⟩) vn evc
 | 2, u, _ => u = .pointer (some ⟨bd, 0, none⟩)
 | 3, u, _ => u = .pointer (some ⟨bc, 6, none⟩)
 | 4, u, _ => u = .slice (some ⟨g, off, none⟩) vn evc
 | 5, u, _ => u = .int .i64 ((vn : Nat) : Int)
 | 6, u, _ => ∃ (r : Nat), u = .int .i64 ((r : Nat) : Int) /\ r < vn
 | 7, u, _ => ∃ (r : Nat), u = .pointer (some ⟨g, off + r * 7, none⟩) /\ r < vn
 | 8, u, _ => ∃ (r : Nat), u = .pointer (some ⟨g, off + r * 7, none⟩) /\ r < vn
 | 9, u, _ => ∃ (z : Int), u = .int .i64 z /\ (∃ u ∈ EL, u.x.number = z)
 | _, u, _ => u = .pointer (some ⟨Bx, 6, none⟩)
theorem dclaim_calls {attrs : List Attr} (h0 : schemaErr attrs = 0) (hf : ∀ x ∈ attrs, x.fits) {w0 w : World} {bd : Nat} (hd : DeckAt w0 w bd) (sa : OA) (sn sc : Nat) (M : ZN) (hs : IsSchema (mask w [bd]) attrs (.agg #[.slice sa sn sc])) (hM : ∀ y ∈ M, y < w.heap.size) (id : Int) (hid : 1 <= id) (hid2 : id <= 1048576) :
  Calls Tryz.prog 13 #[.pointer (some ⟨bd, 0, none⟩), .agg #[.slice sa sn sc], .int .i64 id] w (DClQ attrs w0 bd M id w) := by
 have hbw := hd.lt
 have HD := hI hd
 have HM := hI hM
 obtain ⟨M2, hM2⟩ : ∃ M2, M2 = (w.heap.size + 1) :: M := ⟨_, rfl⟩
 have HM2 := hI (show ∀ y ∈ M2, y < w.heap.size + 2 from fun y hy => by rw [hM2] at hy; rcases List.mem_cons.1 hy with h | h; omega; have := hM y h; omega)
 have HMS := hI (show (w.heap.size + 1) ∈ M2 /\ ∀ y ∈ M, y ∈ M2 by rw [hM2]; exact ⟨by simp, fun y hy => by simp [hy]⟩)
 have HIT := hI (fun (M' : ZN) W (hW : Chg [bd] w W) (hdW : DeckAt w0 W bd) (hM' : ∀ y ∈ M', y < W.heap.size) => items_calls h0 hf hdW sa sn sc M' (hs.mono (mask_step hW (by simp))) hM' 3 (by omega))
 have HW0 := hI (show w0.heap.size <= w.heap.size by obtain ⟨_, _, _, _, _, _, _, _, hxw, _⟩ := hd; exact hxw.size)
 clear hs hM hf hd h0 hM2
 obtain ⟨RO, hRO⟩ : ∃ RO, RO = ClmO 0 0 0 0 0 0 (.slice none 0 0) := ⟨_, rfl⟩
 obtain ⟨wa, hwa⟩ : ∃ wa, wa = (w.alloc (.cells #[.slice sa sn sc] 25)).alloc (ClmO 0 0 0 0 0 0 (.slice none 0 0)) := ⟨_, rfl⟩
 have hxa : Ext w wa := by rw [hwa]; exact ((Ext.refl _).alloc _).alloc _
 have HS0 := hI (show wa.heap[w.heap.size]? = some (.cells #[.slice sa sn sc] 25 (0, 0)) by rw [hwa]; exact blk_alloc (alloc_new w _))
 have HR0 := hI (show wa.heap[w.heap.size + 1]? = some RO by
  rw [hwa, hRO]; have := alloc_new (w.alloc (.cells #[.slice sa sn sc] 25)) (ClmO 0 0 0 0 0 0 (.slice none 0 0)); rwa [World.size_alloc] at this)
 have HRO := hI hRO
 have HDA := hI (HD.out.ext hxa)
 have HCA := hI (hxa.chg [bd])
 have hsza := hxa.size
 have hsza2 : w.heap.size + 2 <= wa.heap.size := by rw [hwa]; simp
 clear hxa hRO
 unfold ClmO at hwa
 go_enter Tryz.func13, Tryz.ntmps13
 go_upto_region 1 with fail
 rw [<- hwa]
 clear hwa
 go_wp2_with fail
 refine (range_calls HDA.out 1 3 (by omega) (by omega) (by omega)).mono ?_
 rintro r w1 ⟨pol, rfl, hp0, hp1, hd1, hc1⟩
 have HD1 := hI hd1
 have HC1 := hI (HCA.out.then hc1)
 have HS1 := hI (hc1.blk HS0.out (by simp; omega))
 have HR1 := hI (hc1.blk HR0.out (by simp; omega))
 have hz1 := hc1.size
 clear hd1 hc1 HDA HCA HS0 HR0
 go_wp2_with fail
 refine (range_calls HD1.out 1 4 (by omega) (by omega) (by omega)).mono ?_
 rintro r w2 ⟨rsk, rfl, hr0, hr1, hd2, hc2⟩
 have HD2 := hI hd2
 have HC2 := hI (HC1.out.then hc2)
 have HS2 := hI (hc2.blk HS1.out (by simp; omega))
 have HR2 := hI (hc2.blk HR1.out (by simp; omega))
 have hz2 := hc2.size
 clear hd2 hc2 HD1 HC1 HS1 HR1
 go_wp2_with fail
 refine (next_calls HD2.out 80 (by omega) (by omega)).mono ?_
 rintro r w3 ⟨hr, rfl, hh0, hh1, hd3, hc3⟩
 have HD3 := hI hd3
 have HC3 := hI (HC2.out.then hc3)
 have HS3 := hI (hc3.blk HS2.out (by simp; omega))
 have HR3 := hI (hc3.blk HR2.out (by simp; omega))
 have hz3 := hc3.size
 clear hd3 hc3 HD2 HC2 HS2 HR2
 go_wp2_with fail
 refine (next_calls HD3.out 3 (by omega) (by omega)).mono ?_
 rintro r w4 ⟨pe, rfl, he0, he1, hd4, hc4⟩
 have HD4 := hI hd4
 have HC4 := hI (HC3.out.then hc4)
 have HS4 := hI (hc4.blk HS3.out (by simp; omega))
 have HR4 := hI (hc4.blk HR3.out (by simp; omega))
 have hz4 := hc4.size
 clear hd4 hc4 HD3 HC3 HS3 HR3
 go_wp2_with fail
 refine (next_calls HD4.out 3 (by omega) (by omega)).mono ?_
 rintro r w5 ⟨ar, rfl, ha0, ha1, hd5, hc5⟩
 have HD5 := hI hd5
 have HC5 := hI (HC4.out.then hc5)
 have HS5 := hI (hc5.blk HS4.out (by simp; omega))
 have HR5 := hI (hc5.blk HR4.out (by simp; omega))
 have hz5 := hc5.size
 clear hd5 hc5 HD4 HC4 HS4 HR4
 have HIDS := hI (show ∀ l, idsB ⟨id, pol, rsk, hr, pe, ar, l⟩ = true by intro l; unfold idsB inB; simp; omega)
 go_upto_region 2 with fail
 obtain ⟨wb, hwb⟩ : ∃ wb, wb = w5.alloc (ClmO id pol rsk hr pe ar (.slice none 0 0)) := ⟨_, rfl⟩
 have hxb : Ext w5 wb := by rw [hwb]; exact (Ext.refl _).alloc _
 have HBB := hI (show wb.heap[w5.heap.size]? = some (ClmO id pol rsk hr pe ar (.slice none 0 0)) by rw [hwb]; exact alloc_new w5 _)
 have HDB := hI (HD5.out.ext hxb)
 have HCB := hI (HC5.out.then (hxb.chg [bd]))
 have HSB := hI (hxb.blk HS5.out)
 have HRB := hI (hxb.blk HR5.out)
 obtain ⟨bc, hbc⟩ : ∃ bc, bc = w5.heap.size := ⟨_, rfl⟩
 have hbcl : w.heap.size + 2 <= bc := by have := HC5.out.size; omega
 have hbcd : bd < bc := by omega
 rw [<- hbc] at HBB
 unfold ClmO at hwb
 rw [<- hbc, <- hwb]
 clear hwb hxb hbc HC5 HD5 HS5 HR5
 go_wp2_with fail
 refine (next_calls HDB.out 30 (by omega) (by omega)).mono ?_
 rintro r w6 ⟨kn0, rfl, hn0, hn1, hd6, hc6⟩
 have HD6 := hI hd6
 have HC6 := hI (HCB.out.then hc6)
 have HS6 := hI (hc6.blk HSB.out (by simp; omega))
 have HR6 := hI (hc6.blk HRB.out (by simp; omega))
 have HB6 := hI (hc6.blk HBB.out (by simp; omega))
 clear hd6 hc6 HDB HCB HSB HRB HBB
 go_wp2_with fail
 refine (next_calls HD6.out 7 (by omega) (by omega)).mono ?_
 rintro r w7 ⟨kk, rfl, hk0, hk1, hd7, hc7⟩
 have HD7 := hI hd7
 have HC7 := hI (HC6.out.then hc7)
 have HS7 := hI (hc7.blk HS6.out (by simp; omega))
 have HR7 := hI (hc7.blk HR6.out (by simp; omega))
 have HB7 := hI (hc7.blk HB6.out (by simp; omega))
 have hz7 := hc7.size
 clear hd7 hc7 HD6 HC6 HS6 HR6 HB6
 go_wp2_with fail
 go_loopw [8, 9, 10] (fun kn nm i wr => ∃ (KN NUM K : Int) (vs : List EvV) (v : Value), kn = .int .i64 KN /\ nm = .int .i64 NUM /\ i = .int .i64 K /\ ClP attrs w0 w bd bc M2 (ClmO id pol rsk hr pe ar) (.cells #[.slice sa sn sc] 25 (0, 0)) RO KN NUM K vs v wr) (fun _ _ i _ => (intOf i + 1).toNat)
 case atStart => exact ⟨kn0, 0, kk, [], .slice none 0 0, rfl, rfl, rfl, by omega, by omega, by simp; omega, fun _ => hk0, hn0, by omega, by omega, by omega, fun y hy => by simp at hy, fun j h => by simp at h, fun u h => by simp at h, ⟨rfl, Or.inl ⟨rfl, rfl⟩⟩, HB7.out, fun u h => by simp at h, HS7.out, HR7.out, HD7.out, HC7.out⟩
 case round =>
  obtain ⟨KN, NUM, K, vs, ev, rfl, rfl, rfl, hp⟩ := hrel
  obtain ⟨wo, rfl⟩ : ∃ wo : World, wo = wr := ⟨_, rfl⟩
  have HP := hI hp
  have hkm := hp.k0
  have hk6 := hp.k6
  have hlen := hp.len
  have hkn0 := hp.kn0
  have hkn1 := hp.kn1
  have hnm0 := hp.nm0
  have hnm1 := hp.nm1
  have HBC := hI hp.box
  have hbx := hp.box
  unfold ClmO at hbx
  obtain ⟨b0, b1, b2, b3, b4, b5, b6, bf⟩ := blk7 hbx
  have hlt := blk_lt hbx
  have HSX := hI hp.sbox
  have HRX := hI hp.rbox
  have HDX := hI hp.deck
  have HCX := hI hp.chg
  have hcz := hp.chg.size
  obtain ⟨eva, evc, hev⟩ := owns_formG hp.own
  subst hev
  obtain ⟨vn, hvn⟩ : ∃ vn, vn = vs.length := ⟨_, rfl⟩
  rw [<- hvn] at hlen b6 HBC
  have HVN := hI hvn
  clear hp hbx hvn HD7 HC7 HS7 HR7 HB7
  by_cases hkp : 0 <= K
  case neg =>
   have t1 : decide (0 <= K) = false := decide_eq_false hkp
   have hrx := HRX.out
   rw [HRO.out] at hrx
   have HRX2 := hI hrx
   unfold ClmO at hrx
   obtain ⟨y0, y1, y2, y3, y4, y5, y6, yf⟩ := blk7 hrx
   have hltr := blk_lt hrx
   clear hrx
   go_wp2_with fail
   obtain ⟨wq, hwq⟩ : ∃ wq, wq = put7 wo (w.heap.size + 1) (.int .i64 id) (.int .i64 pol) (.int .i64 rsk) (.int .i64 hr) (.int .i64 pe) (.int .i64 ar) (.slice eva vn evc) := ⟨_, rfl⟩
   have hbq : wq.heap[w.heap.size + 1]? = some (.cells #[.int .i64 id, .int .i64 pol, .int .i64 rsk, .int .i64 hr, .int .i64 pe, .int .i64 ar, .slice eva vn evc] 33 (0, 0)) := by rw [hwq]; exact put7_blk HRX2.out
   have HCS := hI (show Chg [w.heap.size + 1] wo wq by rw [hwq]; exact put7_chg _ _)
   unfold put7 at hwq
   rw [<- hwq]
   clear hwq b0 b1 b2 b3 b4 b5 b6 bf y0 y1 y2 y3 y4 y5 y6 yf
   obtain ⟨z0, z1, z2, z3, z4, z5, z6, zf⟩ := blk7 hbq
   refine bodyPost_ret (v := ClmArg ⟨id, pol, rsk, hr, pe, ar, vs.map (·.x)⟩ eva vn evc) (by simp [results, Tryz.results13, go_sem, ClmArg, z0, z1, z2, z3, z4, z5, z6]) rfl ?_
   have hne : vs ≠ [] := fun h => by have := HP.out.ne h; omega
   refine ⟨_, eva, vn, evc, rfl, ⟨HIDS.out _, rfl, by simpa using hne, by simp only [List.length_map]; rw [<- HVN.out]; omega, HP.out.ok, fun x hx => ?_⟩, ?_, HDX.out.chg HCS.out (by simp; omega) (by simp; have := HW0.out; omega), HCX.out.trans HCS.out (fun y hy => Or.inr (by simp at hy; omega))⟩
   ·obtain ⟨u, hu, rfl⟩ := List.mem_map.1 hx
    exact HP.out.made u hu
   have ho := HP.out.own
   rw [<- HVN.out] at ho
   have hi := HP.out.its
   rw [<- HVN.out] at hi
   exact evs_own HVN.out ho HCS.out (by omega) (fun y hy => by have := HM2.out y (HMS.out.2 y hy); omega) hi (by simp [HMS.out.1]) (fun y hy => by simp [HMS.out.2 y hy])
  have t1 : decide (0 <= K) = true := decide_eq_true hkp
  go_wp2_with fail
  refine (next_calls HDX.out 2 (by omega) (by omega)).mono ?_
  rintro r w8 ⟨q, rfl, hq0, hq1, hd8, hc8⟩
  have HD8 := hI hd8
  have HC8 := hI hc8
  have hz8 := hc8.size
  obtain ⟨NM, hNM⟩ : ∃ NM, NM = NUM + 1 + q := ⟨_, rfl⟩
  have hNM1 : NUM < NM := by omega
  have hNM2 : NM <= NUM + 2 := by omega
  clear hd8 hc8 b0 b1 b2 b3 b4 b5 b6 bf
  go_wp2_with fail
  refine (range_calls HD8.out 1 7 (by omega) (by omega) (by omega)).mono ?_
  rintro r w9 ⟨kd0, rfl, hd0, hd1, hd9, hc9⟩
  have HD9 := hI hd9
  have HC9 := hI (HC8.out.then hc9)
  have hz9 := hc9.size
  clear hd9 hc9 HD8 HC8
  go_upto_region 8 with fail
  rw [<- hNM]
  have hkd0 : 1 <= kd0 /\ kd0 <= 7 := ⟨hd0, by omega⟩
  clear hNM hd0 hd1
  obtain ⟨wx, hwx⟩ : ∃ wx, wx = w9.alloc (.cells #[.int .i64 NM, .int .i64 KN, .int .i64 kd0, .slice none 0 0, .int .i64 0, .int .i64 0, .int .i64 0] 71) := ⟨_, rfl⟩
  rw [<- hwx]
  have hxx : Ext w9 wx := by rw [hwx]; exact (Ext.refl _).alloc _
  have HBX := hI (show wx.heap[w9.heap.size]? = some (.cells #[.int .i64 NM, .int .i64 KN, .int .i64 kd0, .slice none 0 0, .int .i64 0, .int .i64 0, .int .i64 0] 71 (0, 0)) by rw [hwx]; exact alloc_new w9 _)
  obtain ⟨Bx, hBx⟩ : ∃ Bx, Bx = w9.heap.size := ⟨_, rfl⟩
  rw [<- hBx] at HBX ⊢
  have hbxl : bd < Bx := by have := (HCX.out.then HC9.out).size; omega
  have hbxc : bc < Bx := by have := HC9.out.size; omega
  have HDx := hI (HD9.out.ext hxx)
  have HCx := hI (hxx.chg [bd])
  have HBc := hI (fun W (hW : Chg [bd] w9 W) => (HC9.out.then hW).blk HBC.out (by simp; omega))
  have HBx0 := hI (show w9.heap.size <= Bx by omega)
  clear hwx hxx hBx
  have hbcx := HBc.out wx HCx.out
  unfold ClmO at hbcx
  obtain ⟨b0, b1, b2, b3, b4, b5, b6, bf⟩ := blk7 hbcx
  have hlbc := blk_lt hbcx
  clear hbcx
  go_cut [50] (fun s50 wy => ∃ b : Bool, s50 = .bool b /\ DeckAt w0 wy bd /\ Chg [bd] wx wy)
  case first =>
   by_cases hv0 : vn = 0
   ·have t2 : ((vn : Int) == 0) = true := by simp [hv0]
    clear hv0
    go_wp2_with fail
    refine (next_calls HDx.out 8 (by omega) (by omega)).mono ?_
    rintro r w10 ⟨z, rfl, hz0, hz1, hd10, hc10⟩
    have HD10 := hI hd10
    have HC10 := hI hc10
    clear hd10 hc10
    go_wp2_with fail
    go_meet
    case rel => exact ⟨_, rfl, HD10.out, HC10.out⟩
   have t2 : ((vn : Int) == 0) = false := by simp [hv0]
   clear hv0
   go_wp2_with fail
   go_meet
   case rel => exact ⟨false, rfl, HDx.out, Chg.refl _ _⟩
  case rest =>
  obtain ⟨wy, rfl⟩ : ∃ wy : World, wy = wc := ⟨_, rfl⟩
  obtain ⟨bb, rfl, hdy, hcy⟩ := hcut
  have HDy := hI hdy
  have HCy := hI (HCx.out.then hcy)
  have HBy := hI (hcy.blk HBX.out (by simp; omega))
  clear hdy hcy b0 b1 b2 b3 b4 b5 b6 bf hlbc HBX HDx HCx
  go_upto_if 50 with fail
  go_cut [] (fun wz => ∃ kd : Int, 1 <= kd /\ kd <= 7 /\ wz.heap[Bx]? = some (.cells #[.int .i64 NM, .int .i64 KN, .int .i64 kd, .slice none 0 0, .int .i64 0, .int .i64 0, .int .i64 0] 71 (0, 0)) /\ DeckAt w0 wz bd /\ Chg [bd] w9 wz)
  case first =>
   obtain ⟨x0, x1, x2, x3, x4, x5, x6, xf⟩ := blk7 HBy.out
   have hlt0 := blk_lt HBy.out
   cases bb
   ·go_wp2_with fail
    go_meet
    case rel => exact ⟨kd0, hkd0.1, hkd0.2, HBy.out, HDy.out, HCy.out⟩
   go_wp2_with fail
   go_meet
   case rel =>
    have hcs : Chg [Bx] wy (wy.setCell ⟨Bx, 2, none⟩ (.int .i64 1)) := (Chg.refl [Bx] _).setCell (Or.inl (by simp)) (.int .i64 1)
    refine ⟨1, by omega, by omega, ?_, HDy.out.chg hcs (by simp; omega) (by simp; have := HW0.out; have := HCX.out.size; have := HC9.out.size; have := HBx0.out; omega), HCy.out.trans hcs (fun y hy => Or.inr (by simp at hy; have := HBx0.out; omega))⟩
    exact heap_setCell_same _ Bx 2 _ _ (.int .i64 1) HBy.out
  case rest =>
  obtain ⟨wz, rfl⟩ : ∃ wz : World, wz = wc := ⟨_, rfl⟩
  obtain ⟨kd, hkd1, hkd7, hbz, hdz, hcz⟩ := hcut
  have HBz := hI hbz
  have HDz := hI hdz
  have HCz := hI hcz
  clear hbz hdz hcz HBy HDy HCy
  obtain ⟨x0, x1, x2, x3, x4, x5, x6, xf⟩ := blk7 HBz.out
  have hlt0 := blk_lt HBz.out
  go_upto_block 2 with fail
  have HSz := hI ((HC9.out.then HCz.out).blk HSX.out (by simp; omega))
  have HBCz := hI (HBc.out wz HCz.out)
  have HLAST := hI (show ∀ y, (vs.map (·.x)).getLast? = some y -> y.number < NM /\ y.known <= KN from fun y hy => by have := HP.out.last y hy; omega)
  have hNMb : 1 <= NM /\ NM <= 1000 := by omega
  have hKNb : 0 <= KN /\ KN <= 1000 := by omega
  have HBd := hI (show w0.heap.size <= Bx by have := HW0.out; have := HCX.out.size; have := HC9.out.size; have := HBx0.out; omega)
  have HSET := hI (fun (W : World) (j : Nat) (v : Value) (hdW : DeckAt w0 W bd) (hcW : Chg [bd] w9 W) => (show DeckAt w0 (W.setCell ⟨Bx, j, none⟩ v) bd /\ Chg [bd] w9 (W.setCell ⟨Bx, j, none⟩ v) /\ Chg [Bx] W (W.setCell ⟨Bx, j, none⟩ v) from by
   have hcs : Chg [Bx] W (W.setCell ⟨Bx, j, none⟩ v) := (Chg.refl [Bx] _).setCell (Or.inl (by simp)) v
   exact ⟨hdW.chg hcs (by simp; omega) (by simp; exact HBd.out), hcW.trans hcs (fun y hy => Or.inr (by simp at hy; have := HBx0.out; omega)), hcs⟩))
  go_cut [] (CutE attrs w0 w9 bd bc M2 (.slice eva vn evc) NM KN (vs.map (·.x)) Bx)
  case first =>
   obtain ⟨sb0, sbf⟩ := blk1 HSz.out
   rcases (show kd = 1 \/ kd = 2 \/ kd = 3 \/ kd = 4 \/ kd = 5 \/ kd = 6 \/ kd = 7 by omega) with rfl | rfl | rfl | rfl | rfl | rfl | rfl
   ·have hM' : ∀ y ∈ (Bx :: bd :: rowOf (.slice eva vn evc) ++ (bc :: M2)), y < wz.heap.size := by
     intro y hy
     have h1 := HCz.out.size
     have h2 := HC9.out.size
     have h3 := HCX.out.size
     have h4 := blk_lt HBC.out
     simp only [List.cons_append, List.mem_cons, List.mem_append] at hy
     rcases hy with h | h | h | h | h
     ·omega
     ·omega
     ·have := (HP.out.own.lt y (by rw [<- HVN.out]; exact mem_rowOf.1 h)).2; omega
     ·omega
     have := HM2.out y h; omega
    have HI2 := hI (HIT.out _ wz ((HCX.out.then HC9.out).then HCz.out) HDz.out hM')
    clear hM'
    go_wp2_with fail
    refine HI2.out.mono ?_
    rintro r w12 ⟨il, ia, ic, rfl, hok, hil, hits, hd12, hc12⟩
    have HOK := hI hok
    have HITS := hI hits
    have HD12 := hI hd12
    have HC12 := hI (HCz.out.then hc12)
    have HB12 := hI (hc12.blk HBz.out (by simp; omega))
    obtain ⟨iln, hiln⟩ : ∃ iln, iln = il.length := ⟨_, rfl⟩
    rw [<- hiln] at HITS hil ⊢
    have HILN := hI hiln
    clear hok hits hd12 hc12 x0 x1 x2 x3 x4 x5 x6 xf hlt0 sb0 sbf hiln HI2
    obtain ⟨x0, x1, x2, x3, x4, x5, x6, xf⟩ := blk7 HB12.out
    have hlt0 := blk_lt HB12.out
    go_wp2_with fail
    go_meet
    case rel =>
     obtain ⟨g1, g2, g3⟩ := HSET.out w12 3 (.slice ia iln ic) HD12.out HC12.out
     exact cutE_items (kd := 1) (heap_setCell_same _ Bx 3 _ _ (.slice ia iln ic) HB12.out) HLAST.out hNMb hKNb (by omega) HOK.out (by rw [<- HILN.out]; exact hil) (HITS.out.mono (mask_step g3 (by simp))) g1 g2
   ·have hM' : ∀ y ∈ (Bx :: bd :: rowOf (.slice eva vn evc) ++ (bc :: M2)), y < wz.heap.size := by
     intro y hy
     have h1 := HCz.out.size
     have h2 := HC9.out.size
     have h3 := HCX.out.size
     have h4 := blk_lt HBC.out
     simp only [List.cons_append, List.mem_cons, List.mem_append] at hy
     rcases hy with h | h | h | h | h
     ·omega
     ·omega
     ·have := (HP.out.own.lt y (by rw [<- HVN.out]; exact mem_rowOf.1 h)).2; omega
     ·omega
     have := HM2.out y h; omega
    have HI2 := hI (HIT.out _ wz ((HCX.out.then HC9.out).then HCz.out) HDz.out hM')
    clear hM'
    go_wp2_with fail
    refine HI2.out.mono ?_
    rintro r w12 ⟨il, ia, ic, rfl, hok, hil, hits, hd12, hc12⟩
    have HOK := hI hok
    have HITS := hI hits
    have HD12 := hI hd12
    have HC12 := hI (HCz.out.then hc12)
    have HB12 := hI (hc12.blk HBz.out (by simp; omega))
    obtain ⟨iln, hiln⟩ : ∃ iln, iln = il.length := ⟨_, rfl⟩
    rw [<- hiln] at HITS hil ⊢
    have HILN := hI hiln
    clear hok hits hd12 hc12 x0 x1 x2 x3 x4 x5 x6 xf hlt0 sb0 sbf hiln HI2
    obtain ⟨x0, x1, x2, x3, x4, x5, x6, xf⟩ := blk7 HB12.out
    have hlt0 := blk_lt HB12.out
    go_wp2_with fail
    go_meet
    case rel =>
     obtain ⟨g1, g2, g3⟩ := HSET.out w12 3 (.slice ia iln ic) HD12.out HC12.out
     exact cutE_items (kd := 2) (heap_setCell_same _ Bx 3 _ _ (.slice ia iln ic) HB12.out) HLAST.out hNMb hKNb (by omega) HOK.out (by rw [<- HILN.out]; exact hil) (HITS.out.mono (mask_step g3 (by simp))) g1 g2
   ·go_wp2_with fail
    refine (next_calls HDz.out 4 (by omega) (by omega)).mono ?_
    rintro r w12 ⟨cu, rfl, hcu0, hcu1, hd12, hc12⟩
    have HD12 := hI hd12
    have HC12 := hI (HCz.out.then hc12)
    have HB12 := hI (hc12.blk HBz.out (by simp; omega))
    clear hd12 hc12 x0 x1 x2 x3 x4 x5 x6 xf hlt0 sb0 sbf
    go_wp2_with fail
    refine (upto_calls HD12.out 1073741823 (by omega) (by omega)).mono ?_
    rintro r w13 ⟨am, rfl, ham0, ham1, hd13, hc13⟩
    have HD13 := hI hd13
    have HC13 := hI (HC12.out.then hc13)
    have HB13 := hI (hc13.blk HB12.out (by simp; omega))
    clear hd13 hc13
    obtain ⟨x0, x1, x2, x3, x4, x5, x6, xf⟩ := blk7 HB13.out
    have hlt0 := blk_lt HB13.out
    go_wp2_with fail
    go_meet
    case rel =>
     obtain ⟨g1, g2, g3⟩ := HSET.out w13 4 (.int .i64 cu) HD13.out HC13.out
     obtain ⟨g4, g5, g6⟩ := HSET.out _ 5 (.int .i64 (1 + am)) g1 g2
     exact cutE_plain (kd := 3) (cu := cu) (am := 1 + am) (tg := 0) (heap_setCell_same _ Bx 5 _ _ (.int .i64 (1 + am)) (heap_setCell_same _ Bx 4 _ _ (.int .i64 cu) HB13.out)) HLAST.out hNMb hKNb (by omega) (by omega) (by simp [fieldB]) (cash_part (by omega) hcu0 hcu1 ham0 ham1) (by omega) (by omega) g4 g5
   ·go_wp2_with fail
    refine (next_calls HDz.out 4 (by omega) (by omega)).mono ?_
    rintro r w12 ⟨cu, rfl, hcu0, hcu1, hd12, hc12⟩
    have HD12 := hI hd12
    have HC12 := hI (HCz.out.then hc12)
    have HB12 := hI (hc12.blk HBz.out (by simp; omega))
    clear hd12 hc12 x0 x1 x2 x3 x4 x5 x6 xf hlt0 sb0 sbf
    go_wp2_with fail
    refine (upto_calls HD12.out 1073741823 (by omega) (by omega)).mono ?_
    rintro r w13 ⟨am, rfl, ham0, ham1, hd13, hc13⟩
    have HD13 := hI hd13
    have HC13 := hI (HC12.out.then hc13)
    have HB13 := hI (hc13.blk HB12.out (by simp; omega))
    clear hd13 hc13
    obtain ⟨x0, x1, x2, x3, x4, x5, x6, xf⟩ := blk7 HB13.out
    have hlt0 := blk_lt HB13.out
    go_wp2_with fail
    go_meet
    case rel =>
     obtain ⟨g1, g2, g3⟩ := HSET.out w13 4 (.int .i64 cu) HD13.out HC13.out
     obtain ⟨g4, g5, g6⟩ := HSET.out _ 5 (.int .i64 (1 + am)) g1 g2
     exact cutE_plain (kd := 4) (cu := cu) (am := 1 + am) (tg := 0) (heap_setCell_same _ Bx 5 _ _ (.int .i64 (1 + am)) (heap_setCell_same _ Bx 4 _ _ (.int .i64 cu) HB13.out)) HLAST.out hNMb hKNb (by omega) (by omega) (by simp [fieldB]) (cash_part (by omega) hcu0 hcu1 ham0 ham1) (by omega) (by omega) g4 g5
   ·go_wp2_with fail
    go_meet
    case rel => exact cutE_plain (kd := 5) (cu := 0) (am := 0) (tg := 0) HBz.out HLAST.out hNMb hKNb (by omega) (by omega) (by simp [fieldB]) (by simp [partErr]) (by omega) (by omega) HDz.out HCz.out
   ·go_wp2_with fail
    go_meet
    case rel => exact cutE_plain (kd := 6) (cu := 0) (am := 0) (tg := 0) HBz.out HLAST.out hNMb hKNb (by omega) (by omega) (by simp [fieldB]) (by simp [partErr]) (by omega) (by omega) HDz.out HCz.out
   by_cases hv0 : vn = 0
   ·have t2 : ((vn : Int) == 0) = true := by simp [hv0]
    have hbc2 := HBCz.out
    unfold ClmO at hbc2
    obtain ⟨b0, b1, b2, b3, b4, b5, b6, bf⟩ := blk7 hbc2
    have hlbc := blk_lt hbc2
    clear hv0 hbc2
    go_wp2_with fail
    go_meet
    case rel =>
     obtain ⟨g1, g2, g3⟩ := HSET.out wz 2 (.int .i64 5) HDz.out HCz.out
     exact cutE_plain (kd := 5) (cu := 0) (am := 0) (tg := 0) (heap_setCell_same _ Bx 2 _ _ (.int .i64 5) HBz.out) HLAST.out hNMb hKNb (by omega) (by omega) (by simp [fieldB]) (by simp [partErr]) (by omega) (by omega) g1 g2
   have t2 : ((vn : Int) == 0) = false := by simp [hv0]
   have HVP := hI (show 0 < vn by omega)
   clear hv0
   have hbc2 := HBCz.out
   unfold ClmO at hbc2
   obtain ⟨b0, b1, b2, b3, b4, b5, b6, bf⟩ := blk7 hbc2
   have hlbc := blk_lt hbc2
   clear hbc2
   obtain ⟨g, off, hea, HCELL⟩ := ev_cells HP.out.own (by rw [<- HVN.out]; exact HVP.out)
   have HCELL2 := hI (fun W (hW : Chg [bd] w9 W) r (hr : r < vn) => HCELL W (bd := bd) (HC9.out.then hW) (by rw [<- HVN.out]; exact hr) (by omega))
   obtain ⟨EL, hEL⟩ : ∃ EL, EL = vs := ⟨_, rfl⟩
   rw [<- hEL] at HCELL2
   have HPA := hI (show ∀ z : Int, (∃ u ∈ EL, u.x.number = z) -> partErr attrs (vs.map (·.x)) ⟨NM, KN, 7, [], 0, 0, z⟩ = 0 /\ 0 <= z /\ z <= 1000 by
    rintro z ⟨u, hu, huz⟩
    rw [hEL] at hu
    have hmu := HP.out.made u hu
    refine ⟨?_, by rw [<- huz]; exact hmu.2.1, by rw [<- huz]; exact hmu.2.2.1⟩
    unfold partErr
    rw [if_neg (by simp), if_neg (by simp), if_pos rfl, if_pos]
    rw [List.any_eq_true]
    exact ⟨u.x, List.mem_map.2 ⟨u, hu, rfl⟩, by simp [huz]⟩)
   clear HCELL hEL
   subst hea
   go_upto_region 20 with fail
   refine wp_region_grow (m := 11) [9, 10] (GnG w0 wz bd) (GnE bd) (GrP (dc20R bd bc Bx g off vn evc EL)) (by kernel_rfl) (by kernel_rfl) ⟨HDz.out.ext ((Ext.refl wz).drew), ((Ext.refl wz).drew).chg _⟩ ?_ ?_ ?_
   ·intro i k v W W' hi hk hne hout h hE
    have hE : Chg [bd] W W' := hE
    have hi' := ltc11 hi
    clear hi hk hne hout
    rcases hi' with rfl | rfl | rfl | rfl | rfl | rfl | rfl | rfl | rfl | rfl | rfl
    ·exact h
    ·exact h
    ·exact h
    ·exact h
    ·exact h
    ·exact h
    ·obtain ⟨r, e0, h⟩ := h
     exact ⟨r, e0, h⟩
    ·obtain ⟨r, e0, h⟩ := h
     exact ⟨r, e0, h⟩
    ·obtain ⟨r, e0, h⟩ := h
     exact ⟨r, e0, h⟩
    ·obtain ⟨z, e0, h⟩ := h
     exact ⟨z, e0, h⟩
    exact h
   ·intro q op hq ho vs W hW hd ρ hρ
    have hq' := ltc11 hq
    clear hq
    have o7 : ρ (.tmp 7) = .pointer (some ⟨bc, 0, none⟩) := hρ.out 7 rfl
    have i0 := hρ.i 0 78
    have o0 : ρ (.tmp 0) = .pointer (some ⟨bd, 0, none⟩) := hρ.out 0 rfl
    have i3 := hρ.i 3 81
    have i4 := hρ.i 4 82
    have i2 := hρ.i 2 80
    have i5 := hρ.i 5 83
    have i1 := hρ.i 1 79
    have i6 := hρ.i 6 84
    have i7 := hρ.i 7 85
    have i8 := hρ.i 8 86
    have o11 : ρ (.tmp 11) = .pointer (some ⟨Bx, 0, none⟩) := hρ.out 11 rfl
    have hc := hρ.const
    have hfn := hρ.func
    clear hρ
    have HW := hI (show DeckAt w0 W bd /\ Chg [bd] wz W from hW)
    rcases hq' with rfl | rfl | rfl | rfl | rfl | rfl | rfl | rfl | rfl | rfl | rfl
    ·cases ho
     clear hd
     unfold GivesOp
     go_simp
     exact ⟨Chg.refl _ _, rfl⟩
    ·cases ho
     have h0 : vs 0 = _ := hd ⟨0, .data⟩ (by simp) rfl
     rw [h0] at i0
     clear hd
     have g6 := (blk7 (HW.out.2.blk HBCz.out (by simp; omega))).2.2.2.2.2.2.1
     unfold GivesOp
     go_simp
     exact ⟨Chg.refl _ _, rfl⟩
    ·cases ho
     clear hd
     unfold GivesOp
     go_simp
     exact ⟨Chg.refl _ _, rfl⟩
    ·cases ho
     clear hd
     unfold GivesOp
     go_simp
     exact ⟨Chg.refl _ _, rfl⟩
    ·cases ho
     have h3 : vs 3 = _ := hd ⟨3, .data⟩ (by simp) rfl
     rw [h3] at i3
     clear hd
     have g6 := (blk7 (HW.out.2.blk HBCz.out (by simp; omega))).2.2.2.2.2.2.1
     unfold GivesOp
     go_simp
     exact ⟨Chg.refl _ _, rfl⟩
    ·cases ho
     have h4 : vs 4 = _ := hd ⟨4, .data⟩ (by simp) rfl
     rw [h4] at i4
     clear hd
     unfold GivesOp
     go_simp
     exact ⟨Chg.refl _ _, rfl⟩
    ·cases ho
     have h2 : vs 2 = _ := hd ⟨2, .data⟩ (by simp) rfl
     rw [h2] at i2
     have h5 : vs 5 = _ := hd ⟨5, .data⟩ (by simp) rfl
     rw [h5] at i5
     clear hd
     unfold GivesOp
     go_simp
     refine (next_calls HW.out.1 ((vn : Nat) : Int) (by have := HVP.out; omega) (by omega)).mono ?_
     rintro e5 w5 ⟨z, rfl, hz0, hz1, hd5, hc5⟩
     obtain ⟨r, rfl⟩ : ∃ r : Nat, z = r := ⟨z.toNat, by omega⟩
     exact ⟨_, rfl, hc5, ⟨hd5, HW.out.2.then hc5⟩, r, rfl, by omega⟩
    ·cases ho
     have h1 : vs 1 = _ := hd ⟨1, .data⟩ (by simp) rfl
     rw [h1] at i1
     obtain ⟨r, h6, hs6⟩ : ∃ (r : Nat), vs 6 = .int .i64 ((r : Nat) : Int) /\ r < vn := hd ⟨6, .data⟩ (by simp) rfl
     have HS6 := hI hs6
     clear hs6
     rw [h6] at i6
     clear hd
     have r0 : (0 : Int) <= ((r : Nat) : Int) := by omega
     have r1 : ((r : Nat) : Int) < ((vn : Nat) : Int) := by have := HS6.out; omega
     unfold GivesOp
     go_simp
     exact ⟨Chg.refl _ _, r, rfl, HS6.out⟩
    ·cases ho
     obtain ⟨r, h7, hs7⟩ : ∃ (r : Nat), vs 7 = .pointer (some ⟨g, off + r * 7, none⟩) /\ r < vn := hd ⟨7, .data⟩ (by simp) rfl
     have HS7 := hI hs7
     clear hs7
     rw [h7] at i7
     clear hd
     unfold GivesOp
     go_simp
     exact ⟨Chg.refl _ _, r, rfl, HS7.out⟩
    ·cases ho
     obtain ⟨r, h8, hs8⟩ : ∃ (r : Nat), vs 8 = .pointer (some ⟨g, off + r * 7, none⟩) /\ r < vn := hd ⟨8, .data⟩ (by simp) rfl
     have HS8 := hI hs8
     clear hs8
     rw [h8] at i8
     clear hd
     obtain ⟨z, hz, hzz⟩ : ∃ z : Int, W.cell? ⟨g, off + r * 7, none⟩ = some (.int .i64 z) /\ ∃ u ∈ EL, u.x.number = z := HCELL2.out W (HCz.out.then HW.out.2) r HS8.out
     unfold GivesOp
     go_simp
     exact ⟨Chg.refl _ _, z, rfl, hzz⟩
    cases ho
    clear hd
    unfold GivesOp
    go_simp
    exact ⟨Chg.refl _ _, rfl⟩
   intro vs W hW hR
   rw [if_neg (by decide +kernel)]
   obtain ⟨z, h9, hs9⟩ : ∃ (z : Int), vs 9 = .int .i64 z /\ (∃ u ∈ EL, u.x.number = z) := hR 9 (by simp) (by omega)
   have HS9 := hI hs9
   clear hs9
   have h10 : vs 10 = .pointer (some ⟨Bx, 6, none⟩) := hR 10 (by simp) (by omega)
   obtain ⟨y0, y1, y2, y3, y4, y5, y6, yf⟩ := blk7 (hW.2.blk HBz.out (by simp; omega))
   have hlty := blk_lt (hW.2.blk HBz.out (by simp; omega))
   refine wpOp_lastG rfl ?_
   change wpList _ _ _ [⟨none, .store _ (.tmp 88) (.tmp 87), _, _, _, none⟩] _ _
   simp only [acts, dstAt, List.range, List.range.loop, List.foldl_cons, List.foldl_nil, h9, h10]
   go_simp
   have hW2 : DeckAt w0 W bd /\ Chg [bd] wz W := hW
   clear hR hW h9 h10
   have HW2 := hI hW2
   clear hW2
   go_wp2_with fail
   go_meet
   case rel =>
    obtain ⟨g1, g2, g3⟩ := HSET.out W 6 (.int .i64 z) HW2.out.1 (HCz.out.then HW2.out.2)
    obtain ⟨q1, q2, q3⟩ := HPA.out z HS9.out
    exact cutE_plain (kd := 7) (cu := 0) (am := 0) (tg := z) (heap_setCell_same _ Bx 6 _ _ (.int .i64 z) (HW2.out.2.blk HBz.out (by simp; omega))) HLAST.out hNMb hKNb (by omega) (by omega) (by simp [fieldB]) q1 q2 q3 g1 g2
  case rest =>
  obtain ⟨w20, rfl⟩ : ∃ w20 : World, w20 = wc := ⟨_, rfl⟩
  obtain ⟨u, hbu, herr, hmade, hnum, hkn, hits, hd20, hc20⟩ := hcut
  have HBU := hI hbu
  have HERR := hI herr
  have HMADE := hI hmade
  have HNUM := hI hnum
  have HKN := hI hkn
  have HITS := hI hits
  have HD20 := hI hd20
  have HC20 := hI (HC9.out.then hc20)
  have HBC20 := hI ((HC9.out.then hc20).blk HBC.out (by simp; omega))
  have HO20 := hI (show w20.ownsRow (bc + 1) 71 7 (.slice eva vn evc) vn (vs.flatMap EvV.cells) by
   have := owns_chg HP.out.own (HC9.out.then hc20) (fun q hq hm => by have := (HP.out.own.lt q hq).1; simp only [List.mem_singleton] at hm; omega)
   rwa [<- HVN.out] at this)
  have HITO := hI (show ∀ u ∈ vs, IsIts (mask w20 (bd :: rowOf (.slice eva vn evc) ++ (bc :: M2))) u.x.items u.a u.n u.c from fun u hu => by
   have := HP.out.its u hu
   rw [<- HVN.out] at this
   exact this.mono (mask_step (HC9.out.then hc20) (by simp)))
  have hz20 := (HC9.out.then hc20).size
  have hl20 := blk_lt HBC20.out
  have HRO := hI (show ∀ z ∈ rowOf (.slice eva vn evc), bc + 1 <= z /\ z < w20.heap.size from fun z hz => ⟨(HO20.out.lt z (mem_rowOf.1 hz)).1, (HO20.out.lt z (mem_rowOf.1 hz)).2⟩)
  clear hbu herr hmade hnum hkn hits hd20 hc20 x0 x1 x2 x3 x4 x5 x6 xf hlt0 HSET HLAST HCz HDz HBz HSz HBCz
  have hbc2 := HBC20.out
  unfold ClmO at hbc2
  obtain ⟨b0, b1, b2, b3, b4, b5, b6, bf⟩ := blk7 hbc2
  have hbu2 := HBU.out
  unfold EvO at hbu2
  obtain ⟨x0, x1, x2, x3, x4, x5, x6, xf⟩ := blk7 hbu2
  have hlt0 := blk_lt hbu2
  clear hbc2 hbu2
  go_wp2_with (at_builtin; refine wpList_append_at elemEv rfl _ _ rfl (bc + 1) _ vn _ rfl HO20.out _ 1 1 rfl (by simp) rfl (by simp [Value.oneCell']) (by unfold maxLen; omega) (by omega) (by omega) ?_)
  intro v8 w8 hown8 hc8 hw8
  have hnb : bd ∉ rowOf (.slice eva vn evc) := fun hm => by have := (HRO.out _ hm).1; omega
  have hnc : bc ∉ rowOf (.slice eva vn evc) := fun hm => by have := (HRO.out _ hm).1; omega
  have HO8 := hI (own_snocEv (u := u) HVN.out (by simpa [EvV.cells] using hown8))
  have HB8 := hI (hc8.blk HBC20.out hnc)
  have HKP := hI (keep_rows (bd := bd) (M := bc :: M2) hc8 hw8)
  have HRO8 := hI (show ∀ z ∈ rowOf v8, bc + 1 <= z from fun z hz => (HO8.out.lt z (mem_rowOf.1 hz)).1)
  have HD8 := hI (HD20.out.chg hc8 hnb (fun y hy => by have := (HRO.out _ hy).1; have := HW0.out; omega))
  have HC8 := hI ((HCX.out.then HC20.out).trans hc8 (fun y hy => Or.inr (by have := (HRO.out _ hy).1; omega)))
  have HS8 := hI (hc8.blk (HC20.out.blk HSX.out (by simp; omega)) (fun hm => by have := (HRO.out _ hm).1; omega))
  have HR8 := hI (hc8.blk (HC20.out.blk HRX.out (by simp; omega)) (fun hm => by have := (HRO.out _ hm).1; omega))
  have hcs : Chg [bc] w8 (w8.setCell ⟨bc, 6, none⟩ v8) := (Chg.refl [bc] _).setCell (Or.inl (by simp)) v8
  have hvl : (vs ++ [u]).length = vn + 1 := by rw [List.length_append, <- HVN.out]; rfl
  have HQ := hI (show ClP attrs w0 w bd bc M2 (ClmO id pol rsk hr pe ar) (.cells #[.slice sa sn sc] 25 (0, 0)) RO KN NM (K - 1) (vs ++ [u]) v8 (w8.setCell ⟨bc, 6, none⟩ v8) from
   {k0 := by omega, k6 := by omega, len := by rw [hvl]; omega, ne := fun h => by simp at h, kn0 := hkn0, kn1 := by omega, nm0 := by omega, nm1 := by omega
    last := fun y hy => by
     simp only [List.map_append, List.map_cons, List.map_nil, List.getLast?_append, List.getLast?_singleton, Option.some_or, Option.some.injEq] at hy
     subst hy
     exact ⟨by rw [HNUM.out]; omega, by rw [HKN.out]; omega⟩
    ok := evs_snoc HP.out.ok HERR.out
    made := fun y hy => by
     rcases List.mem_append.1 hy with h | h
     ·exact HP.out.made y h
     simp only [List.mem_singleton] at h; subst h; exact HMADE.out
    own := owns_chg HO8.out hcs (fun q hq hm => by have := (HO8.out.lt q hq).1; simp only [List.mem_singleton] at hm; omega)
    box := heap_setCell_same w8 bc 6 _ _ v8 HB8.out
    its := fun y hy => by
     rcases List.mem_append.1 hy with h | h
     ·exact (HITO.out y h).mono (HKP.out.trans (mask_step hcs (by simp)))
     simp only [List.mem_singleton] at h
     subst h
     exact (HITS.out.mono (mask_less _ (fun z hz => by simp at hz ⊢; rcases hz with h | h | h | h <;> simp [h]))).mono (HKP.out.trans (mask_step hcs (by simp)))
    sbox := hcs.blk HS8.out (by simp; omega)
    rbox := hcs.blk HR8.out (by simp; omega)
    deck := HD8.out.chg hcs (by simp; omega) (fun y hy => by simp at hy; have := HW0.out; omega)
    chg := HC8.out.trans hcs (fun y hy => Or.inr (by simp at hy; omega)) })
  obtain ⟨a8, c8, hv8⟩ := owns_formG hown8
  subst hv8
  have hl8 := blk_lt HB8.out
  have hb8 := HB8.out
  unfold ClmO at hb8
  obtain ⟨y0, y1, y2, y3, y4, y5, y6, yf⟩ := blk7 hb8
  clear hown8 hc8 hw8 hcs hvl hb8 b0 b1 b2 b3 b4 b5 b6 bf x0 x1 x2 x3 x4 x5 x6 xf hlt0
  go_upto_region 22 with fail
  obtain ⟨wq, hwq⟩ : ∃ wq, wq = w8.setCell ⟨bc, 6, none⟩ (.slice a8 (vn + 1) c8) := ⟨_, rfl⟩
  rw [<- hwq] at HQ ⊢
  clear hwq y0 y1 y2 y3 y4 y5 y6 yf
  go_wp2_with fail
  refine (next_calls HQ.out.deck 4 (by omega) (by omega)).mono ?_
  rintro r w21 ⟨r1, rfl, hr10, hr11, hd21, hc21⟩
  have HD21 := hI hd21
  have HC21 := hI hc21
  clear hd21 hc21
  go_wp2_with fail
  refine (next_calls HD21.out 20 (by omega) (by omega)).mono ?_
  rintro r w22 ⟨r2, rfl, hr20, hr21, hd22, hc22⟩
  obtain ⟨pr, hpr⟩ : ∃ pr, pr = r1 * r2 := ⟨_, rfl⟩
  have hpr0 : 0 <= pr := by rw [hpr]; exact Int.mul_nonneg hr10 hr20
  have hpr1 : pr <= 57 := by rw [hpr]; exact Int.le_trans (Int.mul_le_mul (show r1 <= 3 by omega) (show r2 <= 19 by omega) hr20 (by omega)) (by omega)
  have HLT := hI (HQ.out.later (KN' := KN + pr) hbw hbcd (HC21.out.then hc22) hd22 (by omega) (by omega))
  have hw1 : wrap64 (r1 * r2) = pr := by rw [<- hpr]; exact IntWalk.wrap64_in _ (by omega)
  clear hd22 hc22 hpr
  go_wp2_with fail
  try rw [hw1]
  go_roundw
  case rel => exact ⟨KN + pr, NM, K - 1, vs ++ [u], _, by go_num, rfl, by go_num, HLT.out⟩
  case measure => simp [intOf]; omega
theorem new_callsB (la : OA) (ln lc : Nat) (w0 w : World) (h : IntsAt w0 la ln) (hx : Ext w0 w) (hl : ln <= 1000000000000000) : Calls Tryz.prog 10 #[.slice la ln lc] w (fun e w' => ∃ bd, e = .returned (.pointer (some ⟨bd, 0, none⟩)) /\ DeckAt w0 w' bd /\ Ext w w' /\ w.heap.size <= bd) := by
 have HX := hI hx
 clear hx
 go_enter Tryz.func10, Tryz.ntmps10
 go_wp2_with fail
 go_ret
 exact ⟨w.heap.size, rfl, ⟨la, ln, lc, 0, alloc_new w _, by omega, hl, h, HX.out.trans ((Ext.refl w).alloc _), HX.out.size⟩, (Ext.refl w).alloc _, Nat.le_refl _⟩
end Go.Proofs.YtefjomofjejklaaGreat
