/-
  Texts of the claim, joined: Awk12, DWri, DTrm.
-/
import Derived.Test.YtefjomofjejklaaGreatDoorDt24
namespace Go.Proofs.YtefjomofjejklaaGreatDoor
set_option maxRecDepth 100000
set_option maxHeartbeats 32000000
open Go.RowKit Go.Maps
def sch0 : List Attr := [aPeril, ⟨⟨#[115, 116, 111, 114, 101, 121, 115]⟩, 2, [], 1, 9⟩, ⟨⟨#[97, 108, 97, 114, 109]⟩, 3, [], 0, 0⟩]
def exF : Ex := .mk 4 ⟨#[112, 101, 114, 105, 108]⟩ [⟨#[102, 105, 114, 101]⟩] 0 0 []
def clF : Cla := ⟨2, ⟨#[102, 105, 114, 101]⟩, exF, [], 0⟩
def Sch0Q (w : World) (e : Ending) (w' : World) : Prop := ∃ v, e = .returned v /\ IsSchema w' sch0 v /\ Ext w w'
theorem within0_at (x n r : Int) (w : World) (hn : 0 < n) (hn2 : n <= 1000000000000000000) (hr : (x.tmod n + n).tmod n = r) : Calls Tryz.prog 16 #[.int .i64 x, .int .i64 n] w (fun e w' => e = .returned (.int .i64 r) /\ w' = w) := by
 go_enter Tryz.func16, Tryz.ntmps16
 go_wp2_with fail
 go_ret
 have a1 := Int.tmod_lt_of_pos x hn
 have a5 := Int.lt_tmod_of_pos x hn
 rw [IntWalk.wrap64_in (x.tmod n + n) (by omega), hr]
 exact ⟨rfl, rfl⟩
theorem schema0_calls (w : World) : Calls Tryz.prog 26 #[.int .i64 0] w (Sch0Q w) := by
 go_enter Tryz.func26, Tryz.ntmps26
 go_wp2_with fail
 refine (within0_at 0 6 0 _ (by omega) (by omega) (by decide)).mono ?_
 rintro e w' ⟨rfl, rfl⟩
 go_wp2_with fail
 refine (peril_calls _).mono ?_
 rintro e w' ⟨g, rfl, hp, hx, hgn⟩
 simp at hgn
 have hwz := hx.size
 simp at hwz
 have hb := hx.blk (alloc_new w _)
 have hlt := blk_lt hb
 have c0 := blk_cell hb 0
 have cf := blk_free hb
 simp at c0
 have HX := hI (((Ext.refl w).alloc _).trans hx)
 have HP := hI hp
 clear hx hb hp
 go_wp2_with fail
 refine bodyPost_ret (v := .agg #[.slice (some ⟨w'.heap.size, 0, none⟩) 3 3]) (by simp [results, Tryz.results26, go_sem, c0, hlt]) rfl ?_
 refine ⟨_, rfl, ?_, (HX.out.setAbove (by simp) _).alloc _⟩
 refine isSchema_block (avs := [⟨aPeril, some ⟨g, 0, none⟩, 4, 4⟩, ⟨⟨⟨#[115, 116, 111, 114, 101, 121, 115]⟩, 2, [], 1, 9⟩, none, 0, 0⟩, ⟨⟨⟨#[97, 108, 97, 114, 109]⟩, 3, [], 0, 0⟩, none, 0, 0⟩]) (t := 101) ?_ rfl ?_
 ·simpa [AttrV.cells, aPeril] using alloc_new (w'.setCell ⟨w.heap.size, 0, none⟩ (.slice (some ⟨w'.heap.size, 0, none⟩) 3 3)) (.cells #[.string aPeril.name, .int .i64 1, .slice (some ⟨g, 0, none⟩) 4 4, .int .i64 0, .int .i64 0, .string ⟨#[115, 116, 111, 114, 101, 121, 115]⟩, .int .i64 2, .slice none 0 0, .int .i64 1, .int .i64 9, .string ⟨#[97, 108, 97, 114, 109]⟩, .int .i64 3, .slice none 0 0, .int .i64 0, .int .i64 0] 101)
 intro v hv
 simp only [List.mem_cons, List.not_mem_nil, or_false] at hv
 rcases hv with rfl | rfl | rfl
 ·exact isStrs_set HP.out (by omega) _ _
 ·exact isStrs_nil _
 exact isStrs_nil _
theorem awk12_cla : claErr sch0 [clF] 0 = 0 := by
 unfold claErr
 rw [if_neg (by decide +kernel), if_neg (by decide +kernel), if_neg (by decide +kernel), if_neg (by decide +kernel)]
 show backsErr sch0 [clF] [] = 0
 rw [backsErr]
theorem awk12_lg : claLarge [clF] 0 = 0 := by
 unfold claLarge
 rw [if_neg]
 rintro (h | h)
 ·exact absurd h (by decide +kernel)
 have h2 : backsLarge [clF] [] = true := h
 rw [backsLarge] at h2
 cases h2
theorem awk12_cls : (clausesErr sch0 [clF]).2 = 0 := by
 have h1 : firstI (claErr sch0 [clF]) [clF].length = (0, 0) := firstI_zero _ fun j hj => by
  obtain rfl : j = 0 := by simp at hj; omega
  exact awk12_cla
 have h2 : firstI (claLarge [clF]) [clF].length = (0, 0) := firstI_zero _ fun j hj => by
  obtain rfl : j = 0 := by simp at hj; omega
  exact awk12_lg
 unfold clausesErr
 rw [if_neg (by decide +kernel), if_neg (by decide), h1, if_neg (by simp), if_neg (by
  rw [Classical.not_not]
  refine ⟨[], List.nodup_nil, fun i => ⟨fun h => by simp at h, fun h => ?_⟩, fun k i h => by simp at h⟩
  have h1 := isDef_lt h
  obtain rfl : i = 0 := by simp at h1; omega
  exact absurd h (by decide)), h2]
theorem awk12_vd (V : Ex -> Bool) : vdB V [clF] = if V exF = true then ⟨4, -1, 0, 0, 0, false⟩ else ⟨1, 0, 0, 0, 0, false⟩ := by
 have hw : wbsV V [] = false := by rw [wbsV]
 cases h : V exF <;> simp [vdB, someB, claV, clF, hw, h, limK, limS, greatK, greatS]
theorem awk12_err (f : ZI) (h : factsB sch0 f = true) : decErr sch0 [clF] f = 0 := by
 unfold decErr
 rw [if_neg (by rw [awk12_cls]; decide), if_neg (by simp [h])]
theorem awk12_in : decD sch0 [clF] [0, 1, 0] = ⟨4, -1, 0, 0, 0, false⟩ := by
 unfold decD
 rw [if_pos (awk12_err _ (by decide +kernel)), awk12_vd, if_pos (by decide +kernel)]
theorem awk12_out : decD sch0 [clF] [1, 1, 0] = ⟨1, 0, 0, 0, 0, false⟩ := by
 unfold decD
 rw [if_pos (awk12_err _ (by decide +kernel)), awk12_vd, if_neg (by decide +kernel)]
theorem sch0_fits : ∀ x ∈ sch0, x.fits := by
 intro x hx
 simp only [sch0, List.mem_cons, List.not_mem_nil, or_false] at hx
 rcases hx with rfl | rfl | rfl <;> refine ⟨by decide, by simp [aPeril], fun x hx => ?_⟩ <;> simp [aPeril] at hx
 rcases hx with rfl | rfl | rfl | rfl <;> decide
theorem clF_fit : ∀ x ∈ [clF], x.fit := by
 intro x hx
 obtain rfl := List.mem_singleton.1 hx
 refine ⟨by decide, ?_, ?_, ?_, by simp [clF], by unfold clF wbFits; trivial⟩
 ·simp [clF, exF, Ex.fits, fitsAll]; decide
 ·simp [clF, exF, Ex.few, fewAll]
 simp [clF, exF, Ex.slim, slimAll]
theorem awake12_calls (w : World) (ho : HasOps w) : Calls Tryz.prog 12 #[] w (GivesE (.bool true) w) := by
 have HO := hI ho
 clear ho
 go_enter Tryz.func12, Tryz.ntmps12
 go_wp2_with fail
 refine (schema0_calls w).mono ?_
 rintro r w1 ⟨sv, rfl, hs, hx1⟩
 obtain ⟨sa, sn, sc, rfl, -⟩ := hs.slice
 have HS := hI hs
 have HX1 := hI hx1
 clear hs hx1
 go_upto_region 2 with fail
 obtain ⟨w2, hw2⟩ : ∃ w2, w2 = w1.alloc (.cells #[.slice sa sn sc] 24) := ⟨_, rfl⟩
 obtain ⟨b1, hb1⟩ : ∃ b1 : Nat, b1 = w1.heap.size := ⟨_, rfl⟩
 have HX2 := hI (show Ext w1 w2 by rw [hw2]; exact (Ext.refl _).alloc _)
 have HB1 := hI (show w2.heap[b1]? = some (.cells #[.slice sa sn sc] 24 (0, 0)) by rw [hw2, hb1]; exact alloc_new w1 _)
 rw [<- hw2, <- hb1]
 clear hw2 hb1
 go_upto_region 3 with fail
 obtain ⟨w3, hw3⟩ : ∃ w3, w3 = (w2.alloc (.cells #[.string ⟨#[102, 105, 114, 101]⟩] 9)).alloc (.cells #[.int .i64 2, .string ⟨#[102, 105, 114, 101]⟩, .int .i64 4, .string ⟨#[112, 101, 114, 105, 108]⟩, .slice (some ⟨w2.heap.size, 0, none⟩) 1 1, .int .i64 0, .int .i64 0, .slice none 0 0, .slice none 0 0, .int .i64 0] 48) := ⟨_, rfl⟩
 obtain ⟨y, hy⟩ : ∃ y : Nat, y = w2.heap.size := ⟨_, rfl⟩
 have hx3 : Ext w2 w3 := by rw [hw3]; exact ((Ext.refl _).alloc _).alloc _
 have HCL := hI (show IsClas w3 [clF] (some ⟨y + 1, 0, none⟩) 1 1 from isCla_one (v := ⟨2, ⟨#[102, 105, 114, 101]⟩, ⟨4, ⟨#[112, 101, 114, 105, 108]⟩, some ⟨y, 0, none⟩, 1, 1, 0, 0, none, 0, 0⟩, none, 0, 0, 0⟩) (t := 48) (by rw [hw3, hy]; exact alloc_atR (by simp)) ⟨rfl, rfl, isEx_words (isStrs_block (l := [⟨#[102, 105, 114, 101]⟩]) (t := 9) (by rw [hw3, hy]; exact blk_alloc (alloc_new w2 _)) rfl) 4 0 0 _, rfl, Nat.le_refl _, Or.inl ⟨rfl, rfl⟩, by unfold clF WbsD; trivial, rfl⟩)
 rw [<- hw3, <- hy]
 have HX3 := hI (HX2.out.trans hx3)
 have HB13 := hI (hx3.blk HB1.out)
 clear hw3 hy hx3
 obtain ⟨e0, ef⟩ := blk1 HB13.out
 obtain ⟨w4, hw4⟩ : ∃ w4, w4 = w3.alloc (.cells #[.int .i64 0, .int .i64 1, .int .i64 0] 3) := ⟨_, rfl⟩
 have hx4 : Ext w3 w4 := by rw [hw4]; exact (Ext.refl _).alloc _
 have HPC := hI (decide_calls sch0 [clF] [0, 1, 0] (.agg #[.slice sa sn sc]) (some ⟨y + 1, 0, none⟩) 1 1 (some ⟨w3.heap.size, 0, none⟩) 3 3 w4 (HS.out.ext (HX3.out.trans hx4)) sch0_fits (by simp [sch0]) (HCL.out.ext hx4) (by omega) clF_fit (by rw [hw4]; exact isIntF_new rfl) (by omega) (HO.out.ext (HX1.out.trans (HX3.out.trans hx4))))
 unfold decV at HPC
 rw [awk12_in, awk12_err _ (by decide +kernel)] at HPC
 unfold Dec.cells at HPC
 have HX4 := hI (HX1.out.trans (HX3.out.trans hx4))
 have HB14 := hI (hx4.blk HB13.out)
 have HC4 := hI (HCL.out.ext hx4)
 have HS4 := hI (HS.out.ext (HX3.out.trans hx4))
 clear hx4
 go_wp2_with fail
 rw [<- hw4]
 clear hw4 e0 ef HB13 HCL HS HX3 HX1
 refine HPC.out.mono ?_
 rintro r w5 ⟨rfl, hx5⟩
 go_upto_region 4 with fail
 obtain ⟨w6, hw6⟩ : ∃ w6, w6 = w5.alloc (.cells #[.int .i64 4, .int .i64 (-1), .int .i64 0, .int .i64 0, .int .i64 0, .bool false] 29) := ⟨_, rfl⟩
 have hx6 : Ext w5 w6 := by rw [hw6]; exact (Ext.refl _).alloc _
 obtain ⟨b2, hb2⟩ : ∃ b2 : Nat, b2 = w5.heap.size := ⟨_, rfl⟩
 have HD6 := hI (show w6.heap[b2]? = some (.cells #[.int .i64 4, .int .i64 (-1), .int .i64 0, .int .i64 0, .int .i64 0, .bool false] 29 (0, 0)) by rw [hw6, hb2]; exact alloc_new w5 _)
 rw [<- hw6, <- hb2]
 have HX6 := hI (HX4.out.trans (hx5.trans hx6))
 have HB6 := hI ((hx5.trans hx6).blk HB14.out)
 have HC6 := hI (HC4.out.ext (hx5.trans hx6))
 have HS6 := hI (HS4.out.ext (hx5.trans hx6))
 clear hw6 hb2 hx6 hx5 HPC HX4 HB14 HC4 HS4
 obtain ⟨e0, ef⟩ := blk1 HB6.out
 obtain ⟨w7, hw7⟩ : ∃ w7, w7 = w6.alloc (.cells #[.int .i64 1, .int .i64 1, .int .i64 0] 3) := ⟨_, rfl⟩
 have hx7 : Ext w6 w7 := by rw [hw7]; exact (Ext.refl _).alloc _
 have HPD := hI (decide_calls sch0 [clF] [1, 1, 0] (.agg #[.slice sa sn sc]) (some ⟨y + 1, 0, none⟩) 1 1 (some ⟨w6.heap.size, 0, none⟩) 3 3 w7 (HS6.out.ext hx7) sch0_fits (by simp [sch0]) (HC6.out.ext hx7) (by omega) clF_fit (by rw [hw7]; exact isIntF_new rfl) (by omega) (HO.out.ext (HX6.out.trans hx7)))
 unfold decV at HPD
 rw [awk12_out, awk12_err _ (by decide +kernel)] at HPD
 unfold Dec.cells at HPD
 have HX7 := hI (HX6.out.trans hx7)
 have HD7 := hI (hx7.blk HD6.out)
 clear hx7
 go_wp2_with fail
 rw [<- hw7]
 clear hw7 e0 ef
 refine HPD.out.mono ?_
 rintro r w8 ⟨rfl, hx8⟩
 go_upto_region 5 with fail
 obtain ⟨w9, hw9⟩ : ∃ w9, w9 = w8.alloc (.cells #[.int .i64 1, .int .i64 0, .int .i64 0, .int .i64 0, .int .i64 0, .bool false] 29) := ⟨_, rfl⟩
 have hx9 : Ext w8 w9 := by rw [hw9]; exact (Ext.refl _).alloc _
 obtain ⟨b3, hb3⟩ : ∃ b3 : Nat, b3 = w8.heap.size := ⟨_, rfl⟩
 have HD9 := hI (show w9.heap[b3]? = some (.cells #[.int .i64 1, .int .i64 0, .int .i64 0, .int .i64 0, .int .i64 0, .bool false] 29 (0, 0)) by rw [hw9, hb3]; exact alloc_new w8 _)
 rw [<- hw9, <- hb3]
 have HX9 := hI (HX7.out.trans (hx8.trans hx9))
 have HE9 := hI ((hx8.trans hx9).blk HD7.out)
 clear hw9 hb3 hx9 hx8
 obtain ⟨d0, d1, d2, d3, d4, d5, df⟩ := blk6d HE9.out
 obtain ⟨g0, g1, g2, g3, g4, g5, gf⟩ := blk6d HD9.out
 go_wp2_with fail
 go_ret
 exact givesE_bool rfl HX9.out
theorem rows_flat {w : World} {b off n c : Nat} {vs : List ClV} (h : IsRows w 10 ClV.cells vs (some ⟨b, off, none⟩) n c) : ∀ j (hj : j < (vs.flatMap ClV.cells).length), w.cell? ⟨b, off + j, none⟩ = some (vs.flatMap ClV.cells)[j] := by
 intro j hj
 have hl := length_flatMap_of ClV.cells 10 (fun _ => rfl) vs
 have hi : j / 10 < vs.length := by omega
 have hr : j % 10 < (vs[j / 10]).cells.length := by have : (vs[j / 10]).cells.length = 10 := rfl; omega
 obtain ⟨b', off', e, hc⟩ := h.2.2.2 (j / 10) hi
 simp only [Option.some.injEq, Addr.mk.injEq, and_true] at e
 obtain ⟨rfl, rfl⟩ := e
 have h1 := hc (j % 10) hr
 have h2 := flatMap_at ClV.cells 10 (fun _ => rfl) vs (j / 10) hi (j % 10) hr
 have e1 : j / 10 * 10 + j % 10 = j := by omega
 rw [e1, List.getElem?_eq_getElem hj] at h2
 rw [Nat.add_assoc, e1] at h1
 rw [h1, <- h2]
theorem cla_one (vs : List ClV) : ∀ u ∈ vs.flatMap ClV.cells, u.oneCell' = true := by
 intro u hu
 obtain ⟨v, _, hv⟩ := List.mem_flatMap.1 hu
 simp only [ClV.cells, List.mem_cons, List.not_mem_nil, or_false] at hv
 rcases hv with rfl | rfl | rfl | rfl | rfl | rfl | rfl | rfl | rfl | rfl <;> rfl
theorem more_clas {w W : World} {base n : Nat} {a : OA} {c : Nat} {l : List Cla} {vs : List ClV} {x : Cla} {v : ClV} (ho : W.ownsRow base 48 10 (.slice a n c) n ((vs ++ [v]).flatMap ClV.cells)) (hn : n = (vs ++ [v]).length) (hl : l.length = vs.length) (hx : Ext w W) (hc : ∀ i (h1 : i < l.length) (h2 : i < vs.length), IsCla w l[i] vs[i]) (hv : IsCla w x v) : IsClas W (l ++ [x]) a n c := by
 have hR : ClasR w (l ++ [x]) (vs ++ [v]) := ClasR.snoc ⟨hl, hc⟩ hv
 have hln : n = (l ++ [x]).length := by rw [hn, hR.1]
 subst hln
 obtain ⟨a', c', e, h⟩ := clas_owns (M := []) ho (by simp) (hR.mono (hx.sub.trans (to_mask_nil _)))
 simp only [Value.slice.injEq, true_and] at e
 obtain ⟨rfl, rfl⟩ := e
 exact h.mono (mask_sub _ _)
theorem arr6 {c : Array Value} (h : c.size = 6) : ∃ v0 v1 v2 v3 v4 v5, c = #[v0, v1, v2, v3, v4, v5] := by
 obtain ⟨l⟩ := c
 match l, h with
 | [v0, v1, v2, v3, v4, v5], _ => exact ⟨v0, v1, v2, v3, v4, v5, rfl⟩
theorem more_decide {w : World} {s : List Attr} {l : List Cla} {f : ZI} {v : W12} (h : IsW12 w s l f v) (ho : HasOps w) {x : Cla} (hx : x.fit) (h0 : decErr s (l ++ [x]) f = 0) {D : Dec} (hD : decD s (l ++ [x]) f = D) : ∀ W, Ext w W -> ∀ (a : OA) (n c : Nat), n = l.length + 1 -> IsClas W (l ++ [x]) a n c ->
  Calls Tryz.prog 13 #[.agg #[.slice v.sa v.sn v.sc], .slice a n c, .slice v.fa v.fn v.fc] W (GivesE (.tuple #[.agg D.cells, .int .i64 0]) W) := by
 intro W hW a n c hn hc
 have h1 := decide_calls s (l ++ [x]) f (.agg #[.slice v.sa v.sn v.sc]) a n c v.fa v.fn v.fc W (h.sch.ext hW) (attrs_fits h.mem) (by have := (schema_attrs (schema_zero h.mem)).2.1; omega) hc (by have := h.len; omega) (fun y hy => by
  rcases List.mem_append.1 hy with hy | hy
  ·exact h.cfit y hy
  rw [List.mem_singleton.1 hy]; exact hx) (h.ints.ext hW) (by rw [h.ints.1, factsAll_len h.facts]; have := (schemas_ok s h.mem).2.2; omega) (ho.ext hW)
 unfold decV at h1
 rw [h0, hD] at h1
 exact h1
def ErD (base : Nat) (W W' : World) : Prop := ∃ N, Chg N W W' /\ ∀ k ∈ N, base <= k /\ ∀ cs t, W.heap[k]? = some (.cells cs t (0, 0)) -> cs.size = 10 -> ∃ cs', W'.heap[k]? = some (.cells cs' t (0, 0)) /\ cs'.size = 10
theorem ErD.refl (base : Nat) (W : World) : ErD base W W := ⟨[], Chg.refl _ _, fun k hk => by simp at hk⟩
theorem ErD.of {base : Nat} {W W' : World} (h : Ext W W') : ErD base W W' := ⟨[], h.chg [], fun k hk => by simp at hk⟩
theorem ErD.ext {w W W' : World} (h : Ext w W) (he : ErD w.heap.size W W') : Ext w W' := by
 obtain ⟨N, hc, hN⟩ := he
 exact hc.ext h fun y hy => (hN y hy).1
theorem ErD.shape {base : Nat} {W W' : World} (h : ErD base W W') {g : Nat} {cs : Array Value} {t : TypeId} (hg : W.heap[g]? = some (.cells cs t (0, 0))) (h10 : cs.size = 10) : ∃ cs', W'.heap[g]? = some (.cells cs' t (0, 0)) /\ cs'.size = 10 := by
 obtain ⟨N, hc, hN⟩ := h
 by_cases hm : g ∈ N
 ·exact (hN g hm).2 cs t hg h10
 exact ⟨cs, hc.blk hg hm, h10⟩
theorem sub_maskN {w W : World} {M : ZN} (hx : Ext w W) (hM : ∀ y ∈ M, w.heap.size <= y) : Sub w (mask W M) := fun p v hp => by
 have hl := block_lt hp
 rw [mask_cell, if_neg (fun hm => by have := hM _ hm; omega)]
 exact hx.sub p v hp
theorem ErD.size {base : Nat} {W W' : World} (h : ErD base W W') : W.heap.size <= W'.heap.size := by
 obtain ⟨N, hc, _⟩ := h
 exact hc.size
theorem sub_mask1 {W : World} {g : Nat} (h : W.heap.size <= g) : Sub W (mask W [g]) := fun p v hp => by
 have hl := block_lt hp
 rw [mask_cell, if_neg (fun hm => by rw [List.mem_singleton.1 hm] at hl; omega)]
 exact hp
theorem mask_ext1 {W W' : World} {g : Nat} (h : Ext W W') : Sub (mask W [g]) (mask W' [g]) := mask_grow (h.chg []) (by simp)
theorem cla_apart {W : World} {c : Cla} {v : ClV} {n : Nat} (h : IsCla (mask W (List.range n)) c v) (g : Nat) (hg : g < n \/ W.heap.size <= g) : IsCla (mask W [g]) c v := by
 rcases hg with hg | hg
 ·exact h.mono (mask_less _ (by simp [hg]))
 exact (h.mono (mask_sub _ _)).mono (sub_mask1 hg)
theorem arr10 {c : Array Value} (h : c.size = 10) : ∃ v0 v1 v2 v3 v4 v5 v6 v7 v8 v9, c = #[v0, v1, v2, v3, v4, v5, v6, v7, v8, v9] := by
 obtain ⟨l⟩ := c
 match l, h with
 | [v0, v1, v2, v3, v4, v5, v6, v7, v8, v9], _ => exact ⟨v0, v1, v2, v3, v4, v5, v6, v7, v8, v9, rfl⟩
def put10v (w : World) (B : Nat) (v0 v1 v2 v3 v4 v5 v6 v7 v8 v9 : Value) : World := (((((((((w.setCell ⟨B, 0, none⟩ v0).setCell ⟨B, 1, none⟩ v1).setCell ⟨B, 2, none⟩ v2).setCell ⟨B, 3, none⟩ v3).setCell ⟨B, 4, none⟩ v4).setCell ⟨B, 5, none⟩ v5).setCell ⟨B, 6, none⟩ v6).setCell ⟨B, 7, none⟩ v7).setCell ⟨B, 8, none⟩ v8).setCell ⟨B, 9, none⟩ v9
theorem put10v_blk {w : World} {B : Nat} {u0 u1 u2 u3 u4 u5 u6 u7 u8 u9 v0 v1 v2 v3 v4 v5 v6 v7 v8 v9 : Value} {t : TypeId} (h : w.heap[B]? = some (.cells #[u0, u1, u2, u3, u4, u5, u6, u7, u8, u9] t (0, 0))) : (put10v w B v0 v1 v2 v3 v4 v5 v6 v7 v8 v9).heap[B]? = some (.cells #[v0, v1, v2, v3, v4, v5, v6, v7, v8, v9] t (0, 0)) := by
 unfold put10v
 rw [heap_setCell_same _ _ _ _ _ _ (heap_setCell_same _ _ _ _ _ _ (heap_setCell_same _ _ _ _ _ _ (heap_setCell_same _ _ _ _ _ _ (heap_setCell_same _ _ _ _ _ _ (heap_setCell_same _ _ _ _ _ _ (heap_setCell_same _ _ _ _ _ _ (heap_setCell_same _ _ _ _ _ _ (heap_setCell_same _ _ _ _ _ _ (heap_setCell_same _ _ _ _ _ _ h)))))))))]
 simp
theorem put10v_chg (w : World) (B : Nat) {v0 v1 v2 v3 v4 v5 v6 v7 v8 v9 : Value} : Chg [B] w (put10v w B v0 v1 v2 v3 v4 v5 v6 v7 v8 v9) := by
 unfold put10v
 repeat (with_reducible (refine Chg.setCell ?_ ?_ _))
 exact Chg.refl _ _
 all_goals exact Or.inl (by simp)
theorem dterms_calls (da : OA) (dn dc : Nat) (ma : OA) (mn mc : Nat) (kd : Int) (w : World) (h1 : IntsAt w da dn) (hdn : dn <= 1000000000000000) (h2 : IntsAt w ma mn) (hmn : mn <= 1000000000000000) (hk8 : (Lit.int .u8 kd).wf = true) (ho : HasOps w) :
  Calls Tryz.prog 6 #[.slice da dn dc, .slice ma mn mc, .int .u8 kd] w (GivesE (.bool true) w) := by
 have hk0 : 0 <= kd /\ kd <= 255 := by
  simp only [Lit.wf, Bool.and_eq_true, decide_eq_true_eq] at hk8
  exact hk8
 have HAW := hI (fun W (hW : Ext w W) => awake12_calls W (ho.ext hW))
 have HO := hI ho
 have HMA := hI (made12_calls da dn dc w h1 hdn)
 have HIM := hI (And.intro h2 hmn)
 obtain ⟨T, hT⟩ : ∃ T : Int, T = kd % 6 := ⟨_, rfl⟩
 have hT0 : 0 <= T := by omega
 have hT5 : T <= 5 := by omega
 have hmod : kd.tmod 6 = T := by rw [hT, Int.tmod_eq_emod_of_nonneg hk0.1]
 clear hT h1 h2 ho hk8
 go_enter Tryz.func6, Tryz.ntmps6
 go_wp2_with fail
 refine HMA.out.mono ?_
 rintro r w1 ⟨s, l, f, ⟨sa, sn, sc, la, ln, lc, fa, fn, fc⟩, bd0, rfl, hiw, -, hx1⟩
 have hiw1 := hiw.mono (mask_sub _ _)
 obtain ⟨vs, hrows, hvl, hvc⟩ := hiw1.clas
 have hone := hiw1.one
 obtain ⟨lb, lo, hla, -⟩ := hrows.2.2.2 0 (by omega)
 dsimp only at hla hrows
 subst hla
 have HIW := hI hiw1
 have HX1 := hI hx1
 have hlen := hiw1.len
 have hln : ln = vs.length := hrows.1
 have HRW := hI hrows
 have HVC := hI hvc
 have HVL := hI hvl
 have HLN := hI hln
 have HVN := hI (show ∀ x ∈ vs, x.name ≠ ⟨#[110, 101, 119]⟩ from fun x hx e => by
  obtain ⟨i, hi, rfl⟩ := List.getElem_of_mem hx
  have h1 := (hvc i (by omega) hi).2.1
  exact hiw1.names (nm := ⟨#[110, 101, 119]⟩) (by decide) _ (List.getElem_mem (by omega)) (h1.symm.trans e))
 have HN1 := hI (show 1 <= ln /\ ln <= 10 by omega)
 clear hiw hiw1 hrows hvl hvc hx1 HMA hone hlen hln
 unfold W12.val
 go_upto_region 2 with fail
 obtain ⟨bw, hbw⟩ : ∃ bw : Nat, bw = w1.heap.size := ⟨_, rfl⟩
 obtain ⟨w5, hw5⟩ : ∃ w5, w5 = w1.alloc (.cells #[.slice sa sn sc, .slice (some ⟨lb, lo, none⟩) ln lc, .slice fa fn fc] 34) := ⟨_, rfl⟩
 have hx5 : Ext w1 w5 := by rw [hw5]; exact (Ext.refl _).alloc _
 have HW5 := hI (show w5.heap[bw]? = some (.cells #[.slice sa sn sc, .slice (some ⟨lb, lo, none⟩) ln lc, .slice fa fn fc] 34 (0, 0)) by rw [hw5, hbw]; exact alloc_new w1 _)
 have HX5 := hI hx5
 rw [<- hw5, <- hbw]
 clear hw5 hbw hx5
 obtain ⟨c0, c1, c2, cf⟩ := blk3 HW5.out
 have C0 := win_cell c0
 have C1 := win_cell c1
 have C2 := win_cell c2
 have HI5 := hI (HIW.out.mono HX5.out.sub)
 have HM5 := hI (show IntsAt w5 ma mn /\ mn <= 1000000000000000 from ⟨fun i hi => by obtain ⟨b, off, q, e, hc⟩ := HIM.out.1 i hi; exact ⟨b, off, q, e, (HX1.out.trans HX5.out).cell hc⟩, HIM.out.2⟩)
 have HCLA := hI (fun (bd : Nat) W (hd : DeckAt w5 W bd) (hx : Ext w5 W) => gclause_calls HI5.out.mem [] (schemas_ok s HI5.out.mem).1 (schemas_ok s HI5.out.mem).2.1 (schemas_ok s HI5.out.mem).2.2 (by simp) (by simp) hd sa sn sc none 0 0 (List.range W.heap.size) (HI5.out.sch.mono (sub_maskN hx (by intro y hy; rw [List.mem_singleton.1 hy]; obtain ⟨_, _, _, _, _, _, _, _, _, h⟩ := hd; exact h))) (isStrs_nil _) (by simp) (5 + T) ⟨#[110, 101, 119]⟩)
 refine chn_start (m := 11) (Er := ErD w5.heap.size) (C := Ext w5) (Φ := fun _ => True) (ErD.refl _) (fun _ _ h => ErD.of h) (fun _ _ h q => ErD.ext h q) (Ext.refl w5).drew trivial (fun _ _ _ h => h) ?_
 repeat (refine chn_plain ?_; intro K hK; go_big_quiet_op; go_big_quiet_on)
 refine chn_call (γ := Nat) (fun g => .pointer (some ⟨g, 0, none⟩)) (fun g W => DeckAt w5 W g) (fun W hW _ _ => ?_) (fun g W W' hx h => h.ext hx) ?_ ⟨0⟩
 ·unfold GivesOp; go_simp
  refine (new_callsB ma mn mc w5 W HM5.out.1 hW HM5.out.2).mono ?_
  rintro e wz ⟨g, rfl, hd, hx, _⟩
  exact ⟨_, rfl, ErD.of hx, g, rfl, hd⟩
 intro bd K hK; go_simp; go_big_quiet_on
 repeat (refine chn_plain ?_; intro K hK; go_big_quiet_op; go_big_quiet_on)
 refine chn_callA (γ := Cla × ClV × Nat × Nat) (fun x => clV x.2.1) (fun x W => ClaG s [] (5 + T) ⟨#[110, 101, 119]⟩ x.1 /\ ∀ g, (g < x.2.2.1 \/ x.2.2.2 <= g) -> IsCla (mask W [g]) x.1 x.2.1) (fun x g => g < x.2.2.1 \/ x.2.2.2 <= g) (fun W hW h _ => ?_) (fun x W W' hx h => ⟨h.1, fun g hg => (h.2 g hg).mono (mask_ext1 hx)⟩) ?_ ⟨(cla0, ⟨0, ⟨#[]⟩, ⟨0, ⟨#[]⟩, none, 0, 0, 0, 0, none, 0, 0⟩, none, 0, 0, 0⟩, 0, 0)⟩
 ·unfold GivesOp; go_simp
  refine (HCLA.out bd W h hW).mono ?_
  rintro e wz ⟨c, v, rfl, g1, g2, g3, g4, g5, g6, g7, g8, g9⟩
  have hb := h
  obtain ⟨_, _, _, _, hb, _, _, _, _, hlo⟩ := hb
  exact ⟨_, rfl, ⟨[bd], g9, fun k hk => by
   rw [List.mem_singleton.1 hk]
   exact ⟨hlo, fun cs t hcs h10 => by
    rw [hb] at hcs
    simp only [Option.some.injEq, Obj.cells.injEq] at hcs
    obtain ⟨rfl, _⟩ := hcs
    simp at h10⟩⟩, (c, v, W.heap.size, wz.heap.size), rfl, ⟨⟨g1, g2, g3, g4, g5, g6⟩, cla_apart g7⟩, fun g hg => hg⟩
 rintro ⟨c, ⟨vk, vn, vx, va, vu, vc, vm⟩, n0, n1⟩ K hK
 unfold clV
 go_simp; go_big_quiet_on
 refine chn_box (fun g => .pointer (some ⟨g, 0, none⟩)) (fun g W => w5.heap.size <= g /\ ∃ c, W.heap[g]? = some (.cells c 48 (0, 0)) /\ c.size = 10) (fun W hW => ?_) (fun g W W' h ⟨k1, c, k2, k3⟩ => ?_) (fun _ _ h => h.size) ?_
 ·unfold GivesOp; go_simp
  exact ⟨(Ext.refl W).alloc _, W.heap.size, rfl, Nat.le_refl _, by simp, hW.size, _, alloc_new W _, rfl⟩
 ·obtain ⟨c', e1, e2⟩ := h.shape k2 k3
  exact ⟨k1, c', e1, e2⟩
 intro b9 K hK; go_simp; go_big_quiet_on
 refine chn_known undef (fun W => w5.heap.size <= b9 /\ W.heap[b9]? = some (.cells #[.int .i64 vk, .string vn, .int .i64 vx.op, .string vx.name, .slice vx.aw vx.nw vx.cw, .int .i64 vx.lo, .int .i64 vx.hi, .slice vx.aa vx.na vx.ca, .slice va vu vc, .int .i64 vm] 48 (0, 0)) /\ ClaG s [] (5 + T) ⟨#[110, 101, 119]⟩ c /\ IsCla W c ⟨vk, vn, vx, va, vu, vc, vm⟩) (fun W hW hq hF => ?_) (fun W W' h q => ⟨q.1, h.blk q.2.1, q.2.2.1, q.2.2.2.mono h.sub⟩) ?_
 ·obtain ⟨_, ⟨hyl, cc, hyb, hcs⟩, _, hA⟩ := hF
  obtain ⟨v0, v1, v2, v3, v4, v5, v6, v7, v8, v9, rfl⟩ := arr10 hcs
  obtain ⟨z0, z1, z2, z3, z4, z5, z6, z7, z8, z9, zf⟩ := blk10 hyb
  have hlt := blk_lt hyb
  have HP := hI (put10v_blk hyb (v0 := .int .i64 vk) (v1 := .string vn) (v2 := .int .i64 vx.op) (v3 := .string vx.name) (v4 := .slice vx.aw vx.nw vx.cw) (v5 := .int .i64 vx.lo) (v6 := .int .i64 vx.hi) (v7 := .slice vx.aa vx.na vx.ca) (v8 := .slice va vu vc) (v9 := .int .i64 vm))
  have HQ := hI (put10v_chg W b9 (v0 := .int .i64 vk) (v1 := .string vn) (v2 := .int .i64 vx.op) (v3 := .string vx.name) (v4 := .slice vx.aw vx.nw vx.cw) (v5 := .int .i64 vx.lo) (v6 := .int .i64 vx.hi) (v7 := .slice vx.aa vx.na vx.ca) (v8 := .slice va vu vc) (v9 := .int .i64 vm))
  have HY := hI hyb
  have HH := hI (And.intro hq.1 (hq.2 b9 hA.2))
  clear hyb hq hA hcs
  unfold put10v at HP HQ
  unfold GivesOp; go_simp
  exact ⟨⟨[b9], HQ.out, fun k hk => by
   rw [List.mem_singleton.1 hk]
   exact ⟨hyl, fun cs t hb _ => by
    rw [HY.out] at hb
    simp only [Option.some.injEq, Obj.cells.injEq] at hb
    obtain ⟨_, rfl, _⟩ := hb
    exact ⟨_, HP.out, rfl⟩⟩⟩, rfl, HP.out, HH.out.1, (HH.out.2.mono (mask_grow HQ.out (fun y hy => Or.inl hy))).mono (mask_sub _ _)⟩
 intro K hK; go_simp; go_big_quiet_on
 refine chn_nil fun w9 hx hy _ => ?_
 obtain ⟨hq1, hq2, hq3, hq4⟩ := hy
 have hvn : vn = ⟨#[110, 101, 119]⟩ := hq4.2.1.trans hq3.2.1
 subst hvn
 have HXC := hI hx
 have HB9 := hI hq2
 have HCG := hI hq3
 have HIC := hI hq4
 clear hq1 hq2 hq3 hq4 hx c0 c1 c2 cf C0 C1 C2 HCLA HM5 HIM
 have HX9 := hI (Ext.refl w9)
 have HW9 := hI (HXC.out.blk HW5.out)
 have HXW := hI ((HX1.out.trans HX5.out).trans HXC.out)
 have HI9 := hI (HI5.out.mono HXC.out.sub)
 have HO9 := hI (HO.out.ext HXW.out)
 have HRW9 := hI (show IsRows w9 10 ClV.cells vs (some ⟨lb, lo, none⟩) ln lc from ⟨HRW.out.1, HRW.out.2.1, HRW.out.2.2.1, fun i hi => by
  obtain ⟨b', o', e, hc⟩ := HRW.out.2.2.2 i hi
  exact ⟨b', o', e, fun j hj => (HX5.out.trans HXC.out).cell (hc j hj)⟩⟩)
 have HVC9 := hI (show ∀ i (h1 : i < l.length) (h2 : i < vs.length), IsCla w9 l[i] vs[i] from fun i h1 h2 => (HVC.out i h1 h2).mono (HX5.out.trans HXC.out).sub)
 obtain ⟨P0, P1, P2⟩ := terms_plain HI9.out HCG.out (by omega)
 have HT0 := hI (decide_calls s l f (.agg #[.slice sa sn sc]) (some ⟨lb, lo, none⟩) ln lc fa fn fc w9 HI9.out.sch (attrs_fits HI9.out.mem) (by have := (schema_attrs (schema_zero HI9.out.mem)).2.1; omega) HI9.out.clas (by have := HN1.out; omega) HI9.out.cfit HI9.out.ints (by have h1 : fn = f.length := HI9.out.ints.1; rw [h1, factsAll_len HI9.out.facts]; have := (schemas_ok s HI9.out.mem).2.2; omega) HO9.out)
 have HTX := hI (more_decide HI9.out HO9.out (new_fit HCG.out) P1 rfl)
 unfold decV at HT0
 rw [P0] at HT0
 obtain ⟨A, hA⟩ : ∃ A, A = decD s l f := ⟨_, rfl⟩
 obtain ⟨B, hB⟩ : ∃ B, B = decD s (l ++ [c]) f := ⟨_, rfl⟩
 rw [<- hA, <- hB] at P2
 rw [<- hA] at HT0
 rw [<- hB] at HTX
 clear hA hB P0 P1 HIW HI5 HI9 HO9 HRW HVC HCG
 obtain ⟨a1, a2, a3, a4, a5, a6⟩ := A
 obtain ⟨b1, b2, b3, b4, b5', b6⟩ := B
 unfold Dec.cells at HT0 HTX
 dsimp only at HT0 HTX P2
 have HP := hI P2
 clear P2
 obtain ⟨c0, c1, c2, cf⟩ := blk3 HW9.out
 go_wp2_with fail
 refine HT0.out.mono ?_
 rintro r wa ⟨rfl, hxa⟩
 go_upto_region 4 with fail
 obtain ⟨w10, hw10⟩ : ∃ w10, w10 = wa.alloc (.cells #[.int .i64 a1, .int .i64 a2, .int .i64 a3, .int .i64 a4, .int .i64 a5, .bool a6] 29) := ⟨_, rfl⟩
 have hxb : Ext wa w10 := by rw [hw10]; exact (Ext.refl _).alloc _
 obtain ⟨p0, hp0⟩ : ∃ p0 : Nat, p0 = wa.heap.size := ⟨_, rfl⟩
 have HP0 := hI (show w10.heap[p0]? = some (.cells #[.int .i64 a1, .int .i64 a2, .int .i64 a3, .int .i64 a4, .int .i64 a5, .bool a6] 29 (0, 0)) by rw [hw10, hp0]; exact alloc_new wa _)
 rw [<- hw10, <- hp0]
 have HX10 := hI (show Ext w9 w10 from hxa.trans hxb)
 clear hw10 hp0 hxa hxb c0 c1 c2 cf HT0
 obtain ⟨c0, c1, c2, cf⟩ := blk3 (HX10.out.blk HW9.out)
 obtain ⟨f0, f1, f2, f3, f4, f5, f6, f7, f8, f9, ff⟩ := blk10 (HX10.out.blk HB9.out)
 have C0 := win_cell c0
 have C1 := win_cell c1
 have C2 := win_cell c2
 have F0 := win_cell f0
 have F1 := win_cell f1
 have F2 := win_cell f2
 have F3 := win_cell f3
 have F4 := win_cell f4
 have F5 := win_cell f5
 have F6 := win_cell f6
 have F7 := win_cell f7
 have F8 := win_cell f8
 have F9 := win_cell f9
 refine chn_start (m := 18) (Er := ErM w10.heap.size ⟨#[110, 101, 119]⟩) (C := Ext w10) (Φ := fun _ => True) (ErM.refl _ _) (fun _ _ h => ErM.of h) (fun _ _ h q => ErM.ext h q) (Ext.refl w10).drew trivial (fun _ _ _ h => h) ?_
 repeat (refine chn_plain ?_; intro K hK; go_big_quiet_op; go_big_quiet_on)
 refine chn_call (γ := Nat) (fun g => .slice (some ⟨g, 0, none⟩) 0 0) (fun g W => w10.heap.size <= g /\ W.heap[g]? = some (.cells #[] 48 (0, 0))) (fun W hW _ _ => ?_) (fun g W W' hx h => ⟨h.1, hx.blk h.2⟩) ?_ ⟨0⟩
 ·unfold GivesOp; go_simp
  exact ⟨ErM.of ((Ext.refl W).alloc _), W.heap.size, rfl, hW.size, alloc_new W _⟩
 intro g0 K hK; go_simp; go_big_quiet_on
 repeat (refine chn_plain ?_; intro K hK; go_big_quiet_op; go_big_quiet_on)
 refine chn_call (γ := Nat × Nat) (fun q => .slice (some ⟨q.1, 0, none⟩) ln q.2) (fun q W => W.ownsRow w10.heap.size 48 10 (.slice (some ⟨q.1, 0, none⟩) ln q.2) ln (vs.flatMap ClV.cells)) (fun W hW h _ => ?_) (fun q W W' hx h => owns_chg h (hx.chg []) (by simp)) ?_ ⟨(0, 0)⟩
 ·refine gives_appendA elemCla _ _ w10.heap.size (.slice (some ⟨g0, 0, none⟩) 0 0) 0 [] rfl lb lo ln lc (vs.flatMap ClV.cells) rfl (by rw [HLN.out]; exact length_flatMap_of ClV.cells 10 (fun _ => rfl) vs) (cla_one vs) (by have := HN1.out; omega) (by have := HN1.out; omega) (by omega) ⟨rfl, Or.inr ⟨g0, 0, #[], rfl, h.1, h.2, Nat.le_refl _, by unfold maxLen; omega, rfl, rfl⟩⟩ (fun j hj => hW.cell (HX10.out.cell (rows_flat HRW9.out j hj))) hW.size ?_
  intro g cap w' ho hg _ _
  exact ⟨ErM.row (vs := []) (v := .slice (some ⟨g0, 0, none⟩) 0 0) ⟨rfl, Or.inr ⟨g0, 0, #[], rfl, h.1, h.2, Nat.le_refl _, by unfold maxLen; omega, rfl, rfl⟩⟩ (Or.inl rfl) (fun _ q hq => by
   have e : g0 = q := by simpa [Value.ownBlock] using hq
   subst e
   exact ⟨_, h.2⟩) hg, (g, cap), by simp, by simpa using ho⟩
 rintro ⟨g1, q1⟩ K hK; go_simp; go_big_quiet_on
 repeat (refine chn_plain ?_; intro K hK; go_big_quiet_op; go_big_quiet_on)
 refine chn_new (fun g => .slice (some ⟨g, 0, none⟩) 1 1) (fun g W => W.heap[g]? = some (.cells #[.int .i64 vk, .string ⟨#[110, 101, 119]⟩, .int .i64 vx.op, .string vx.name, .slice vx.aw vx.nw vx.cw, .int .i64 vx.lo, .int .i64 vx.hi, .slice vx.aa vx.na vx.ca, .slice va vu vc, .int .i64 vm] 48 (0, 0))) (fun W hW => ?_) (fun g W W' h q => h.clause q rfl rfl) ?_
 ·unfold GivesOp; go_simp
  exact ⟨(Ext.refl W).alloc _, W.heap.size, rfl, alloc_new W _⟩
 intro g2 K hK; go_simp; go_big_quiet_on
 refine chn_call (γ := Nat × Nat) (fun q => .slice (some ⟨q.1, 0, none⟩) (ln + 1) q.2) (fun q W => W.ownsRow w10.heap.size 48 10 (.slice (some ⟨q.1, 0, none⟩) (ln + 1) q.2) (ln + 1) ((vs ++ [(⟨vk, ⟨#[110, 101, 119]⟩, vx, va, vu, vc, vm⟩ : ClV)]).flatMap ClV.cells)) (fun W hW h hF => ?_) (fun q W W' hx h => owns_chg h (hx.chg []) (by simp)) ?_ ⟨(0, 0)⟩
 ·refine gives_appendA elemCla _ _ w10.heap.size (.slice (some ⟨g1, 0, none⟩) ln q1) ln _ rfl g2 0 1 1 (((⟨vk, ⟨#[110, 101, 119]⟩, vx, va, vu, vc, vm⟩ : ClV)).cells) rfl rfl (by simpa using cla_one [(⟨vk, ⟨#[110, 101, 119]⟩, vx, va, vu, vc, vm⟩ : ClV)]) (by omega) (by have := HN1.out; omega) (by omega) h (fun j hj => by rw [blk_cell hF.2, Nat.zero_add]; simp [ClV.cells]) hW.size ?_
  intro g cap w' ho hg _ _
  exact ⟨ErM.row h (Or.inr HVN.out) (fun e => by have := HN1.out; omega) hg, (g, cap), rfl, by simpa using ho⟩
 rintro ⟨g3, q3⟩ K hK; go_simp; go_big_quiet_on
 repeat (refine chn_plain ?_; intro K hK; go_big_quiet_op; go_big_quiet_on)
 refine chn_known (.tuple #[.agg #[.int .i64 b1, .int .i64 b2, .int .i64 b3, .int .i64 b4, .int .i64 b5', .bool b6], .int .i64 0]) (fun _ => True) (fun W hW h _ => ?_) (fun _ _ _ h => h) ?_
 ·unfold GivesOp; go_simp
  refine (HTX.out W (HX10.out.trans hW) (some ⟨g3, 0, none⟩) (ln + 1) q3 (by rw [HLN.out, HVL.out]) (more_clas h (by simp [HLN.out]) HVL.out (HX10.out.trans hW) HVC9.out HIC.out)).mono ?_
  rintro r wz ⟨rfl, hxz⟩
  exact ⟨_, rfl, ErM.of hxz, rfl, trivial⟩
 intro K hK; go_simp; go_big_quiet_on
 repeat (refine chn_plain ?_; intro K hK; go_big_quiet_op; go_big_quiet_on)
 refine chn_new (fun g => .pointer (some ⟨g, 0, none⟩)) (fun g W => w10.heap.size <= g /\ ∃ c, W.heap[g]? = some (.cells c 29 (0, 0)) /\ c.size = 6) (fun W hW => ?_) (fun g W W' h ⟨k1, c, k2, k3⟩ => ?_) ?_
 ·unfold GivesOp; go_simp
  exact ⟨(Ext.refl W).alloc _, W.heap.size, rfl, hW.size, _, alloc_new W _, rfl⟩
 ·obtain ⟨c', e1, e2⟩ := h.shape k2 k3
  exact ⟨k1, c', e1, e2⟩
 intro p1 K hK; go_simp; go_big_quiet_on
 refine chn_known undef (fun W => W.heap[p1]? = some (.cells #[.int .i64 b1, .int .i64 b2, .int .i64 b3, .int .i64 b4, .int .i64 b5', .bool b6] 29 (0, 0))) (fun W hW _ hF => ?_) (fun W W' h q => h.blk q) ?_
 ·obtain ⟨_, hyl, c, hyb, hcs⟩ := hF
  obtain ⟨v0, v1, v2, v3, v4, v5, rfl⟩ := arr6 hcs
  obtain ⟨z0, z1, z2, z3, z4, z5, zf⟩ := blk6d hyb
  have hlt := blk_lt hyb
  have HP := hI (put6d_blk hyb (v0 := .int .i64 b1) (v1 := .int .i64 b2) (v2 := .int .i64 b3) (v3 := .int .i64 b4) (v4 := .int .i64 b5') (v5 := .bool b6))
  have HQ := hI (put6d_chg W p1 (v0 := .int .i64 b1) (v1 := .int .i64 b2) (v2 := .int .i64 b3) (v3 := .int .i64 b4) (v4 := .int .i64 b5') (v5 := .bool b6))
  have HY := hI hyb
  clear hyb
  unfold put6d at HP HQ
  unfold GivesOp; go_simp
  exact ⟨⟨[p1], HQ.out, fun j hj => by
   rw [List.mem_singleton.1 hj]
   exact ⟨hyl, fun cs t hb => by
    rw [HY.out] at hb
    simp only [Option.some.injEq, Obj.cells.injEq] at hb
    obtain ⟨rfl, rfl, _⟩ := hb
    exact ⟨fun h => by simp at h, fun _ => ⟨_, HP.out, rfl⟩⟩⟩⟩, rfl, HP.out⟩
 intro K hK; go_simp; go_big_quiet_on
 repeat (refine chn_plain ?_; intro K hK; go_big_quiet_op; go_big_quiet_on)
 refine chn_nil fun w11 hx hy _ => ?_
 have HX11 := hI (HX10.out.trans hx)
 have HS11 := hI hx
 have HP11 := hI hy
 clear hx hy c0 c1 c2 cf f0 f1 f2 f3 f4 f5 f6 f7 f8 f9 ff C0 C1 C2 F0 F1 F2 F3 F4 F5 F6 F7 F8 F9 HX10 HTX HIC HB9
 go_upto_region 5 with fail
 have HQ0 := hI (HS11.out.blk HP0.out)
 obtain ⟨r0, r1, r2, r3, r4, r5, rf⟩ := blk6d HQ0.out
 obtain ⟨q0, q1, q2, q3, q4, q5, qf⟩ := blk6d HP11.out
 have HXZ := hI (HXW.out.trans HX11.out)
 clear HQ0 HP0 HP11 HS11
 obtain ⟨q1, q2, q3, q4, q5, q6⟩ := HP.out
 have t1 : (a1 != b1) = false := by simp [q1]
 have t6 : decide (a3 <= b3) = true := decide_eq_true q3
 have t7 : decide (a4 <= b4) = true := decide_eq_true q4
 have t8 : decide (a5 <= b5') = true := decide_eq_true q5
 have hab : (a6 = false /\ b6 = false) \/ (a6 = false /\ b6 = true) \/ (a6 = true /\ b6 = true) := by cases a6 <;> cases b6 <;> simp_all
 clear q1 q3 q4 q5 q6 HP
 by_cases g1 : a2 = b2
 case' pos =>
  have t2 : (a2 == b2) = true := by simp [g1]
 case' neg =>
  have t2 : (a2 == b2) = false := by simp [g1]
  have g2 := q2.resolve_left g1
  have t3 : decide (0 <= b2) = true := decide_eq_true g2.1
  by_cases g3 : a2 < 0
  case' pos =>
   have t4 : decide (a2 < 0) = true := decide_eq_true g3
  case' neg =>
   have t4 : decide (a2 < 0) = false := decide_eq_false g3
   have t5 : decide (b2 < a2) = true := decide_eq_true (g2.2.resolve_left g3)
 all_goals
  clear q2
  try clear g1
  try clear g2 g3
  rcases hab with ⟨rfl, rfl⟩ | ⟨rfl, rfl⟩ | ⟨rfl, rfl⟩
  all_goals
   go_wp2_with fail
   refine (HAW.out w11 HXZ.out).mono ?_
   rintro r w17 ⟨rfl, hx17⟩
   have HXY := hI (HXZ.out.trans hx17)
   clear hx17
   go_wp2_with fail
   go_ret
   exact givesE_bool (by simp) HXY.out
end Go.Proofs.YtefjomofjejklaaGreatDoor
