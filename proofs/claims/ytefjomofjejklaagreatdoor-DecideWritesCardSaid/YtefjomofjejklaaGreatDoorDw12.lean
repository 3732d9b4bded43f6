/-
  Texts of the claim, joined: Wrt0, Awk12, DWri.
-/
import Derived.Test.YtefjomofjejklaaGreatDoorDw11
namespace Go.Proofs.YtefjomofjejklaaGreatDoor
set_option maxRecDepth 100000
set_option maxHeartbeats 32000000
open Go.RowKit
def P2 (l : List Cla) (e : Ex) : Prop := expanded l e <= 2000
theorem wbs_P2 {l : List Cla} : (u : List Wb) -> backsLarge l u = false -> wbFits u -> wbsOkT (P2 l) u
 | [], _, _ => by unfold wbsOkT; trivial
 | .mk n c u :: r, h, hf => by
  rw [backsLarge] at h
  simp only [Bool.or_eq_false_iff, decide_eq_false_iff_not] at h
  rw [wbFits] at hf
  unfold wbsOkT
  exact ⟨by unfold P2; omega, wbs_P2 u h.1.2 hf.2.2.2.2.2.1, hf.2.2.2.2.1, wbs_P2 r h.2 hf.2.2.2.2.2.2⟩
theorem wbs_weak {P Q : Ex -> Prop} (h : ∀ e, P e -> Q e) : (u : List Wb) -> wbsOkT P u -> wbsOkT Q u
 | [], _ => by unfold wbsOkT; trivial
 | .mk n c u :: r, hu => by
  unfold wbsOkT at hu ⊢
  exact ⟨h c hu.1, wbs_weak h u hu.2.1, hu.2.2.1, wbs_weak h r hu.2.2.2⟩
theorem dec_snoc {s : List Attr} {l : List Cla} {f : ZI} {c : Cla} (h : MoreOk s l c) (hc : (clausesErr s l).2 = 0) (hok : ∀ x ∈ l, x.fit) (hcf : c.fit) (hlen : l.length < 100) (hf : factsB s f = true) : decErr s (l ++ [c]) f = 0 /\ decD s (l ++ [c]) f = vdB (val s l f) (l ++ [c]) := by
 have h1 := h.ok hc hlen
 have h0 : decErr s (l ++ [c]) f = 0 := by
  unfold decErr
  rw [if_neg (by simp [h1]), if_neg (by simp [hf])]
 refine ⟨h0, ?_⟩
 unfold decD
 rw [if_pos h0]
 have hV : ∀ e, P2 l e -> val s (l ++ [c]) f e = val s l f e := fun e he => val_snoc h.kind s f he
 refine vdB_same fun x hx => ?_
 rcases List.mem_append.1 hx with hx | hx
 ·have hp := pdC_of hc hok x hx
  exact claV_same hV hp.1.2.2.1 (wbs_weak (fun e he => he.2.2.1) _ hp.2.1)
 obtain rfl := List.mem_singleton.1 hx
 exact claV_same hV h.exp (wbs_P2 _ h.large hcf.2.2.2.2.2)
theorem dec_same {s : List Attr} {l : List Cla} {f : ZI} (hc : (clausesErr s l).2 = 0) (hf : factsB s f = true) : decErr s l f = 0 /\ decD s l f = vdB (val s l f) l := by
 have h0 : decErr s l f = 0 := by
  unfold decErr
  rw [if_neg (by simp [hc]), if_neg (by simp [hf])]
 exact ⟨h0, by unfold decD; rw [if_pos h0]⟩
def trE : Ex := .mk 1 ⟨#[]⟩ [] 0 0 []
def flE : Ex := .mk 2 ⟨#[]⟩ [] 0 0 []
def warC (u : List Wb) : Cla := ⟨3, ⟨#[119, 97, 114]⟩, trE, u, 0⟩
def yU : List Wb := [.mk ⟨#[119]⟩ flE [], .mk ⟨#[118]⟩ trE []]
def zU : List Wb := [.mk ⟨#[119]⟩ trE [.mk ⟨#[117]⟩ trE []]]
theorem attr_war {s : List Attr} (h : s ∈ schemas) : attrAt s ⟨#[119, 97, 114]⟩ = none := by
 have key : ∀ s ∈ schemas, (attrAt s ⟨#[119, 97, 114]⟩).isNone = true := by decide +kernel
 simpa using key s h
theorem nodes_tr (s : List Attr) (l : List Cla) : nodesErr s l trE = 0 /\ nodesErr s l flE = 0 := by
 constructor <;> simp [trE, flE, nodesErr, nodeErr, nodesErrL]
theorem exp_tr (l : List Cla) : expanded l trE <= 2000 /\ expanded l flE <= 2000 := by
 constructor <;> simp [expanded, trE, flE, expF, expE, expL]
theorem val_tr (s : List Attr) (l : List Cla) (f : ZI) : val s l f trE = true /\ val s l f flE = false := by
 constructor <;> simp [val, trE, flE, valF, valE, factV]
theorem IsW12.names {w : World} {s : List Attr} {l : List Cla} {f : ZI} {v : W12} (h : IsW12 w s l f v) {nm : BA} (hn : nm.size ≠ 4) : ∀ x ∈ l, x.name ≠ nm := by
 intro x hx e
 have h1 := (h.glok.1 x hx).2
 have h2 : pcd.size = 2 := rfl
 rw [e, h2] at h1
 omega
theorem war_ok {w : World} {s : List Attr} {l : List Cla} {f : ZI} {v : W12} (h : IsW12 w s l f v) {u : List Wb} (hu : u = [] \/ u = yU \/ u = zU) : MoreOk s l (warC u) where
 kind := by simp [warC]
 form := by
  have h1 : nameB ⟨#[119, 97, 114]⟩ = true := by decide +kernel
  have h2 : refExprB trE = true := by decide +kernel
  have h3 : refExprB flE = true := by decide +kernel
  have h4 : nameB ⟨#[119]⟩ = true := by decide +kernel
  have h5 : nameB ⟨#[118]⟩ = true := by decide +kernel
  have h6 : nameB ⟨#[117]⟩ = true := by decide +kernel
  rcases hu with rfl | rfl | rfl <;> simp [clauseB, warC, yU, zU, mostOf, cntBacks, backsB, h1, h2, h3, h4, h5, h6]
 name := h.names (nm := ⟨#[119, 97, 114]⟩) (by decide)
 attr := attr_war h.mem
 node := (nodes_tr s l).1
 back := by
  obtain ⟨h1, h2⟩ := nodes_tr s l
  rcases hu with rfl | rfl | rfl <;> simp [warC, yU, zU, backsErr, h1, h2]
 exp := (exp_tr l).1
 large := by
  obtain ⟨h1, h2⟩ := exp_tr l
  rcases hu with rfl | rfl | rfl <;> simp [warC, yU, zU, backsLarge] <;> omega
theorem war_fit {u : List Wb} (hu : u = [] \/ u = yU \/ u = zU) : (warC u).fit := by
 have h1 : trE.fits /\ trE.few /\ trE.slim := ⟨by simp [trE, Ex.fits, fitsAll]; decide, by simp [trE, Ex.few, fewAll], by simp [trE, Ex.slim, slimAll]⟩
 have h2 : flE.fits /\ flE.few /\ flE.slim := ⟨by simp [flE, Ex.fits, fitsAll]; decide, by simp [flE, Ex.few, fewAll], by simp [flE, Ex.slim, slimAll]⟩
 refine ⟨show (ByteArray.mk #[119, 97, 114]).size <= 1000000000000000 by decide, h1.1, h1.2.1, h1.2.2, ?_, ?_⟩
 ·rcases hu with rfl | rfl | rfl <;> simp [warC, yU, zU]
 rcases hu with rfl | rfl | rfl <;> simp [warC, yU, zU, wbFits, h1, h2] <;> decide
theorem IsW12.cls {w : World} {s : List Attr} {l : List Cla} {f : ZI} {v : W12} (h : IsW12 w s l f v) : (clausesErr s l).2 = 0 := by rw [glok_good h.mem h.glok]
theorem IsW12.fac {w : World} {s : List Attr} {l : List Cla} {f : ZI} {v : W12} (h : IsW12 w s l f v) : factsB s f = true := by
 unfold factsB
 rw [(chk_of h.cls).sch, h.facts]
 rfl
theorem writes_plain {w : World} {s : List Attr} {l : List Cla} {f : ZI} {v : W12} (h : IsW12 w s l f v) :
  decErr s l f = 0 /\ decErr s (l ++ [warC []]) f = 0 /\ decErr s (l ++ [warC yU]) f = 0 /\ decErr s (l ++ [warC zU]) f = 0 /\ decD s (l ++ [warC yU]) f = decD s l f /\ decD s (l ++ [warC zU]) f = decD s (l ++ [warC []]) f /\
  (decD s (l ++ [warC []]) f).ver ≠ 4 /\ ((decD s l f).ver ≠ 4 \/ (decD s (l ++ [warC []]) f).ver = 3) := by
 obtain ⟨a0, a1⟩ := dec_same h.cls h.fac
 have hl : l.length < 100 := by have := h.len; omega
 obtain ⟨b0, b1⟩ := dec_snoc (war_ok h (Or.inl rfl)) h.cls h.cfit (war_fit (Or.inl rfl)) hl h.fac
 obtain ⟨c0, c1⟩ := dec_snoc (war_ok h (Or.inr (Or.inl rfl))) h.cls h.cfit (war_fit (Or.inr (Or.inl rfl))) hl h.fac
 obtain ⟨d0, d1⟩ := dec_snoc (war_ok h (Or.inr (Or.inr rfl))) h.cls h.cfit (war_fit (Or.inr (Or.inr rfl))) hl h.fac
 obtain ⟨t1, t2⟩ := val_tr s l f
 have vx : claV (val s l f) (warC []) = true := by simp [claV, warC, wbsV, t1]
 have vy : claV (val s l f) (warC yU) = false := by simp [claV, warC, yU, wbsV, t1, t2]
 have vz : claV (val s l f) (warC zU) = true := by simp [claV, warC, zU, wbsV, t1]
 rw [vdB_snoc] at b1 c1 d1
 rw [vx] at b1
 rw [vy] at c1
 rw [vz] at d1
 refine ⟨a0, b0, c0, d0, ?_, ?_, ?_, ?_⟩
 ·rw [c1, a1]
  unfold vdB
  simp [warC, limS, greatS]
 ·rw [d1, b1]
  simp [warC]
 ·rw [b1]
  simp only [warC]
  cases someB (val s l f) 2 false l <;> cases someB (val s l f) 4 true l <;> simp
 rw [b1, a1]
 unfold vdB
 simp only [warC]
 cases someB (val s l f) 2 false l <;> cases someB (val s l f) 4 true l <;> simp
open Go.RowKit Go.Maps
def sch0 : List Attr := [aPeril, ⟨⟨#[115, 116, 111, 114, 101, 121, 115]⟩, 2, [], 1, 9⟩, ⟨⟨#[97, 108, 97, 114, 109]⟩, 3, [], 0, 0⟩]
def exF : Ex := .mk 4 ⟨#[112, 101, 114, 105, 108]⟩ [⟨#[102, 105, 114, 101]⟩] 0 0 []
def clF : Cla := ⟨2, ⟨#[102, 105, 114, 101]⟩, exF, [], 0⟩
def Sch0Q (w : World) (e : Ending) (w' : World) : Prop := ∃ v, e = .returned v /\ IsSchema w' sch0 v /\ Ext w w'
theorem within0_at (x n r : Int) (w : World) (hn : 0 < n) (hn2 : n <= 1000000000000000000) (hr : (x.tmod n + n).tmod n = r) : Calls Tryz.prog 16 #[.int .i64 x, .int .i64 n] w (fun e w' => e = .returned (.int .i64 r) /\ w' = w) := by
 go_enter Tryz.func16, Tryz.ntmps16
 go_wp2_with fail
 go_ret
 have a1 := Int.tmod_lt_of_pos x hn
 have a5 := Int.lt_tmod_of_pos x hn
 rw [IntWalk.wrap64_in (x.tmod n + n) (by omega), hr]
 exact ⟨rfl, rfl⟩
theorem schema0_calls (w : World) : Calls Tryz.prog 26 #[.int .i64 0] w (Sch0Q w) := by
 go_enter Tryz.func26, Tryz.ntmps26
 go_wp2_with fail
 refine (within0_at 0 6 0 _ (by omega) (by omega) (by decide)).mono ?_
 rintro e w' ⟨rfl, rfl⟩
 go_wp2_with fail
 refine (peril_calls _).mono ?_
 rintro e w' ⟨g, rfl, hp, hx, hgn⟩
 simp at hgn
 have hwz := hx.size
 simp at hwz
 have hb := hx.blk (alloc_new w _)
 have hlt := blk_lt hb
 have c0 := blk_cell hb 0
 have cf := blk_free hb
 simp at c0
 have HX := hI (((Ext.refl w).alloc _).trans hx)
 have HP := hI hp
 clear hx hb hp
 go_wp2_with fail
 refine bodyPost_ret (v := .agg #[.slice (some ⟨w'.heap.size, 0, none⟩) 3 3]) (by simp [results, Tryz.results26, go_sem, c0, hlt]) rfl ?_
 refine ⟨_, rfl, ?_, (HX.out.setAbove (by simp) _).alloc _⟩
 refine isSchema_block (avs := [⟨aPeril, some ⟨g, 0, none⟩, 4, 4⟩, ⟨⟨⟨#[115, 116, 111, 114, 101, 121, 115]⟩, 2, [], 1, 9⟩, none, 0, 0⟩, ⟨⟨⟨#[97, 108, 97, 114, 109]⟩, 3, [], 0, 0⟩, none, 0, 0⟩]) (t := 101) ?_ rfl ?_
 ·simpa [AttrV.cells, aPeril] using alloc_new (w'.setCell ⟨w.heap.size, 0, none⟩ (.slice (some ⟨w'.heap.size, 0, none⟩) 3 3)) (.cells #[.string aPeril.name, .int .i64 1, .slice (some ⟨g, 0, none⟩) 4 4, .int .i64 0, .int .i64 0, .string ⟨#[115, 116, 111, 114, 101, 121, 115]⟩, .int .i64 2, .slice none 0 0, .int .i64 1, .int .i64 9, .string ⟨#[97, 108, 97, 114, 109]⟩, .int .i64 3, .slice none 0 0, .int .i64 0, .int .i64 0] 101)
 intro v hv
 simp only [List.mem_cons, List.not_mem_nil, or_false] at hv
 rcases hv with rfl | rfl | rfl
 ·exact isStrs_set HP.out (by omega) _ _
 ·exact isStrs_nil _
 exact isStrs_nil _
theorem awk12_cla : claErr sch0 [clF] 0 = 0 := by
 unfold claErr
 rw [if_neg (by decide +kernel), if_neg (by decide +kernel), if_neg (by decide +kernel), if_neg (by decide +kernel)]
 show backsErr sch0 [clF] [] = 0
 rw [backsErr]
theorem awk12_lg : claLarge [clF] 0 = 0 := by
 unfold claLarge
 rw [if_neg]
 rintro (h | h)
 ·exact absurd h (by decide +kernel)
 have h2 : backsLarge [clF] [] = true := h
 rw [backsLarge] at h2
 cases h2
theorem awk12_cls : (clausesErr sch0 [clF]).2 = 0 := by
 have h1 : firstI (claErr sch0 [clF]) [clF].length = (0, 0) := firstI_zero _ fun j hj => by
  obtain rfl : j = 0 := by simp at hj; omega
  exact awk12_cla
 have h2 : firstI (claLarge [clF]) [clF].length = (0, 0) := firstI_zero _ fun j hj => by
  obtain rfl : j = 0 := by simp at hj; omega
  exact awk12_lg
 unfold clausesErr
 rw [if_neg (by decide +kernel), if_neg (by decide), h1, if_neg (by simp), if_neg (by
  rw [Classical.not_not]
  refine ⟨[], List.nodup_nil, fun i => ⟨fun h => by simp at h, fun h => ?_⟩, fun k i h => by simp at h⟩
  have h1 := isDef_lt h
  obtain rfl : i = 0 := by simp at h1; omega
  exact absurd h (by decide)), h2]
theorem awk12_vd (V : Ex -> Bool) : vdB V [clF] = if V exF = true then ⟨4, -1, 0, 0, 0, false⟩ else ⟨1, 0, 0, 0, 0, false⟩ := by
 have hw : wbsV V [] = false := by rw [wbsV]
 cases h : V exF <;> simp [vdB, someB, claV, clF, hw, h, limK, limS, greatK, greatS]
theorem awk12_err (f : ZI) (h : factsB sch0 f = true) : decErr sch0 [clF] f = 0 := by
 unfold decErr
 rw [if_neg (by rw [awk12_cls]; decide), if_neg (by simp [h])]
theorem awk12_in : decD sch0 [clF] [0, 1, 0] = ⟨4, -1, 0, 0, 0, false⟩ := by
 unfold decD
 rw [if_pos (awk12_err _ (by decide +kernel)), awk12_vd, if_pos (by decide +kernel)]
theorem awk12_out : decD sch0 [clF] [1, 1, 0] = ⟨1, 0, 0, 0, 0, false⟩ := by
 unfold decD
 rw [if_pos (awk12_err _ (by decide +kernel)), awk12_vd, if_neg (by decide +kernel)]
theorem sch0_fits : ∀ x ∈ sch0, x.fits := by
 intro x hx
 simp only [sch0, List.mem_cons, List.not_mem_nil, or_false] at hx
 rcases hx with rfl | rfl | rfl <;> refine ⟨by decide, by simp [aPeril], fun x hx => ?_⟩ <;> simp [aPeril] at hx
 rcases hx with rfl | rfl | rfl | rfl <;> decide
theorem clF_fit : ∀ x ∈ [clF], x.fit := by
 intro x hx
 obtain rfl := List.mem_singleton.1 hx
 refine ⟨by decide, ?_, ?_, ?_, by simp [clF], by unfold clF wbFits; trivial⟩
 ·simp [clF, exF, Ex.fits, fitsAll]; decide
 ·simp [clF, exF, Ex.few, fewAll]
 simp [clF, exF, Ex.slim, slimAll]
theorem awake12_calls (w : World) (ho : HasOps w) : Calls Tryz.prog 12 #[] w (GivesE (.bool true) w) := by
 have HO := hI ho
 clear ho
 go_enter Tryz.func12, Tryz.ntmps12
 go_wp2_with fail
 refine (schema0_calls w).mono ?_
 rintro r w1 ⟨sv, rfl, hs, hx1⟩
 obtain ⟨sa, sn, sc, rfl, -⟩ := hs.slice
 have HS := hI hs
 have HX1 := hI hx1
 clear hs hx1
 go_upto_region 2 with fail
 obtain ⟨w2, hw2⟩ : ∃ w2, w2 = w1.alloc (.cells #[.slice sa sn sc] 24) := ⟨_, rfl⟩
 obtain ⟨b1, hb1⟩ : ∃ b1 : Nat, b1 = w1.heap.size := ⟨_, rfl⟩
 have HX2 := hI (show Ext w1 w2 by rw [hw2]; exact (Ext.refl _).alloc _)
 have HB1 := hI (show w2.heap[b1]? = some (.cells #[.slice sa sn sc] 24 (0, 0)) by rw [hw2, hb1]; exact alloc_new w1 _)
 rw [<- hw2, <- hb1]
 clear hw2 hb1
 go_upto_region 3 with fail
 obtain ⟨w3, hw3⟩ : ∃ w3, w3 = (w2.alloc (.cells #[.string ⟨#[102, 105, 114, 101]⟩] 9)).alloc (.cells #[.int .i64 2, .string ⟨#[102, 105, 114, 101]⟩, .int .i64 4, .string ⟨#[112, 101, 114, 105, 108]⟩, .slice (some ⟨w2.heap.size, 0, none⟩) 1 1, .int .i64 0, .int .i64 0, .slice none 0 0, .slice none 0 0, .int .i64 0] 48) := ⟨_, rfl⟩
 obtain ⟨y, hy⟩ : ∃ y : Nat, y = w2.heap.size := ⟨_, rfl⟩
 have hx3 : Ext w2 w3 := by rw [hw3]; exact ((Ext.refl _).alloc _).alloc _
 have HCL := hI (show IsClas w3 [clF] (some ⟨y + 1, 0, none⟩) 1 1 from isCla_one (v := ⟨2, ⟨#[102, 105, 114, 101]⟩, ⟨4, ⟨#[112, 101, 114, 105, 108]⟩, some ⟨y, 0, none⟩, 1, 1, 0, 0, none, 0, 0⟩, none, 0, 0, 0⟩) (t := 48) (by rw [hw3, hy]; exact alloc_atR (by simp)) ⟨rfl, rfl, isEx_words (isStrs_block (l := [⟨#[102, 105, 114, 101]⟩]) (t := 9) (by rw [hw3, hy]; exact blk_alloc (alloc_new w2 _)) rfl) 4 0 0 _, rfl, Nat.le_refl _, Or.inl ⟨rfl, rfl⟩, by unfold clF WbsD; trivial, rfl⟩)
 rw [<- hw3, <- hy]
 have HX3 := hI (HX2.out.trans hx3)
 have HB13 := hI (hx3.blk HB1.out)
 clear hw3 hy hx3
 obtain ⟨e0, ef⟩ := blk1 HB13.out
 obtain ⟨w4, hw4⟩ : ∃ w4, w4 = w3.alloc (.cells #[.int .i64 0, .int .i64 1, .int .i64 0] 3) := ⟨_, rfl⟩
 have hx4 : Ext w3 w4 := by rw [hw4]; exact (Ext.refl _).alloc _
 have HPC := hI (decide_calls sch0 [clF] [0, 1, 0] (.agg #[.slice sa sn sc]) (some ⟨y + 1, 0, none⟩) 1 1 (some ⟨w3.heap.size, 0, none⟩) 3 3 w4 (HS.out.ext (HX3.out.trans hx4)) sch0_fits (by simp [sch0]) (HCL.out.ext hx4) (by omega) clF_fit (by rw [hw4]; exact isIntF_new rfl) (by omega) (HO.out.ext (HX1.out.trans (HX3.out.trans hx4))))
 unfold decV at HPC
 rw [awk12_in, awk12_err _ (by decide +kernel)] at HPC
 unfold Dec.cells at HPC
 have HX4 := hI (HX1.out.trans (HX3.out.trans hx4))
 have HB14 := hI (hx4.blk HB13.out)
 have HC4 := hI (HCL.out.ext hx4)
 have HS4 := hI (HS.out.ext (HX3.out.trans hx4))
 clear hx4
 go_wp2_with fail
 rw [<- hw4]
 clear hw4 e0 ef HB13 HCL HS HX3 HX1
 refine HPC.out.mono ?_
 rintro r w5 ⟨rfl, hx5⟩
 go_upto_region 4 with fail
 obtain ⟨w6, hw6⟩ : ∃ w6, w6 = w5.alloc (.cells #[.int .i64 4, .int .i64 (-1), .int .i64 0, .int .i64 0, .int .i64 0, .bool false] 29) := ⟨_, rfl⟩
 have hx6 : Ext w5 w6 := by rw [hw6]; exact (Ext.refl _).alloc _
 obtain ⟨b2, hb2⟩ : ∃ b2 : Nat, b2 = w5.heap.size := ⟨_, rfl⟩
 have HD6 := hI (show w6.heap[b2]? = some (.cells #[.int .i64 4, .int .i64 (-1), .int .i64 0, .int .i64 0, .int .i64 0, .bool false] 29 (0, 0)) by rw [hw6, hb2]; exact alloc_new w5 _)
 rw [<- hw6, <- hb2]
 have HX6 := hI (HX4.out.trans (hx5.trans hx6))
 have HB6 := hI ((hx5.trans hx6).blk HB14.out)
 have HC6 := hI (HC4.out.ext (hx5.trans hx6))
 have HS6 := hI (HS4.out.ext (hx5.trans hx6))
 clear hw6 hb2 hx6 hx5 HPC HX4 HB14 HC4 HS4
 obtain ⟨e0, ef⟩ := blk1 HB6.out
 obtain ⟨w7, hw7⟩ : ∃ w7, w7 = w6.alloc (.cells #[.int .i64 1, .int .i64 1, .int .i64 0] 3) := ⟨_, rfl⟩
 have hx7 : Ext w6 w7 := by rw [hw7]; exact (Ext.refl _).alloc _
 have HPD := hI (decide_calls sch0 [clF] [1, 1, 0] (.agg #[.slice sa sn sc]) (some ⟨y + 1, 0, none⟩) 1 1 (some ⟨w6.heap.size, 0, none⟩) 3 3 w7 (HS6.out.ext hx7) sch0_fits (by simp [sch0]) (HC6.out.ext hx7) (by omega) clF_fit (by rw [hw7]; exact isIntF_new rfl) (by omega) (HO.out.ext (HX6.out.trans hx7)))
 unfold decV at HPD
 rw [awk12_out, awk12_err _ (by decide +kernel)] at HPD
 unfold Dec.cells at HPD
 have HX7 := hI (HX6.out.trans hx7)
 have HD7 := hI (hx7.blk HD6.out)
 clear hx7
 go_wp2_with fail
 rw [<- hw7]
 clear hw7 e0 ef
 refine HPD.out.mono ?_
 rintro r w8 ⟨rfl, hx8⟩
 go_upto_region 5 with fail
 obtain ⟨w9, hw9⟩ : ∃ w9, w9 = w8.alloc (.cells #[.int .i64 1, .int .i64 0, .int .i64 0, .int .i64 0, .int .i64 0, .bool false] 29) := ⟨_, rfl⟩
 have hx9 : Ext w8 w9 := by rw [hw9]; exact (Ext.refl _).alloc _
 obtain ⟨b3, hb3⟩ : ∃ b3 : Nat, b3 = w8.heap.size := ⟨_, rfl⟩
 have HD9 := hI (show w9.heap[b3]? = some (.cells #[.int .i64 1, .int .i64 0, .int .i64 0, .int .i64 0, .int .i64 0, .bool false] 29 (0, 0)) by rw [hw9, hb3]; exact alloc_new w8 _)
 rw [<- hw9, <- hb3]
 have HX9 := hI (HX7.out.trans (hx8.trans hx9))
 have HE9 := hI ((hx8.trans hx9).blk HD7.out)
 clear hw9 hb3 hx9 hx8
 obtain ⟨d0, d1, d2, d3, d4, d5, df⟩ := blk6d HE9.out
 obtain ⟨g0, g1, g2, g3, g4, g5, gf⟩ := blk6d HD9.out
 go_wp2_with fail
 go_ret
 exact givesE_bool rfl HX9.out
theorem rows_flat {w : World} {b off n c : Nat} {vs : List ClV} (h : IsRows w 10 ClV.cells vs (some ⟨b, off, none⟩) n c) : ∀ j (hj : j < (vs.flatMap ClV.cells).length), w.cell? ⟨b, off + j, none⟩ = some (vs.flatMap ClV.cells)[j] := by
 intro j hj
 have hl := length_flatMap_of ClV.cells 10 (fun _ => rfl) vs
 have hi : j / 10 < vs.length := by omega
 have hr : j % 10 < (vs[j / 10]).cells.length := by have : (vs[j / 10]).cells.length = 10 := rfl; omega
 obtain ⟨b', off', e, hc⟩ := h.2.2.2 (j / 10) hi
 simp only [Option.some.injEq, Addr.mk.injEq, and_true] at e
 obtain ⟨rfl, rfl⟩ := e
 have h1 := hc (j % 10) hr
 have h2 := flatMap_at ClV.cells 10 (fun _ => rfl) vs (j / 10) hi (j % 10) hr
 have e1 : j / 10 * 10 + j % 10 = j := by omega
 rw [e1, List.getElem?_eq_getElem hj] at h2
 rw [Nat.add_assoc, e1] at h1
 rw [h1, <- h2]
theorem cla_one (vs : List ClV) : ∀ u ∈ vs.flatMap ClV.cells, u.oneCell' = true := by
 intro u hu
 obtain ⟨v, _, hv⟩ := List.mem_flatMap.1 hu
 simp only [ClV.cells, List.mem_cons, List.not_mem_nil, or_false] at hv
 rcases hv with rfl | rfl | rfl | rfl | rfl | rfl | rfl | rfl | rfl | rfl <;> rfl
theorem more_clas {w W : World} {base n : Nat} {a : OA} {c : Nat} {l : List Cla} {vs : List ClV} {x : Cla} {v : ClV} (ho : W.ownsRow base 48 10 (.slice a n c) n ((vs ++ [v]).flatMap ClV.cells)) (hn : n = (vs ++ [v]).length) (hl : l.length = vs.length) (hx : Ext w W) (hc : ∀ i (h1 : i < l.length) (h2 : i < vs.length), IsCla w l[i] vs[i]) (hv : IsCla w x v) : IsClas W (l ++ [x]) a n c := by
 have hR : ClasR w (l ++ [x]) (vs ++ [v]) := ClasR.snoc ⟨hl, hc⟩ hv
 have hln : n = (l ++ [x]).length := by rw [hn, hR.1]
 subst hln
 obtain ⟨a', c', e, h⟩ := clas_owns (M := []) ho (by simp) (hR.mono (hx.sub.trans (to_mask_nil _)))
 simp only [Value.slice.injEq, true_and] at e
 obtain ⟨rfl, rfl⟩ := e
 exact h.mono (mask_sub _ _)
theorem arr6 {c : Array Value} (h : c.size = 6) : ∃ v0 v1 v2 v3 v4 v5, c = #[v0, v1, v2, v3, v4, v5] := by
 obtain ⟨l⟩ := c
 match l, h with
 | [v0, v1, v2, v3, v4, v5], _ => exact ⟨v0, v1, v2, v3, v4, v5, rfl⟩
def lit0 : ExV := ⟨1, ⟨#[]⟩, none, 0, 0, 0, 0, none, 0, 0⟩
def lit1 : ExV := ⟨2, ⟨#[]⟩, none, 0, 0, 0, 0, none, 0, 0⟩
def warV (a : OA) (n : Nat) : ClV := ⟨3, ⟨#[119, 97, 114]⟩, lit0, a, n, n, 0⟩
theorem warX (w : World) : IsCla w (warC []) (warV none 0) := ⟨rfl, rfl, isEx_plain w 1 0 0 _, rfl, Nat.le_refl _, Or.inl ⟨rfl, rfl⟩, by unfold warC WbsD; trivial, rfl⟩
theorem warY {w : World} {g : Nat} {t : TypeId} (h : w.heap[g]? = some (.cells #[.string ⟨#[119]⟩, .int .i64 2, .string ⟨#[]⟩, .slice none 0 0, .int .i64 0, .int .i64 0, .slice none 0 0, .slice none 0 0, .string ⟨#[118]⟩, .int .i64 1, .string ⟨#[]⟩, .slice none 0 0, .int .i64 0, .int .i64 0, .slice none 0 0, .slice none 0 0] t (0, 0))) : IsCla w (warC yU) (warV (some ⟨g, 0, none⟩) 2) := by
 refine ⟨rfl, rfl, isEx_plain w 1 0 0 _, rfl, Nat.le_refl _, Or.inr ⟨g, 0, rfl⟩, ?_, rfl⟩
 refine WbsD.of yU 0 [⟨⟨#[119]⟩, lit1, none, 0, 0⟩, ⟨⟨#[118]⟩, lit0, none, 0, 0⟩] rfl fun i h1 h2 => ?_
 have hi : i = 0 \/ i = 1 := by simp at h2; omega
 rcases hi with rfl | rfl
 ·refine ⟨rfl, fun j hj => ?_, isEx_plain w 2 0 0 _, rfl, Nat.le_refl _, Or.inl ⟨rfl, rfl⟩, by unfold yU WbsD; trivial⟩
  have h8 : j < 8 := hj
  rw [blk_cell h]
  (iterate 8 (cases j with | zero => rfl | succ j => ?_)) <;> omega
 refine ⟨rfl, fun j hj => ?_, isEx_plain w 1 0 0 _, rfl, Nat.le_refl _, Or.inl ⟨rfl, rfl⟩, by unfold yU WbsD; trivial⟩
 have h8 : j < 8 := hj
 rw [blk_cell h]
 (iterate 8 (cases j with | zero => rfl | succ j => ?_)) <;> omega
theorem warZ {w : World} {g q : Nat} {t : TypeId} (h : w.heap[g]? = some (.cells #[.string ⟨#[119]⟩, .int .i64 1, .string ⟨#[]⟩, .slice none 0 0, .int .i64 0, .int .i64 0, .slice none 0 0, .slice (some ⟨q, 0, none⟩) 1 1] t (0, 0))) (hq : w.heap[q]? = some (.cells #[.string ⟨#[117]⟩, .int .i64 1, .string ⟨#[]⟩, .slice none 0 0, .int .i64 0, .int .i64 0, .slice none 0 0, .slice none 0 0] t (0, 0))) : IsCla w (warC zU) (warV (some ⟨g, 0, none⟩) 1) := by
 refine ⟨rfl, rfl, isEx_plain w 1 0 0 _, rfl, Nat.le_refl _, Or.inr ⟨g, 0, rfl⟩, ?_, rfl⟩
 refine WbsD.of zU 0 [⟨⟨#[119]⟩, lit0, some ⟨q, 0, none⟩, 1, 1⟩] rfl fun i h1 h2 => ?_
 obtain rfl : i = 0 := by simp at h2; omega
 refine ⟨rfl, fun j hj => ?_, isEx_plain w 1 0 0 _, rfl, Nat.le_refl _, Or.inr ⟨q, 0, rfl⟩, ?_⟩
 ·have h8 : j < 8 := hj
  rw [blk_cell h]
  (iterate 8 (cases j with | zero => rfl | succ j => ?_)) <;> omega
 refine WbsD.of [.mk ⟨#[117]⟩ trE []] 0 [⟨⟨#[117]⟩, lit0, none, 0, 0⟩] rfl fun i h1 h2 => ?_
 obtain rfl : i = 0 := by simp at h2; omega
 refine ⟨rfl, fun j hj => ?_, isEx_plain w 1 0 0 _, rfl, Nat.le_refl _, Or.inl ⟨rfl, rfl⟩, by unfold WbsD; trivial⟩
 have h8 : j < 8 := hj
 rw [blk_cell hq]
 (iterate 8 (cases j with | zero => rfl | succ j => ?_)) <;> omega
theorem more_decide {w : World} {s : List Attr} {l : List Cla} {f : ZI} {v : W12} (h : IsW12 w s l f v) (ho : HasOps w) {x : Cla} (hx : x.fit) (h0 : decErr s (l ++ [x]) f = 0) {D : Dec} (hD : decD s (l ++ [x]) f = D) : ∀ W, Ext w W -> ∀ (a : OA) (n c : Nat), n = l.length + 1 -> IsClas W (l ++ [x]) a n c ->
  Calls Tryz.prog 13 #[.agg #[.slice v.sa v.sn v.sc], .slice a n c, .slice v.fa v.fn v.fc] W (GivesE (.tuple #[.agg D.cells, .int .i64 0]) W) := by
 intro W hW a n c hn hc
 have h1 := decide_calls s (l ++ [x]) f (.agg #[.slice v.sa v.sn v.sc]) a n c v.fa v.fn v.fc W (h.sch.ext hW) (attrs_fits h.mem) (by have := (schema_attrs (schema_zero h.mem)).2.1; omega) hc (by have := h.len; omega) (fun y hy => by
  rcases List.mem_append.1 hy with hy | hy
  ·exact h.cfit y hy
  rw [List.mem_singleton.1 hy]; exact hx) (h.ints.ext hW) (by rw [h.ints.1, factsAll_len h.facts]; have := (schemas_ok s h.mem).2.2; omega) (ho.ext hW)
 unfold decV at h1
 rw [h0, hD] at h1
 exact h1
theorem dwrites_calls (da : OA) (dn dc : Nat) (w : World) (h2 : IntsAt w da dn) (hdn : dn <= 1000000000000000) (ho : HasOps w) :
  Calls Tryz.prog 7 #[.slice da dn dc] w (GivesE (.bool true) w) := by
 have HAW := hI (fun W (hW : Ext w W) => awake12_calls W (ho.ext hW))
 have HO := hI ho
 have HMA := hI (made12_calls da dn dc w h2 hdn)
 clear h2 ho
 go_enter Tryz.func7, Tryz.ntmps7
 go_wp2_with fail
 refine HMA.out.mono ?_
 rintro r w1 ⟨s, l, f, ⟨sa, sn, sc, la, ln, lc, fa, fn, fc⟩, bd, rfl, hiw, -, hx1⟩
 have hiw1 := hiw.mono (mask_sub _ _)
 obtain ⟨vs, hrows, hvl, hvc⟩ := hiw1.clas
 have hone := hiw1.one
 obtain ⟨lb, lo, hla, -⟩ := hrows.2.2.2 0 (by omega)
 dsimp only at hla hrows
 subst hla
 have HIW := hI hiw1
 have HX1 := hI hx1
 have hlen := hiw1.len
 have hln : ln = vs.length := hrows.1
 have HRW := hI hrows
 have HVC := hI hvc
 have HVL := hI hvl
 have HLN := hI hln
 have HVN := hI (show ∀ x ∈ vs, x.name ≠ ⟨#[119, 97, 114]⟩ from fun x hx e => by
  obtain ⟨i, hi, rfl⟩ := List.getElem_of_mem hx
  have h1 := (hvc i (by omega) hi).2.1
  exact hiw1.names (nm := ⟨#[119, 97, 114]⟩) (by decide) _ (List.getElem_mem (by omega)) (h1.symm.trans e))
 have HN1 := hI (show 1 <= ln /\ ln <= 10 by omega)
 clear hiw hiw1 hrows hvl hvc hx1 HMA hone hlen hln
 unfold W12.val
 go_upto_region 2 with fail
 obtain ⟨bw, hbw⟩ : ∃ bw : Nat, bw = w1.heap.size := ⟨_, rfl⟩
 obtain ⟨w5, hw5⟩ : ∃ w5, w5 = w1.alloc (.cells #[.slice sa sn sc, .slice (some ⟨lb, lo, none⟩) ln lc, .slice fa fn fc] 34) := ⟨_, rfl⟩
 have hx5 : Ext w1 w5 := by rw [hw5]; exact (Ext.refl _).alloc _
 have HW5 := hI (show w5.heap[bw]? = some (.cells #[.slice sa sn sc, .slice (some ⟨lb, lo, none⟩) ln lc, .slice fa fn fc] 34 (0, 0)) by rw [hw5, hbw]; exact alloc_new w1 _)
 have HX5 := hI hx5
 rw [<- hw5, <- hbw]
 clear hw5 hbw hx5
 go_upto_region 5 with fail
 obtain ⟨b5, hb5⟩ : ∃ b5 : Nat, b5 = w5.heap.size := ⟨_, rfl⟩
 obtain ⟨w6, hw6⟩ : ∃ w6, w6 = ((w5.alloc (.cells #[.int .i64 1, .string ⟨#[]⟩, .slice none 0 0, .int .i64 0, .int .i64 0, .slice none 0 0] 45)).alloc (.cells #[.int .i64 3, .string ⟨#[119, 97, 114]⟩, .int .i64 1, .string ⟨#[]⟩, .slice none 0 0, .int .i64 0, .int .i64 0, .slice none 0 0, .slice none 0 0, .int .i64 0] 48)).alloc (.cells #[.int .i64 3, .string ⟨#[119, 97, 114]⟩, .int .i64 1, .string ⟨#[]⟩, .slice none 0 0, .int .i64 0, .int .i64 0, .slice none 0 0, .slice none 0 0, .int .i64 0] 48) := ⟨_, rfl⟩
 have hx6 : Ext w5 w6 := by rw [hw6]; exact (((Ext.refl _).alloc _).alloc _).alloc _
 have HE6 := hI (show w6.heap[b5]? = some (.cells #[.int .i64 1, .string ⟨#[]⟩, .slice none 0 0, .int .i64 0, .int .i64 0, .slice none 0 0] 45 (0, 0)) by rw [hw6, hb5]; exact blk_alloc (blk_alloc (alloc_new w5 _)))
 have HC6 := hI (show w6.heap[b5 + 1]? = some (.cells #[.int .i64 3, .string ⟨#[119, 97, 114]⟩, .int .i64 1, .string ⟨#[]⟩, .slice none 0 0, .int .i64 0, .int .i64 0, .slice none 0 0, .slice none 0 0, .int .i64 0] 48 (0, 0)) by rw [hw6, hb5]; exact blk_alloc (alloc_atR (by simp)))
 have HY6 := hI (show w6.heap[b5 + 1 + 1]? = some (.cells #[.int .i64 3, .string ⟨#[119, 97, 114]⟩, .int .i64 1, .string ⟨#[]⟩, .slice none 0 0, .int .i64 0, .int .i64 0, .slice none 0 0, .slice none 0 0, .int .i64 0] 48 (0, 0)) by rw [hw6, hb5]; exact alloc_atR (by simp))
 have HB5 := hI (show w5.heap.size = b5 from hb5.symm)
 rw [<- hw6, <- hb5]
 have HX6 := hI hx6
 clear hw6 hb5 hx6
 obtain ⟨e0, e1, e2, e3, e4, e5, ef⟩ := blk6 HE6.out
 obtain ⟨y0, y1, y2, y3, y4, y5, y6, y7, y8, y9, yf⟩ := blk10 HY6.out
 have hlt6 := blk_lt HY6.out
 go_upto_region 6 with fail
 obtain ⟨gy, hgy⟩ : ∃ gy : Nat, gy = w6.heap.size := ⟨_, rfl⟩
 obtain ⟨w7, hw7⟩ : ∃ w7, w7 = (w6.setCell ⟨b5 + 1 + 1, 8, none⟩ (.slice (some ⟨w6.heap.size, 0, none⟩) 2 2)).alloc (.cells #[.string ⟨#[119]⟩, .int .i64 2, .string ⟨#[]⟩, .slice none 0 0, .int .i64 0, .int .i64 0, .slice none 0 0, .slice none 0 0, .string ⟨#[118]⟩, .int .i64 1, .string ⟨#[]⟩, .slice none 0 0, .int .i64 0, .int .i64 0, .slice none 0 0, .slice none 0 0] 53) := ⟨_, rfl⟩
 have hc7 : Chg [b5 + 1 + 1] w6 w7 := by rw [hw7]; exact ((Chg.refl _ _).setCell (Or.inl (by simp)) _).then (((Ext.refl _).alloc _).chg _)
 have HG7 := hI (show w7.heap[gy]? = some (.cells #[.string ⟨#[119]⟩, .int .i64 2, .string ⟨#[]⟩, .slice none 0 0, .int .i64 0, .int .i64 0, .slice none 0 0, .slice none 0 0, .string ⟨#[118]⟩, .int .i64 1, .string ⟨#[]⟩, .slice none 0 0, .int .i64 0, .int .i64 0, .slice none 0 0, .slice none 0 0] 53 (0, 0)) by rw [hw7, hgy]; exact alloc_atR (by simp))
 have HY7 := hI (show w7.heap[b5 + 1 + 1]? = some (.cells #[.int .i64 3, .string ⟨#[119, 97, 114]⟩, .int .i64 1, .string ⟨#[]⟩, .slice none 0 0, .int .i64 0, .int .i64 0, .slice none 0 0, .slice (some ⟨gy, 0, none⟩) 2 2, .int .i64 0] 48 (0, 0)) by
  rw [hw7, hgy]
  have := blk_alloc (o' := .cells #[.string ⟨#[119]⟩, .int .i64 2, .string ⟨#[]⟩, .slice none 0 0, .int .i64 0, .int .i64 0, .slice none 0 0, .slice none 0 0, .string ⟨#[118]⟩, .int .i64 1, .string ⟨#[]⟩, .slice none 0 0, .int .i64 0, .int .i64 0, .slice none 0 0, .slice none 0 0] 53) (heap_setCell_same w6 (b5 + 1 + 1) 8 _ _ (.slice (some ⟨w6.heap.size, 0, none⟩) 2 2) HY6.out)
  simpa using this)
 have HE7 := hI (hc7.blk HE6.out (by simp; omega))
 have HC7 := hI (hc7.blk HC6.out (by simp))
 have HX7 := hI (hc7.ext HX6.out (fun q hq => by simp only [List.mem_singleton] at hq; have := HB5.out; omega))
 rw [<- hw7]
 clear hw7 hc7 e0 e1 e2 e3 e4 e5 ef y0 y1 y2 y3 y4 y5 y6 y7 y8 y9 yf HY6 HE6 HC6 HX6 hgy hlt6
 obtain ⟨y0, y1, y2, y3, y4, y5, y6, y7, y8, y9, yf⟩ := blk10 HC7.out
 go_upto_region 7 with fail
 obtain ⟨b8, hb8⟩ : ∃ b8 : Nat, b8 = w7.heap.size := ⟨_, rfl⟩
 obtain ⟨w8, hw8⟩ : ∃ w8, w8 = w7.alloc (.cells #[.int .i64 3, .string ⟨#[119, 97, 114]⟩, .int .i64 1, .string ⟨#[]⟩, .slice none 0 0, .int .i64 0, .int .i64 0, .slice none 0 0, .slice none 0 0, .int .i64 0] 48) := ⟨_, rfl⟩
 have hx8 : Ext w7 w8 := by rw [hw8]; exact (Ext.refl _).alloc _
 have HZ8 := hI (show w8.heap[b8]? = some (.cells #[.int .i64 3, .string ⟨#[119, 97, 114]⟩, .int .i64 1, .string ⟨#[]⟩, .slice none 0 0, .int .i64 0, .int .i64 0, .slice none 0 0, .slice none 0 0, .int .i64 0] 48 (0, 0)) by rw [hw8, hb8]; exact alloc_new w7 _)
 have HE8 := hI (hx8.blk HE7.out)
 have HC8 := hI (hx8.blk HC7.out)
 have HY8 := hI (hx8.blk HY7.out)
 have HG8 := hI (hx8.blk HG7.out)
 have HX8 := hI (HX7.out.trans hx8)
 have hl1 := blk_lt HY7.out
 have hl2 := blk_lt HG7.out
 have HLT := hI (show b5 + 1 + 1 < b8 /\ gy < b8 /\ w5.heap.size <= b8 by have := HB5.out; omega)
 rw [<- hw8, <- hb8]
 clear hw8 hb8 hx8 y0 y1 y2 y3 y4 y5 y6 y7 y8 y9 yf HE7 HC7 HY7 HG7 HX7 hl1 hl2
 obtain ⟨e0, e1, e2, e3, e4, e5, ef⟩ := blk6 HE8.out
 obtain ⟨y0, y1, y2, y3, y4, y5, y6, y7, y8, y9, yf⟩ := blk10 HZ8.out
 have hlt8 := blk_lt HZ8.out
 go_upto_region 8 with fail
 obtain ⟨gu, hgu⟩ : ∃ gu : Nat, gu = w8.heap.size := ⟨_, rfl⟩
 obtain ⟨w9, hw9⟩ : ∃ w9, w9 = ((w8.setCell ⟨b8, 8, none⟩ (.slice (some ⟨w8.heap.size + 1, 0, none⟩) 1 1)).alloc (.cells #[.string ⟨#[117]⟩, .int .i64 1, .string ⟨#[]⟩, .slice none 0 0, .int .i64 0, .int .i64 0, .slice none 0 0, .slice none 0 0] 53)).alloc (.cells #[.string ⟨#[119]⟩, .int .i64 1, .string ⟨#[]⟩, .slice none 0 0, .int .i64 0, .int .i64 0, .slice none 0 0, .slice (some ⟨w8.heap.size, 0, none⟩) 1 1] 53) := ⟨_, rfl⟩
 have hc9 : Chg [b8] w8 w9 := by rw [hw9]; exact ((Chg.refl _ _).setCell (Or.inl (by simp)) _).then ((((Ext.refl _).alloc _).alloc _).chg _)
 have HU9 := hI (show w9.heap[gu]? = some (.cells #[.string ⟨#[117]⟩, .int .i64 1, .string ⟨#[]⟩, .slice none 0 0, .int .i64 0, .int .i64 0, .slice none 0 0, .slice none 0 0] 53 (0, 0)) by rw [hw9, hgu]; exact blk_alloc (alloc_atR (by simp)))
 have HV9 := hI (show w9.heap[gu + 1]? = some (.cells #[.string ⟨#[119]⟩, .int .i64 1, .string ⟨#[]⟩, .slice none 0 0, .int .i64 0, .int .i64 0, .slice none 0 0, .slice (some ⟨gu, 0, none⟩) 1 1] 53 (0, 0)) by rw [hw9, hgu]; exact alloc_atR (by simp))
 have HZ9 := hI (show w9.heap[b8]? = some (.cells #[.int .i64 3, .string ⟨#[119, 97, 114]⟩, .int .i64 1, .string ⟨#[]⟩, .slice none 0 0, .int .i64 0, .int .i64 0, .slice none 0 0, .slice (some ⟨gu + 1, 0, none⟩) 1 1, .int .i64 0] 48 (0, 0)) by
  rw [hw9, hgu]
  have := blk_alloc (o' := .cells #[.string ⟨#[119]⟩, .int .i64 1, .string ⟨#[]⟩, .slice none 0 0, .int .i64 0, .int .i64 0, .slice none 0 0, .slice (some ⟨w8.heap.size, 0, none⟩) 1 1] 53) (blk_alloc (o' := .cells #[.string ⟨#[117]⟩, .int .i64 1, .string ⟨#[]⟩, .slice none 0 0, .int .i64 0, .int .i64 0, .slice none 0 0, .slice none 0 0] 53) (heap_setCell_same w8 b8 8 _ _ (.slice (some ⟨w8.heap.size + 1, 0, none⟩) 1 1) HZ8.out))
  simpa using this)
 have HC9 := hI (hc9.blk HC8.out (by have := HLT.out; simp; omega))
 have HY9 := hI (hc9.blk HY8.out (by have := HLT.out; simp; omega))
 have HG9 := hI (hc9.blk HG8.out (by have := HLT.out; simp; omega))
 have HX9 := hI (hc9.ext HX8.out (fun q hq => by simp only [List.mem_singleton] at hq; have := HLT.out; omega))
 rw [<- hw9]
 clear hw9 hc9 hgu e0 e1 e2 e3 e4 e5 ef y0 y1 y2 y3 y4 y5 y6 y7 y8 y9 yf HE8 HC8 HY8 HG8 HZ8 HX8 HLT HB5 hlt8
 have HW9 := hI (HX9.out.blk HW5.out)
 have HXW := hI ((HX1.out.trans HX5.out).trans HX9.out)
 have HI9 := hI (HIW.out.mono (HX5.out.trans HX9.out).sub)
 have HO9 := hI (HO.out.ext HXW.out)
 have HRW9 := hI (show IsRows w9 10 ClV.cells vs (some ⟨lb, lo, none⟩) ln lc from ⟨HRW.out.1, HRW.out.2.1, HRW.out.2.2.1, fun i hi => by
  obtain ⟨b', o', e, hc⟩ := HRW.out.2.2.2 i hi
  exact ⟨b', o', e, fun j hj => (HX5.out.trans HX9.out).cell (hc j hj)⟩⟩)
 have HVC9 := hI (show ∀ i (h1 : i < l.length) (h2 : i < vs.length), IsCla w9 l[i] vs[i] from fun i h1 h2 => (HVC.out i h1 h2).mono (HX5.out.trans HX9.out).sub)
 obtain ⟨P0, P1, P2, P3, P4, P5, P6, P7⟩ := writes_plain HI9.out
 have HT0 := hI (decide_calls s l f (.agg #[.slice sa sn sc]) (some ⟨lb, lo, none⟩) ln lc fa fn fc w9 HI9.out.sch (attrs_fits HI9.out.mem) (by have := (schema_attrs (schema_zero HI9.out.mem)).2.1; omega) HI9.out.clas (by have := HN1.out; omega) HI9.out.cfit HI9.out.ints (by have h1 : fn = f.length := HI9.out.ints.1; rw [h1, factsAll_len HI9.out.facts]; have := (schemas_ok s HI9.out.mem).2.2; omega) HO9.out)
 have HTX := hI (more_decide HI9.out HO9.out (war_fit (Or.inl rfl)) P1 rfl)
 have HTY := hI (more_decide HI9.out HO9.out (war_fit (Or.inr (Or.inl rfl))) P2 P4)
 have HTZ := hI (more_decide HI9.out HO9.out (war_fit (Or.inr (Or.inr rfl))) P3 P5)
 unfold decV at HT0
 rw [P0] at HT0
 obtain ⟨A, hA⟩ : ∃ A, A = decD s l f := ⟨_, rfl⟩
 obtain ⟨B, hB⟩ : ∃ B, B = decD s (l ++ [warC []]) f := ⟨_, rfl⟩
 rw [<- hA] at HT0 HTY P7
 rw [<- hB] at HTX HTZ P6 P7
 clear hA hB P0 P1 P2 P3 P4 P5 HIW HI9 HO9 HRW HVC
 obtain ⟨a1, a2, a3, a4, a5, a6⟩ := A
 obtain ⟨b1, b2, b3, b4, b5', b6⟩ := B
 unfold Dec.cells at HT0 HTX HTY HTZ
 dsimp only at HT0 HTX HTY HTZ P6 P7
 have HXC := hI (warX w9)
 have HYC := hI (warY HG9.out)
 have HZC := hI (warZ HV9.out HU9.out)
 clear HG9 HV9 HU9
 obtain ⟨c0, c1, c2, cf⟩ := blk3 HW9.out
 go_wp2_with fail
 refine HT0.out.mono ?_
 rintro r wa ⟨rfl, hxa⟩
 go_upto_region 9 with fail
 obtain ⟨w10, hw10⟩ : ∃ w10, w10 = wa.alloc (.cells #[.int .i64 a1, .int .i64 a2, .int .i64 a3, .int .i64 a4, .int .i64 a5, .bool a6] 29) := ⟨_, rfl⟩
 have hxb : Ext wa w10 := by rw [hw10]; exact (Ext.refl _).alloc _
 obtain ⟨p0, hp0⟩ : ∃ p0 : Nat, p0 = wa.heap.size := ⟨_, rfl⟩
 have HP0 := hI (show w10.heap[p0]? = some (.cells #[.int .i64 a1, .int .i64 a2, .int .i64 a3, .int .i64 a4, .int .i64 a5, .bool a6] 29 (0, 0)) by rw [hw10, hp0]; exact alloc_new wa _)
 rw [<- hw10, <- hp0]
 have HX10 := hI (show Ext w9 w10 from hxa.trans hxb)
 clear hw10 hp0 hxa hxb c0 c1 c2 cf HT0
 obtain ⟨c0, c1, c2, cf⟩ := blk3 (HX10.out.blk HW9.out)
 obtain ⟨f0, f1, f2, f3, f4, f5, f6, f7, f8, f9, ff⟩ := blk10 (HX10.out.blk HC9.out)
 have C0 := win_cell c0
 have C1 := win_cell c1
 have C2 := win_cell c2
 have F0 := win_cell f0
 have F1 := win_cell f1
 have F2 := win_cell f2
 have F3 := win_cell f3
 have F4 := win_cell f4
 have F5 := win_cell f5
 have F6 := win_cell f6
 have F7 := win_cell f7
 have F8 := win_cell f8
 have F9 := win_cell f9
 refine chn_start (m := 18) (Er := ErM w10.heap.size ⟨#[119, 97, 114]⟩) (C := Ext w10) (Φ := fun _ => True) (ErM.refl _ _) (fun _ _ h => ErM.of h) (fun _ _ h q => ErM.ext h q) (Ext.refl w10).drew trivial (fun _ _ _ h => h) ?_
 repeat (refine chn_plain ?_; intro K hK; go_big_quiet_op; go_big_quiet_on)
 refine chn_call (γ := Nat) (fun g => .slice (some ⟨g, 0, none⟩) 0 0) (fun g W => w10.heap.size <= g /\ W.heap[g]? = some (.cells #[] 48 (0, 0))) (fun W hW _ _ => ?_) (fun g W W' hx h => ⟨h.1, hx.blk h.2⟩) ?_ ⟨0⟩
 ·unfold GivesOp; go_simp
  exact ⟨ErM.of ((Ext.refl W).alloc _), W.heap.size, rfl, hW.size, alloc_new W _⟩
 intro g0 K hK; go_simp; go_big_quiet_on
 repeat (refine chn_plain ?_; intro K hK; go_big_quiet_op; go_big_quiet_on)
 refine chn_call (γ := Nat × Nat) (fun q => .slice (some ⟨q.1, 0, none⟩) ln q.2) (fun q W => W.ownsRow w10.heap.size 48 10 (.slice (some ⟨q.1, 0, none⟩) ln q.2) ln (vs.flatMap ClV.cells)) (fun W hW h _ => ?_) (fun q W W' hx h => owns_chg h (hx.chg []) (by simp)) ?_ ⟨(0, 0)⟩
 ·refine gives_appendA elemCla _ _ w10.heap.size (.slice (some ⟨g0, 0, none⟩) 0 0) 0 [] rfl lb lo ln lc (vs.flatMap ClV.cells) rfl (by rw [HLN.out]; exact length_flatMap_of ClV.cells 10 (fun _ => rfl) vs) (cla_one vs) (by have := HN1.out; omega) (by have := HN1.out; omega) (by omega) ⟨rfl, Or.inr ⟨g0, 0, #[], rfl, h.1, h.2, Nat.le_refl _, by unfold maxLen; omega, rfl, rfl⟩⟩ (fun j hj => hW.cell (HX10.out.cell (rows_flat HRW9.out j hj))) hW.size ?_
  intro g cap w' ho hg _ _
  exact ⟨ErM.row (vs := []) (v := .slice (some ⟨g0, 0, none⟩) 0 0) ⟨rfl, Or.inr ⟨g0, 0, #[], rfl, h.1, h.2, Nat.le_refl _, by unfold maxLen; omega, rfl, rfl⟩⟩ (Or.inl rfl) (fun _ q hq => by
   have e : g0 = q := by simpa [Value.ownBlock] using hq
   subst e
   exact ⟨_, h.2⟩) hg, (g, cap), by simp, by simpa using ho⟩
 rintro ⟨g1, q1⟩ K hK; go_simp; go_big_quiet_on
 repeat (refine chn_plain ?_; intro K hK; go_big_quiet_op; go_big_quiet_on)
 refine chn_new (fun g => .slice (some ⟨g, 0, none⟩) 1 1) (fun g W => W.heap[g]? = some (.cells #[.int .i64 3, .string ⟨#[119, 97, 114]⟩, .int .i64 1, .string ⟨#[]⟩, .slice none 0 0, .int .i64 0, .int .i64 0, .slice none 0 0, .slice none 0 0, .int .i64 0] 48 (0, 0))) (fun W hW => ?_) (fun g W W' h q => h.clause q rfl rfl) ?_
 ·unfold GivesOp; go_simp
  exact ⟨(Ext.refl W).alloc _, W.heap.size, rfl, alloc_new W _⟩
 intro g2 K hK; go_simp; go_big_quiet_on
 refine chn_call (γ := Nat × Nat) (fun q => .slice (some ⟨q.1, 0, none⟩) (ln + 1) q.2) (fun q W => W.ownsRow w10.heap.size 48 10 (.slice (some ⟨q.1, 0, none⟩) (ln + 1) q.2) (ln + 1) ((vs ++ [warV none 0]).flatMap ClV.cells)) (fun W hW h hF => ?_) (fun q W W' hx h => owns_chg h (hx.chg []) (by simp)) ?_ ⟨(0, 0)⟩
 ·refine gives_appendA elemCla _ _ w10.heap.size (.slice (some ⟨g1, 0, none⟩) ln q1) ln _ rfl g2 0 1 1 ((warV none 0).cells) rfl rfl (by simpa using cla_one [warV none 0]) (by omega) (by have := HN1.out; omega) (by omega) h (fun j hj => by rw [blk_cell hF.2, Nat.zero_add]; simp [ClV.cells, warV, lit0]) hW.size ?_
  intro g cap w' ho hg _ _
  exact ⟨ErM.row h (Or.inr HVN.out) (fun e => by have := HN1.out; omega) hg, (g, cap), rfl, by simpa using ho⟩
 rintro ⟨g3, q3⟩ K hK; go_simp; go_big_quiet_on
 repeat (refine chn_plain ?_; intro K hK; go_big_quiet_op; go_big_quiet_on)
 refine chn_known (.tuple #[.agg #[.int .i64 b1, .int .i64 b2, .int .i64 b3, .int .i64 b4, .int .i64 b5', .bool b6], .int .i64 0]) (fun _ => True) (fun W hW h _ => ?_) (fun _ _ _ h => h) ?_
 ·unfold GivesOp; go_simp
  refine (HTX.out W (HX10.out.trans hW) (some ⟨g3, 0, none⟩) (ln + 1) q3 (by rw [HLN.out, HVL.out]) (more_clas h (by simp [HLN.out]) HVL.out (HX10.out.trans hW) HVC9.out HXC.out)).mono ?_
  rintro r wz ⟨rfl, hxz⟩
  exact ⟨_, rfl, ErM.of hxz, rfl, trivial⟩
 intro K hK; go_simp; go_big_quiet_on
 repeat (refine chn_plain ?_; intro K hK; go_big_quiet_op; go_big_quiet_on)
 refine chn_new (fun g => .pointer (some ⟨g, 0, none⟩)) (fun g W => w10.heap.size <= g /\ ∃ c, W.heap[g]? = some (.cells c 29 (0, 0)) /\ c.size = 6) (fun W hW => ?_) (fun g W W' h ⟨k1, c, k2, k3⟩ => ?_) ?_
 ·unfold GivesOp; go_simp
  exact ⟨(Ext.refl W).alloc _, W.heap.size, rfl, hW.size, _, alloc_new W _, rfl⟩
 ·obtain ⟨c', e1, e2⟩ := h.shape k2 k3
  exact ⟨k1, c', e1, e2⟩
 intro p1 K hK; go_simp; go_big_quiet_on
 refine chn_known undef (fun W => W.heap[p1]? = some (.cells #[.int .i64 b1, .int .i64 b2, .int .i64 b3, .int .i64 b4, .int .i64 b5', .bool b6] 29 (0, 0))) (fun W hW _ hF => ?_) (fun W W' h q => h.blk q) ?_
 ·obtain ⟨_, hyl, c, hyb, hcs⟩ := hF
  obtain ⟨v0, v1, v2, v3, v4, v5, rfl⟩ := arr6 hcs
  obtain ⟨z0, z1, z2, z3, z4, z5, zf⟩ := blk6d hyb
  have hlt := blk_lt hyb
  have HP := hI (put6d_blk hyb (v0 := .int .i64 b1) (v1 := .int .i64 b2) (v2 := .int .i64 b3) (v3 := .int .i64 b4) (v4 := .int .i64 b5') (v5 := .bool b6))
  have HQ := hI (put6d_chg W p1 (v0 := .int .i64 b1) (v1 := .int .i64 b2) (v2 := .int .i64 b3) (v3 := .int .i64 b4) (v4 := .int .i64 b5') (v5 := .bool b6))
  have HY := hI hyb
  clear hyb
  unfold put6d at HP HQ
  unfold GivesOp; go_simp
  exact ⟨⟨[p1], HQ.out, fun j hj => by
   rw [List.mem_singleton.1 hj]
   exact ⟨hyl, fun cs t hb => by
    rw [HY.out] at hb
    simp only [Option.some.injEq, Obj.cells.injEq] at hb
    obtain ⟨rfl, rfl, _⟩ := hb
    exact ⟨fun h => by simp at h, fun _ => ⟨_, HP.out, rfl⟩⟩⟩⟩, rfl, HP.out⟩
 intro K hK; go_simp; go_big_quiet_on
 repeat (refine chn_plain ?_; intro K hK; go_big_quiet_op; go_big_quiet_on)
 refine chn_nil fun w11 hx hy _ => ?_
 have HX11 := hI (HX10.out.trans hx)
 have HS11 := hI hx
 have HP11 := hI hy
 clear hx hy c0 c1 c2 cf f0 f1 f2 f3 f4 f5 f6 f7 f8 f9 ff C0 C1 C2 F0 F1 F2 F3 F4 F5 F6 F7 F8 F9 HX10 HTX HXC HC9
 go_upto_region 10 with fail
 obtain ⟨c0, c1, c2, cf⟩ := blk3 (HX11.out.blk HW9.out)
 obtain ⟨f0, f1, f2, f3, f4, f5, f6, f7, f8, f9, ff⟩ := blk10 (HX11.out.blk HY9.out)
 have C0 := win_cell c0
 have C1 := win_cell c1
 have C2 := win_cell c2
 have F0 := win_cell f0
 have F1 := win_cell f1
 have F2 := win_cell f2
 have F3 := win_cell f3
 have F4 := win_cell f4
 have F5 := win_cell f5
 have F6 := win_cell f6
 have F7 := win_cell f7
 have F8 := win_cell f8
 have F9 := win_cell f9
 refine chn_start (m := 18) (Er := ErM w11.heap.size ⟨#[119, 97, 114]⟩) (C := Ext w11) (Φ := fun _ => True) (ErM.refl _ _) (fun _ _ h => ErM.of h) (fun _ _ h q => ErM.ext h q) (Ext.refl w11).drew trivial (fun _ _ _ h => h) ?_
 repeat (refine chn_plain ?_; intro K hK; go_big_quiet_op; go_big_quiet_on)
 refine chn_call (γ := Nat) (fun g => .slice (some ⟨g, 0, none⟩) 0 0) (fun g W => w11.heap.size <= g /\ W.heap[g]? = some (.cells #[] 48 (0, 0))) (fun W hW _ _ => ?_) (fun g W W' hx h => ⟨h.1, hx.blk h.2⟩) ?_ ⟨0⟩
 ·unfold GivesOp; go_simp
  exact ⟨ErM.of ((Ext.refl W).alloc _), W.heap.size, rfl, hW.size, alloc_new W _⟩
 intro g0 K hK; go_simp; go_big_quiet_on
 repeat (refine chn_plain ?_; intro K hK; go_big_quiet_op; go_big_quiet_on)
 refine chn_call (γ := Nat × Nat) (fun q => .slice (some ⟨q.1, 0, none⟩) ln q.2) (fun q W => W.ownsRow w11.heap.size 48 10 (.slice (some ⟨q.1, 0, none⟩) ln q.2) ln (vs.flatMap ClV.cells)) (fun W hW h _ => ?_) (fun q W W' hx h => owns_chg h (hx.chg []) (by simp)) ?_ ⟨(0, 0)⟩
 ·refine gives_appendA elemCla _ _ w11.heap.size (.slice (some ⟨g0, 0, none⟩) 0 0) 0 [] rfl lb lo ln lc (vs.flatMap ClV.cells) rfl (by rw [HLN.out]; exact length_flatMap_of ClV.cells 10 (fun _ => rfl) vs) (cla_one vs) (by have := HN1.out; omega) (by have := HN1.out; omega) (by omega) ⟨rfl, Or.inr ⟨g0, 0, #[], rfl, h.1, h.2, Nat.le_refl _, by unfold maxLen; omega, rfl, rfl⟩⟩ (fun j hj => hW.cell (HX11.out.cell (rows_flat HRW9.out j hj))) hW.size ?_
  intro g cap w' ho hg _ _
  exact ⟨ErM.row (vs := []) (v := .slice (some ⟨g0, 0, none⟩) 0 0) ⟨rfl, Or.inr ⟨g0, 0, #[], rfl, h.1, h.2, Nat.le_refl _, by unfold maxLen; omega, rfl, rfl⟩⟩ (Or.inl rfl) (fun _ q hq => by
   have e : g0 = q := by simpa [Value.ownBlock] using hq
   subst e
   exact ⟨_, h.2⟩) hg, (g, cap), by simp, by simpa using ho⟩
 rintro ⟨g1, q1⟩ K hK; go_simp; go_big_quiet_on
 repeat (refine chn_plain ?_; intro K hK; go_big_quiet_op; go_big_quiet_on)
 refine chn_new (fun g => .slice (some ⟨g, 0, none⟩) 1 1) (fun g W => W.heap[g]? = some (.cells #[.int .i64 3, .string ⟨#[119, 97, 114]⟩, .int .i64 1, .string ⟨#[]⟩, .slice none 0 0, .int .i64 0, .int .i64 0, .slice none 0 0, .slice (some ⟨gy, 0, none⟩) 2 2, .int .i64 0] 48 (0, 0))) (fun W hW => ?_) (fun g W W' h q => h.clause q rfl rfl) ?_
 ·unfold GivesOp; go_simp
  exact ⟨(Ext.refl W).alloc _, W.heap.size, rfl, alloc_new W _⟩
 intro g2 K hK; go_simp; go_big_quiet_on
 refine chn_call (γ := Nat × Nat) (fun q => .slice (some ⟨q.1, 0, none⟩) (ln + 1) q.2) (fun q W => W.ownsRow w11.heap.size 48 10 (.slice (some ⟨q.1, 0, none⟩) (ln + 1) q.2) (ln + 1) ((vs ++ [warV (some ⟨gy, 0, none⟩) 2]).flatMap ClV.cells)) (fun W hW h hF => ?_) (fun q W W' hx h => owns_chg h (hx.chg []) (by simp)) ?_ ⟨(0, 0)⟩
 ·refine gives_appendA elemCla _ _ w11.heap.size (.slice (some ⟨g1, 0, none⟩) ln q1) ln _ rfl g2 0 1 1 ((warV (some ⟨gy, 0, none⟩) 2).cells) rfl rfl (by simpa using cla_one [warV (some ⟨gy, 0, none⟩) 2]) (by omega) (by have := HN1.out; omega) (by omega) h (fun j hj => by rw [blk_cell hF.2, Nat.zero_add]; simp [ClV.cells, warV, lit0]) hW.size ?_
  intro g cap w' ho hg _ _
  exact ⟨ErM.row h (Or.inr HVN.out) (fun e => by have := HN1.out; omega) hg, (g, cap), rfl, by simpa using ho⟩
 rintro ⟨g3, q3⟩ K hK; go_simp; go_big_quiet_on
 repeat (refine chn_plain ?_; intro K hK; go_big_quiet_op; go_big_quiet_on)
 refine chn_known (.tuple #[.agg #[.int .i64 a1, .int .i64 a2, .int .i64 a3, .int .i64 a4, .int .i64 a5, .bool a6], .int .i64 0]) (fun _ => True) (fun W hW h _ => ?_) (fun _ _ _ h => h) ?_
 ·unfold GivesOp; go_simp
  refine (HTY.out W (HX11.out.trans hW) (some ⟨g3, 0, none⟩) (ln + 1) q3 (by rw [HLN.out, HVL.out]) (more_clas h (by simp [HLN.out]) HVL.out (HX11.out.trans hW) HVC9.out HYC.out)).mono ?_
  rintro r wz ⟨rfl, hxz⟩
  exact ⟨_, rfl, ErM.of hxz, rfl, trivial⟩
 intro K hK; go_simp; go_big_quiet_on
 repeat (refine chn_plain ?_; intro K hK; go_big_quiet_op; go_big_quiet_on)
 refine chn_new (fun g => .pointer (some ⟨g, 0, none⟩)) (fun g W => w11.heap.size <= g /\ ∃ c, W.heap[g]? = some (.cells c 29 (0, 0)) /\ c.size = 6) (fun W hW => ?_) (fun g W W' h ⟨k1, c, k2, k3⟩ => ?_) ?_
 ·unfold GivesOp; go_simp
  exact ⟨(Ext.refl W).alloc _, W.heap.size, rfl, hW.size, _, alloc_new W _, rfl⟩
 ·obtain ⟨c', e1, e2⟩ := h.shape k2 k3
  exact ⟨k1, c', e1, e2⟩
 intro p2 K hK; go_simp; go_big_quiet_on
 refine chn_known undef (fun W => W.heap[p2]? = some (.cells #[.int .i64 a1, .int .i64 a2, .int .i64 a3, .int .i64 a4, .int .i64 a5, .bool a6] 29 (0, 0))) (fun W hW _ hF => ?_) (fun W W' h q => h.blk q) ?_
 ·obtain ⟨_, hyl, c, hyb, hcs⟩ := hF
  obtain ⟨v0, v1, v2, v3, v4, v5, rfl⟩ := arr6 hcs
  obtain ⟨z0, z1, z2, z3, z4, z5, zf⟩ := blk6d hyb
  have hlt := blk_lt hyb
  have HP := hI (put6d_blk hyb (v0 := .int .i64 a1) (v1 := .int .i64 a2) (v2 := .int .i64 a3) (v3 := .int .i64 a4) (v4 := .int .i64 a5) (v5 := .bool a6))
  have HQ := hI (put6d_chg W p2 (v0 := .int .i64 a1) (v1 := .int .i64 a2) (v2 := .int .i64 a3) (v3 := .int .i64 a4) (v4 := .int .i64 a5) (v5 := .bool a6))
  have HY := hI hyb
  clear hyb
  unfold put6d at HP HQ
  unfold GivesOp; go_simp
  exact ⟨⟨[p2], HQ.out, fun j hj => by
   rw [List.mem_singleton.1 hj]
   exact ⟨hyl, fun cs t hb => by
    rw [HY.out] at hb
    simp only [Option.some.injEq, Obj.cells.injEq] at hb
    obtain ⟨rfl, rfl, _⟩ := hb
    exact ⟨fun h => by simp at h, fun _ => ⟨_, HP.out, rfl⟩⟩⟩⟩, rfl, HP.out⟩
 intro K hK; go_simp; go_big_quiet_on
 repeat (refine chn_plain ?_; intro K hK; go_big_quiet_op; go_big_quiet_on)
 refine chn_nil fun w12 hx hy _ => ?_
 have HX12 := hI (HX11.out.trans hx)
 have HS12 := hI hx
 have HP12 := hI hy
 clear hx hy c0 c1 c2 cf f0 f1 f2 f3 f4 f5 f6 f7 f8 f9 ff C0 C1 C2 F0 F1 F2 F3 F4 F5 F6 F7 F8 F9 HX11 HTY HYC HY9
 go_upto_region 11 with fail
 obtain ⟨c0, c1, c2, cf⟩ := blk3 (HX12.out.blk HW9.out)
 obtain ⟨f0, f1, f2, f3, f4, f5, f6, f7, f8, f9, ff⟩ := blk10 (HX12.out.blk HZ9.out)
 have C0 := win_cell c0
 have C1 := win_cell c1
 have C2 := win_cell c2
 have F0 := win_cell f0
 have F1 := win_cell f1
 have F2 := win_cell f2
 have F3 := win_cell f3
 have F4 := win_cell f4
 have F5 := win_cell f5
 have F6 := win_cell f6
 have F7 := win_cell f7
 have F8 := win_cell f8
 have F9 := win_cell f9
 refine chn_start (m := 18) (Er := ErM w12.heap.size ⟨#[119, 97, 114]⟩) (C := Ext w12) (Φ := fun _ => True) (ErM.refl _ _) (fun _ _ h => ErM.of h) (fun _ _ h q => ErM.ext h q) (Ext.refl w12).drew trivial (fun _ _ _ h => h) ?_
 repeat (refine chn_plain ?_; intro K hK; go_big_quiet_op; go_big_quiet_on)
 refine chn_call (γ := Nat) (fun g => .slice (some ⟨g, 0, none⟩) 0 0) (fun g W => w12.heap.size <= g /\ W.heap[g]? = some (.cells #[] 48 (0, 0))) (fun W hW _ _ => ?_) (fun g W W' hx h => ⟨h.1, hx.blk h.2⟩) ?_ ⟨0⟩
 ·unfold GivesOp; go_simp
  exact ⟨ErM.of ((Ext.refl W).alloc _), W.heap.size, rfl, hW.size, alloc_new W _⟩
 intro g0 K hK; go_simp; go_big_quiet_on
 repeat (refine chn_plain ?_; intro K hK; go_big_quiet_op; go_big_quiet_on)
 refine chn_call (γ := Nat × Nat) (fun q => .slice (some ⟨q.1, 0, none⟩) ln q.2) (fun q W => W.ownsRow w12.heap.size 48 10 (.slice (some ⟨q.1, 0, none⟩) ln q.2) ln (vs.flatMap ClV.cells)) (fun W hW h _ => ?_) (fun q W W' hx h => owns_chg h (hx.chg []) (by simp)) ?_ ⟨(0, 0)⟩
 ·refine gives_appendA elemCla _ _ w12.heap.size (.slice (some ⟨g0, 0, none⟩) 0 0) 0 [] rfl lb lo ln lc (vs.flatMap ClV.cells) rfl (by rw [HLN.out]; exact length_flatMap_of ClV.cells 10 (fun _ => rfl) vs) (cla_one vs) (by have := HN1.out; omega) (by have := HN1.out; omega) (by omega) ⟨rfl, Or.inr ⟨g0, 0, #[], rfl, h.1, h.2, Nat.le_refl _, by unfold maxLen; omega, rfl, rfl⟩⟩ (fun j hj => hW.cell (HX12.out.cell (rows_flat HRW9.out j hj))) hW.size ?_
  intro g cap w' ho hg _ _
  exact ⟨ErM.row (vs := []) (v := .slice (some ⟨g0, 0, none⟩) 0 0) ⟨rfl, Or.inr ⟨g0, 0, #[], rfl, h.1, h.2, Nat.le_refl _, by unfold maxLen; omega, rfl, rfl⟩⟩ (Or.inl rfl) (fun _ q hq => by
   have e : g0 = q := by simpa [Value.ownBlock] using hq
   subst e
   exact ⟨_, h.2⟩) hg, (g, cap), by simp, by simpa using ho⟩
 rintro ⟨g1, q1⟩ K hK; go_simp; go_big_quiet_on
 repeat (refine chn_plain ?_; intro K hK; go_big_quiet_op; go_big_quiet_on)
 refine chn_new (fun g => .slice (some ⟨g, 0, none⟩) 1 1) (fun g W => W.heap[g]? = some (.cells #[.int .i64 3, .string ⟨#[119, 97, 114]⟩, .int .i64 1, .string ⟨#[]⟩, .slice none 0 0, .int .i64 0, .int .i64 0, .slice none 0 0, .slice (some ⟨gu + 1, 0, none⟩) 1 1, .int .i64 0] 48 (0, 0))) (fun W hW => ?_) (fun g W W' h q => h.clause q rfl rfl) ?_
 ·unfold GivesOp; go_simp
  exact ⟨(Ext.refl W).alloc _, W.heap.size, rfl, alloc_new W _⟩
 intro g2 K hK; go_simp; go_big_quiet_on
 refine chn_call (γ := Nat × Nat) (fun q => .slice (some ⟨q.1, 0, none⟩) (ln + 1) q.2) (fun q W => W.ownsRow w12.heap.size 48 10 (.slice (some ⟨q.1, 0, none⟩) (ln + 1) q.2) (ln + 1) ((vs ++ [warV (some ⟨gu + 1, 0, none⟩) 1]).flatMap ClV.cells)) (fun W hW h hF => ?_) (fun q W W' hx h => owns_chg h (hx.chg []) (by simp)) ?_ ⟨(0, 0)⟩
 ·refine gives_appendA elemCla _ _ w12.heap.size (.slice (some ⟨g1, 0, none⟩) ln q1) ln _ rfl g2 0 1 1 ((warV (some ⟨gu + 1, 0, none⟩) 1).cells) rfl rfl (by simpa using cla_one [warV (some ⟨gu + 1, 0, none⟩) 1]) (by omega) (by have := HN1.out; omega) (by omega) h (fun j hj => by rw [blk_cell hF.2, Nat.zero_add]; simp [ClV.cells, warV, lit0]) hW.size ?_
  intro g cap w' ho hg _ _
  exact ⟨ErM.row h (Or.inr HVN.out) (fun e => by have := HN1.out; omega) hg, (g, cap), rfl, by simpa using ho⟩
 rintro ⟨g3, q3⟩ K hK; go_simp; go_big_quiet_on
 repeat (refine chn_plain ?_; intro K hK; go_big_quiet_op; go_big_quiet_on)
 refine chn_known (.tuple #[.agg #[.int .i64 b1, .int .i64 b2, .int .i64 b3, .int .i64 b4, .int .i64 b5', .bool b6], .int .i64 0]) (fun _ => True) (fun W hW h _ => ?_) (fun _ _ _ h => h) ?_
 ·unfold GivesOp; go_simp
  refine (HTZ.out W (HX12.out.trans hW) (some ⟨g3, 0, none⟩) (ln + 1) q3 (by rw [HLN.out, HVL.out]) (more_clas h (by simp [HLN.out]) HVL.out (HX12.out.trans hW) HVC9.out HZC.out)).mono ?_
  rintro r wz ⟨rfl, hxz⟩
  exact ⟨_, rfl, ErM.of hxz, rfl, trivial⟩
 intro K hK; go_simp; go_big_quiet_on
 repeat (refine chn_plain ?_; intro K hK; go_big_quiet_op; go_big_quiet_on)
 refine chn_new (fun g => .pointer (some ⟨g, 0, none⟩)) (fun g W => w12.heap.size <= g /\ ∃ c, W.heap[g]? = some (.cells c 29 (0, 0)) /\ c.size = 6) (fun W hW => ?_) (fun g W W' h ⟨k1, c, k2, k3⟩ => ?_) ?_
 ·unfold GivesOp; go_simp
  exact ⟨(Ext.refl W).alloc _, W.heap.size, rfl, hW.size, _, alloc_new W _, rfl⟩
 ·obtain ⟨c', e1, e2⟩ := h.shape k2 k3
  exact ⟨k1, c', e1, e2⟩
 intro p3 K hK; go_simp; go_big_quiet_on
 refine chn_known undef (fun W => W.heap[p3]? = some (.cells #[.int .i64 b1, .int .i64 b2, .int .i64 b3, .int .i64 b4, .int .i64 b5', .bool b6] 29 (0, 0))) (fun W hW _ hF => ?_) (fun W W' h q => h.blk q) ?_
 ·obtain ⟨_, hyl, c, hyb, hcs⟩ := hF
  obtain ⟨v0, v1, v2, v3, v4, v5, rfl⟩ := arr6 hcs
  obtain ⟨z0, z1, z2, z3, z4, z5, zf⟩ := blk6d hyb
  have hlt := blk_lt hyb
  have HP := hI (put6d_blk hyb (v0 := .int .i64 b1) (v1 := .int .i64 b2) (v2 := .int .i64 b3) (v3 := .int .i64 b4) (v4 := .int .i64 b5') (v5 := .bool b6))
  have HQ := hI (put6d_chg W p3 (v0 := .int .i64 b1) (v1 := .int .i64 b2) (v2 := .int .i64 b3) (v3 := .int .i64 b4) (v4 := .int .i64 b5') (v5 := .bool b6))
  have HY := hI hyb
  clear hyb
  unfold put6d at HP HQ
  unfold GivesOp; go_simp
  exact ⟨⟨[p3], HQ.out, fun j hj => by
   rw [List.mem_singleton.1 hj]
   exact ⟨hyl, fun cs t hb => by
    rw [HY.out] at hb
    simp only [Option.some.injEq, Obj.cells.injEq] at hb
    obtain ⟨rfl, rfl, _⟩ := hb
    exact ⟨fun h => by simp at h, fun _ => ⟨_, HP.out, rfl⟩⟩⟩⟩, rfl, HP.out⟩
 intro K hK; go_simp; go_big_quiet_on
 repeat (refine chn_plain ?_; intro K hK; go_big_quiet_op; go_big_quiet_on)
 refine chn_nil fun w13 hx hy _ => ?_
 have HX13 := hI (HX12.out.trans hx)
 have HS13 := hI hx
 have HP13 := hI hy
 clear hx hy c0 c1 c2 cf f0 f1 f2 f3 f4 f5 f6 f7 f8 f9 ff C0 C1 C2 F0 F1 F2 F3 F4 F5 F6 F7 F8 F9 HX12 HTZ HZC HZ9
 go_upto_region 12 with fail
 have HQ0 := hI (HS13.out.blk (HS12.out.blk (HS11.out.blk HP0.out)))
 have HQ1 := hI (HS13.out.blk (HS12.out.blk HP11.out))
 have HQ2 := hI (HS13.out.blk HP12.out)
 obtain ⟨r0, r1, r2, r3, r4, r5, rf⟩ := blk6d HQ0.out
 obtain ⟨q0, q1, q2, q3, q4, q5, qf⟩ := blk6d HQ1.out
 obtain ⟨u0, u1, u2, u3, u4, u5, uf⟩ := blk6d HQ2.out
 obtain ⟨x0, x1, x2, x3, x4, x5, xf⟩ := blk6d HP13.out
 have HXZ := hI (HXW.out.trans HX13.out)
 have t1 : (b1 != 4) = true := by simpa using P6
 clear HQ0 HQ1 HQ2 HP0 HP11 HP12 HP13 HS11 HS12 HS13
 by_cases h4 : a1 = 4
 case' pos =>
  have t2 : (a1 != 4) = false := by simp [h4]
  have t3 : (b1 == 3) = true := by rcases P7 with h | h; exact absurd h4 h; simp [h]
 case' neg =>
  have t2 : (a1 != 4) = true := by simp [h4]
 all_goals
  clear h4 P6 P7
  go_wp2_with fail
  refine (HAW.out w13 HXZ.out).mono ?_
  rintro r w17 ⟨rfl, hx17⟩
  have HXY := hI (HXZ.out.trans hx17)
  clear hx17
  go_wp2_with fail
  go_ret
  exact givesE_bool (by simp) HXY.out
end Go.Proofs.YtefjomofjejklaaGreatDoor
