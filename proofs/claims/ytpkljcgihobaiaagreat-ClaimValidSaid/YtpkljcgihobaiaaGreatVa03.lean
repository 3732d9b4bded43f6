/-
  Texts of the claim, joined: VldW.
-/
import Derived.Test.YtpkljcgihobaiaaGreatVa02
namespace Go.Proofs.YtpkljcgihobaiaaGreat
set_option maxRecDepth 100000
set_option maxHeartbeats 32000000
open Go.RowKit
theorem ev_itemsV {s : List Attr} {l : List Ev} {x : Ev} (h : evErr s l x = 0) : x.items.length <= 64 := by
 rw [evErr_ref] at h
 by_cases h1 : inB 1 1048576 x.number = false \/ inB 0 876599 x.known = false
 ·rw [if_pos h1] at h; cases h
 rw [if_neg h1] at h
 by_cases h2 : orderB l x = true
 ·rw [if_pos h2] at h; cases h
 rw [if_neg h2] at h
 have h3 : rEvErr s x = 0 := by
  by_cases h4 : rEvErr s x ≠ 0
  ·rw [if_pos h4] at h; exact h
  simpa using h4
 unfold rEvErr at h3
 by_cases h5 : inB 1 7 x.kind = false
 ·rw [if_pos h5] at h3; cases h3
 rw [if_neg h5] at h3
 by_cases h6 : fieldB x = true
 ·rw [if_pos h6] at h3; cases h3
 rw [if_neg h6] at h3
 unfold rPart at h3
 by_cases hk : x.kind = 1 \/ x.kind = 2
 ·rw [if_pos hk] at h3
  by_cases h7 : 64 < x.items.length
  ·rw [if_pos h7] at h3; cases h3
  omega
 have hk1 : (x.kind == 1) = false := by simp; omega
 have hk2 : (x.kind == 2) = false := by simp; omega
 unfold fieldB at h6
 rw [hk1, hk2] at h6
 simp only [Bool.or_self, Bool.not_false, Bool.and_true, Bool.or_eq_true, not_or, decide_eq_true_eq] at h6
 omega
theorem made_ok {attrs : List Attr} {id : Int} {c : Clm} (hm : attrs ∈ schemas) (h : ClmMade attrs id c) : clmErr attrs c = 0 := by
 rw [clm_evs (schema_zero hm) h.1 (by have := h.2.2.2.1; omega)]
 exact evsErr_zero h.2.2.2.2.1
theorem intsAt_extV {w w' : World} {a : OA} {n : Nat} (h : IntsAt w a n) (hx : Ext w w') : IntsAt w' a n := fun i hi => by
 obtain ⟨b, off, z, e, hc⟩ := h i hi
 exact ⟨b, off, z, e, hx.cell hc⟩
def GnSp (k : Nat) (W W' : World) : Prop := (k ≠ 5 -> Ext W W') /\ (k = 5 -> ∃ (bd : Nat) (la : OA) (ln lc : Nat) (q : Int), Chg [bd] W W' /\ W.heap[bd]? = some (.cells #[.slice la ln lc, .int .i64 q] 74 (0, 0)))
theorem gnsp {k : Nat} {W W' : World} (h : Ext W W') (hk : k ≠ 5) : GnSp k W W' := ⟨fun _ => h, fun e => absurd e hk⟩
def EvM (v : Value) (W : World) : Prop := ∃ (c9 : Clm) (a9 : OA) (n9 q9 : Nat), v = .agg #[.int .i64 c9.id, .int .i64 c9.policy, .int .i64 c9.risk, .int .i64 c9.hour, .int .i64 c9.peril, .int .i64 c9.area, .slice a9 n9 q9] /\ IsEvs W c9.events a9 n9 q9 /\ c9.events.length <= 100 /\ ∀ y ∈ c9.events, fewEv y
theorem EvM.mono {v : Value} {W W' : World} (h : EvM v W) (hs : Sub W W') : EvM v W' := by
 obtain ⟨c9, a9, n9, q9, e, h1, h2⟩ := h
 exact ⟨c9, a9, n9, q9, e, h1.mono hs, h2⟩
def GnVl (w3 : World) (L : ZN) (vs : Nat -> Value) (W : World) : Prop := Ext w3 W /\ (∀ y, vs 6 = .pointer (some ⟨y, 0, none⟩) -> w3.heap.size <= y /\ y < W.heap.size) /\ (5 ∈ L -> EvM (vs 5) W /\ ∀ y, vs 6 = .pointer (some ⟨y, 0, none⟩) -> EvM (vs 5) (mask W [y]))
section
variable {w3 W W' : World} {L : ZN} {vs : Nat -> Value}
theorem gvl_start : GnVl w3 [] (fun _ => undef) w3.drew := ⟨(Ext.refl w3).drew, fun y h => by simp [undef] at h, fun h => by simp at h⟩
theorem gvl_step {i : Nat} {v : Value} (h5 : i ≠ 5) (h6 : i ≠ 6) (hx : Ext W W') (h : GnVl w3 L vs W) : GnVl w3 (L ++ [i]) (upd vs i v) W' := by
 have u5 : upd vs i v 5 = vs 5 := by unfold upd; rw [if_neg (fun e => h5 e.symm)]
 have u6 : upd vs i v 6 = vs 6 := by unfold upd; rw [if_neg (fun e => h6 e.symm)]
 have m5 : (5 ∈ L ++ [i]) = (5 ∈ L) := by simp [Ne.symm h5]
 unfold GnVl
 simp only [u5, u6, m5]
 refine ⟨h.1.trans hx, fun y hy => ⟨(h.2.1 y hy).1, by have := (h.2.1 y hy).2; have := hx.size; omega⟩, fun h5 => ⟨(h.2.2 h5).1.mono hx.sub, fun y hy => ((h.2.2 h5).2 y hy).mono (mask_sub_mask fun k hk hn => ⟨hn, hx.block k hk⟩)⟩⟩
theorem gvl_6 {o : Obj} (h : GnVl w3 L vs W) : GnVl w3 (L ++ [6]) (upd vs 6 (.pointer (some ⟨W.heap.size, 0, none⟩))) (W.alloc o) := by
 have hx := (Ext.refl W).alloc o
 have u5 : ∀ v, upd vs 6 v 5 = vs 5 := fun v => by simp [upd]
 have u6 : ∀ v, upd vs 6 v 6 = v := fun v => by simp [upd]
 have m5 : (5 ∈ L ++ [6]) = (5 ∈ L) := by simp
 unfold GnVl
 simp only [u5, u6, m5]
 refine ⟨h.1.trans hx, fun y hy => ?_, fun h5 => ⟨(h.2.2 h5).1.mono hx.sub, fun y hy => ?_⟩⟩
 ·obtain rfl : W.heap.size = y := by simpa using hy
  exact ⟨h.1.size, by simp⟩
 obtain rfl : W.heap.size = y := by simpa using hy
 exact (h.2.2 h5).1.mono (sub_maskD hx (by simp))
theorem gvl_M (h : GnVl w3 L vs W) : ∃ M : ZN, (∀ y ∈ M, w3.heap.size <= y /\ y < W.heap.size) /\ ∀ y, vs 6 = .pointer (some ⟨y, 0, none⟩) -> y ∈ M := by
 by_cases h6 : ∃ y, vs 6 = .pointer (some ⟨y, 0, none⟩)
 ·obtain ⟨y, hy⟩ := h6
  refine ⟨[y], fun z hz => ?_, fun z hz => ?_⟩
  ·simp only [List.mem_singleton] at hz
   subst hz
   exact h.2.1 z hy
  rw [hy] at hz
  have : y = z := by simpa using hz
  simp [this]
 exact ⟨[], by simp, fun y hy => absurd ⟨y, hy⟩ h6⟩
theorem gvl_5 {M : ZN} {v : Value} (h : GnVl w3 L vs W) (hx : Ext w3 W') (hs : W.heap.size <= W'.heap.size) (hM : ∀ y, vs 6 = .pointer (some ⟨y, 0, none⟩) -> y ∈ M) (hv : EvM v (mask W' M)) : GnVl w3 (L ++ [5]) (upd vs 5 v) W' := by
 have u5 : upd vs 5 v 5 = v := by simp [upd]
 have u6 : upd vs 5 v 6 = vs 6 := by simp [upd]
 unfold GnVl
 simp only [u5, u6]
 refine ⟨hx, fun y hy => ⟨(h.2.1 y hy).1, by have := (h.2.1 y hy).2; omega⟩, fun _ => ⟨hv.mono (mask_sub _ _), fun y hy => hv.mono (mask_sub_mask fun k hk hn => ⟨fun hm => hn (by simp only [List.mem_singleton] at hm; rw [hm]; exact hM y hy), rfl⟩)⟩⟩
end
def vldw4R (w3 : World) (bw : Nat) (c : Clm) (ea : OA) (en ec : Nat) (va : OA) (vn vc : Nat) (xv : EvV) : Nat -> Value -> World -> Prop
 | 0, u, _ => u = .pointer (some ⟨bw, 4, none⟩)
 | 1, u, _ => u = .agg #[.int .i64 c.id, .int .i64 c.policy, .int .i64 c.risk, .int .i64 c.hour, .int .i64 c.peril, .int .i64 c.area, .slice ea en ec]
 | 2, u, _ => u = .slice va vn vc
 | 3, u, W => ∃ (y3 : Nat), u = .pointer (some ⟨y3, 0, none⟩) /\ DeckAt w3 W y3
 | 4, u, _ => u = .agg #[.int .i64 xv.x.number, .int .i64 xv.x.known, .int .i64 xv.x.kind, .slice xv.a xv.n xv.c, .int .i64 xv.x.cur, .int .i64 xv.x.amount, .int .i64 xv.x.target]
 | 5, u, _ => ∃ (c9 : Clm) (a9 : OA) (n9 : Nat) (q9 : Nat), u = .agg #[.int .i64 c9.id, .int .i64 c9.policy, .int .i64 c9.risk, .int .i64 c9.hour, .int .i64 c9.peril, .int .i64 c9.area, .slice a9 n9 q9] /\ True
 | _, u, W => ∃ (y6 : Nat), u = .pointer (some ⟨y6, 0, none⟩) /\ (W.heap[y6]? = some (ClmO 0 0 0 0 0 0 (.slice none 0 0)) /\ w3.heap.size <= y6)
def vldw5R (bw : Nat) (sa : OA) (sn sc : Nat) (qa : OA) (qn qc : Nat) (c : Clm) (ea : OA) (en ec : Nat) (cA : Clm) (pa : OA) (pn pc : Nat) (c9 : Clm) (a9 : OA) (n9 q9 : Nat) (E1 E2 E3 : Int) : Nat -> Value -> World -> Prop
 | 0, u, _ => u = .pointer (some ⟨bw, 0, none⟩)
 | 1, u, _ => u = .agg #[.slice sa sn sc]
 | 2, u, _ => u = .pointer (some ⟨bw, 4, none⟩)
 | 3, u, _ => u = .agg #[.int .i64 c.id, .int .i64 c.policy, .int .i64 c.risk, .int .i64 c.hour, .int .i64 c.peril, .int .i64 c.area, .slice ea en ec]
 | 4, u, _ => u = .int .i64 0
 | 5, u, _ => u = .bool true
 | 6, u, _ => u = .bool true
 | 7, u, _ => u = .agg #[.slice qa qn qc]
 | 8, u, _ => u = .agg #[.int .i64 cA.id, .int .i64 cA.policy, .int .i64 cA.risk, .int .i64 cA.hour, .int .i64 cA.peril, .int .i64 cA.area, .slice pa pn pc]
 | 9, u, _ => u = .int .i64 E1
 | 10, u, _ => u = .agg #[.slice qa qn qc]
 | 11, u, _ => u = .agg #[.int .i64 cA.id, .int .i64 cA.policy, .int .i64 cA.risk, .int .i64 cA.hour, .int .i64 cA.peril, .int .i64 cA.area, .slice pa pn pc]
 | 12, u, _ => u = .int .i64 E1
 | 13, u, _ => u = .bool true
 | 14, u, _ => u = .bool true
 | 15, u, _ => u = .bool true
 | 16, u, _ => u = .pointer (some ⟨bw, 0, none⟩)
 | 17, u, _ => u = .agg #[.slice sa sn sc]
 | 18, u, _ => u = .agg #[.int .i64 c9.id, .int .i64 c9.policy, .int .i64 c9.risk, .int .i64 c9.hour, .int .i64 c9.peril, .int .i64 c9.area, .slice a9 n9 q9]
 | 19, u, _ => u = .int .i64 E2
 | 20, u, _ => u = .pointer (some ⟨bw, 0, none⟩)
 | 21, u, _ => u = .agg #[.slice sa sn sc]
 | 22, u, _ => u = .agg #[.int .i64 c9.id, .int .i64 c9.policy, .int .i64 c9.risk, .int .i64 c9.hour, .int .i64 c9.peril, .int .i64 c9.area, .slice a9 n9 q9]
 | 23, u, _ => u = .int .i64 E2
 | 24, u, _ => u = .bool true
 | 25, u, _ => u = .bool true
 | 26, u, _ => u = .bool true
 | 27, u, _ => u = .pointer (some ⟨bw, 0, none⟩)
 | 28, u, _ => u = .agg #[.slice sa sn sc]
 | 29, u, _ => u = .agg #[.int .i64 cA.id, .int .i64 cA.policy, .int .i64 cA.risk, .int .i64 cA.hour, .int .i64 cA.peril, .int .i64 cA.area, .slice pa pn pc]
 | 30, u, _ => u = .int .i64 E3
 | 31, u, _ => u = .pointer (some ⟨bw, 0, none⟩)
 | 32, u, _ => u = .agg #[.slice sa sn sc]
 | 33, u, _ => u = .agg #[.int .i64 cA.id, .int .i64 cA.policy, .int .i64 cA.risk, .int .i64 cA.hour, .int .i64 cA.peril, .int .i64 cA.area, .slice pa pn pc]
 | 34, u, _ => u = .int .i64 E3
 | 35, u, _ => u = .bool true
 | 36, u, _ => u = .bool true
 | 37, u, _ => u = .bool true
 | 38, u, _ => u = .bool true
 | 39, u, _ => u = .bool true
 | _, u, _ => u = .bool true
set_option synthInstance.maxSize 100000 in
set_option synthInstance.maxHeartbeats 4000000 in
theorem validW_calls (s : List Attr) (sv : Value) (w : World) (hs : IsSchema w s sv) (hsf : ∀ x ∈ s, x.fits) (hsl : s.length <= 1000000000000000) (cA : Clm) (pa : OA) (pn pc : Nat) (hi : IsEvs w cA.events pa pn pc) (hcf : ∀ y ∈ cA.events, fewEv y)
  (xv : EvV) (hx : IsIts w xv.x.items xv.a xv.n xv.c) (hxf : fewEv xv.x) (da : OA) (dn dc : Nat) (hd : IntsAt w da dn) (hdl : dn <= 1000000000000000) (va : OA) (vn vc : Nat) (hh : IntsAt w va vn) (hhl : vn <= 1000000000000000) :
  Calls Tryz.prog 3 #[sv, ClmArg cA pa pn pc, xv.val, .slice da dn dc, .slice va vn vc] w (GivesE (.bool true) w) := by
 obtain ⟨qa, qn, qc, rfl, hqn⟩ := hs.slice
 have HS := hI hs
 have HSF := hI hsf
 have HSL := hI hsl
 have HI := hI hi
 have HIN := hI hi.len
 have HCF := hI hcf
 have HXI := hI hx
 have HXN := hI hx.len
 have HXF := hI hxf
 have HD := hI hd
 have HH := hI hh
 clear hs hsf hsl hi hcf hx hxf hd hh hqn
 unfold ClmArg EvV.val
 obtain ⟨wa, hwa⟩ : ∃ wa, wa = ((w.alloc (.cells #[.slice qa qn qc] 24)).alloc (.cells #[.int .i64 cA.id, .int .i64 cA.policy, .int .i64 cA.risk, .int .i64 cA.hour, .int .i64 cA.peril, .int .i64 cA.area, .slice pa pn pc] 27)).alloc (.cells #[.int .i64 xv.x.number, .int .i64 xv.x.known, .int .i64 xv.x.kind, .slice xv.a xv.n xv.c, .int .i64 xv.x.cur, .int .i64 xv.x.amount, .int .i64 xv.x.target] 30) := ⟨_, rfl⟩
 have HXA := hI (show Ext w wa by rw [hwa]; exact (((Ext.refl _).alloc _).alloc _).alloc _)
 have HA5 := hI (show wa.heap[w.heap.size]? = some (SchBox qa qn qc) by rw [hwa]; exact blk_alloc (blk_alloc (alloc_new w _)))
 have HA6 := hI (show wa.heap[w.heap.size + 1]? = some (ClmBox cA pa pn pc) by rw [hwa]; exact blk_alloc (alloc_at (by simp)))
 have HA7 := hI (show wa.heap[w.heap.size + 1 + 1]? = some (EvBox xv) by rw [hwa]; exact alloc_at (by simp))
 obtain ⟨s0, sf⟩ := blk1 HA5.out
 obtain ⟨a0, a1, a2, a3, a4, a5, a6, af⟩ := blk7 HA6.out
 obtain ⟨x0, x1, x2, x3, x4, x5, x6, xf⟩ := blk7 HA7.out
 by_cases h20 : 20 < qn
 ·have t1 : decide ((20 : Int) < (qn : Int)) = true := decide_eq_true (by omega)
  clear h20
  go_enter Tryz.func3, Tryz.ntmps3
  go_upto_region 1 with fail
  rw [<- hwa]
  clear hwa
  go_wp2_with fail
  refine (awake18_calls wa).mono ?_
  rintro r w1 ⟨rfl, hx1⟩
  have HX1 := hI (HXA.out.trans hx1)
  go_wp2_with fail
  go_ret
  exact givesE_bool rfl HX1.out
 have t1 : decide ((20 : Int) < (qn : Int)) = false := decide_eq_false (by omega)
 by_cases h100 : 100 < pn
 ·have t2 : decide ((100 : Int) < (pn : Int)) = true := decide_eq_true (by omega)
  clear h20 h100
  go_enter Tryz.func3, Tryz.ntmps3
  go_upto_region 1 with fail
  rw [<- hwa]
  clear hwa
  go_wp2_with fail
  refine (awake18_calls wa).mono ?_
  rintro r w1 ⟨rfl, hx1⟩
  have HX1 := hI (HXA.out.trans hx1)
  go_wp2_with fail
  go_ret
  exact givesE_bool rfl HX1.out
 have t2 : decide ((100 : Int) < (pn : Int)) = false := decide_eq_false (by omega)
 by_cases hx100 : 100 < xv.n
 ·have t3 : decide ((100 : Int) < (xv.n : Int)) = true := decide_eq_true (by omega)
  clear h20 h100 hx100
  go_enter Tryz.func3, Tryz.ntmps3
  go_upto_region 1 with fail
  rw [<- hwa]
  clear hwa
  go_wp2_with fail
  refine (awake18_calls wa).mono ?_
  rintro r w1 ⟨rfl, hx1⟩
  have HX1 := hI (HXA.out.trans hx1)
  go_wp2_with fail
  go_ret
  exact givesE_bool rfl HX1.out
 have t3 : decide ((100 : Int) < (xv.n : Int)) = false := decide_eq_false (by omega)
 have HPN := hI h100
 have HXV := hI hx100
 clear h20 h100 hx100
 go_enter Tryz.func3, Tryz.ntmps3
 go_upto_region 1 with fail
 rw [<- hwa]
 clear hwa
 go_wp2_with fail
 refine (made18_calls da dn dc wa (intsAt_extV HD.out HXA.out) hdl).mono ?_
 rintro r w1 ⟨attrs, rts, x, ⟨sa, sn, sc, ta, tn, tc, wa', wn, wc, xa, xn, xc, c, ea, en, ec, h0, kk⟩, bd, rfl, hw, -, hx1⟩
 have HX1 := hI (HXA.out.trans hx1)
 have HCLM := hI hw.clm
 have HAT := hI hw.mem
 have HSM := hI (hw.sch.mono (mask_sub _ _))
 have HEV := hI (hw.evs.mono (mask_sub _ _))
 have HEN := hI hw.evs.len
 have H51 := hI (hx1.blk HA5.out)
 have H61 := hI (hx1.blk HA6.out)
 have H71 := hI (hx1.blk HA7.out)
 clear hw hx1 s0 sf a0 a1 a2 a3 a4 a5 a6 af x0 x1 x2 x3 x4 x5 x6 xf t1 t2 t3 HA5 HA6 HA7
 unfold Wv.cells
 dsimp only at HCLM HEV HEN HSM ⊢
 go_upto_region 4 with fail
 obtain ⟨w3, hw3⟩ : ∃ w3, w3 = w1.alloc (.cells (Wv.cells ⟨sa, sn, sc, ta, tn, tc, wa', wn, wc, xa, xn, xc, c, ea, en, ec, h0, kk⟩) 39) := ⟨_, rfl⟩
 have HX3 := hI (show Ext w1 w3 by rw [hw3]; exact (Ext.refl _).alloc _)
 have HBW := hI (show w3.heap[w1.heap.size]? = some (Wv.obj ⟨sa, sn, sc, ta, tn, tc, wa', wn, wc, xa, xn, xc, c, ea, en, ec, h0, kk⟩) by rw [hw3]; exact alloc_new w1 _)
 obtain ⟨bw, hbw⟩ : ∃ bw, bw = w1.heap.size := ⟨_, rfl⟩
 obtain ⟨bs, hbs⟩ : ∃ bs, bs = w.heap.size := ⟨_, rfl⟩
 unfold Wv.cells at hw3
 dsimp only at hw3
 rw [<- hw3, <- hbw, <- hbs]
 rw [<- hbw] at HBW
 rw [<- hbs] at H51 H61 H71
 have H53 := hI (HX3.out.blk H51.out)
 have H63 := hI (HX3.out.blk H61.out)
 have H73 := hI (HX3.out.blk H71.out)
 have HX03 := hI (HX1.out.trans HX3.out)
 clear hw3 hbw hbs H51 H61 H71
 have hen1 : 0 < en := by
  have := HCLM.out.2.2.1
  have h2 := HEN.out
  rcases Nat.eq_zero_or_pos en with h3 | h3
  ·exact absurd (List.eq_nil_of_length_eq_zero (by omega)) this
  exact h3
 have hen2 : en <= 100 := by have := HCLM.out.2.2.2.1; have := HEN.out; omega
 have HFE := hI (show ∀ y ∈ c.events, fewEv y /\ y.items.length <= 1000 from fun y hy => by
  obtain ⟨i, hi, rfl⟩ := List.getElem_of_mem hy
  have h1 := ev_itemsV (HCLM.out.2.2.2.2.1 i hi)
  exact ⟨(HCLM.out.2.2.2.2.2 _ (List.getElem_mem hi)).1, by omega⟩)
 have HXE := hI (show fewEv xv.x /\ xv.x.items.length <= 1000 from ⟨HXF.out, by have := HXN.out; have := HXV.out; omega⟩)
 have HSPT := hI (fun (b : Nat) (W : World) (hd : DeckAt w3 W b) (M : ZN) (hM : ∀ y ∈ M, w3.heap.size <= y /\ y < W.heap.size) => spoilt_calls c ea en ec xv hd (HEV.out.ext HX3.out) (HXI.out.ext HX03.out) hen1 hen2 HFE.out HXE.out M hM)
 have HNEW := hI (fun (W : World) (hW : Ext w3 W) => new_callsB va vn vc w3 W (intsAt_extV HH.out HX03.out) hW hhl)
 unfold ClmArg EvV.val at HSPT
 obtain ⟨b0, b1, b2, b3, b4, b5, b6, b7, b8, b9, b10, b11, b12, bf⟩ := blk13 HBW.out
 dsimp only at b0 b1 b2 b3 b4 b5 b6 b7 b8 b9 b10 b11 b12
 obtain ⟨e0, e1, e2, e3, e4, e5, e6, ef⟩ := blk7 H73.out
 have hlb := blk_lt HBW.out
 refine wp_region_growLG (n := 82) (m := 7) [6] (GnVl w3) GnSp (GrP (vldw4R w3 bw c ea en ec va vn vc xv)) (by kernel_rfl) (by kernel_rfl) (Nat.le_of_ble_eq_true rfl) ?gd gvl_start ?_ ?_ ?_
 case gd =>
  intro i o j b hi ho hg
  rcases ltc7 hi with rfl | rfl | rfl | rfl | rfl | rfl | rfl <;> (cases ho; first | (cases hg; done) | (cases hg; intro v W h; exact h))
 ·intro i k v W W' hi hk hne hout h hE
  have hi' := ltc7 hi
  clear hi hk
  by_cases hk : k = 5
  ·subst hk
   obtain ⟨bk, la9, ln9, lc9, q9, hE, hx0⟩ := hE.2 rfl
   rcases hi' with rfl | rfl | rfl | rfl | rfl | rfl | rfl
   ·exact h
   ·exact h
   ·exact h
   ·exact absurd hout (by decide +kernel)
   ·exact h
   ·exact absurd rfl hne
   obtain ⟨y6, e0, h⟩ := h
   exact ⟨y6, e0, ⟨hE.blk h.1 (by simp only [List.mem_singleton]; intro e; subst e; rw [h.1] at hx0; cases hx0), h.2⟩⟩
  have hE : Ext W W' := (hE.1 ‹_›)
  rcases hi' with rfl | rfl | rfl | rfl | rfl | rfl | rfl
  ·exact h
  ·exact h
  ·exact h
  ·obtain ⟨y3, e0, h⟩ := h
   exact ⟨y3, e0, h.ext hE⟩
  ·exact h
  ·obtain ⟨c9, a9, n9, q9, e0, h⟩ := h
   exact ⟨c9, a9, n9, q9, e0, trivial⟩
  obtain ⟨y6, e0, h⟩ := h
  exact ⟨y6, e0, ⟨hE.blk h.1, h.2⟩⟩
 ·intro q op hq ho L vs W hqL hcL hW hd ρ hρ
  have hq' := ltc7 hq
  clear hq
  have o11 : ρ (.tmp 11) = .pointer (some ⟨bw, 0, none⟩) := hρ.out 11 rfl
  have i0 := hρ.i 0 36
  have o4 : ρ (.tmp 4) = .slice va vn vc := hρ.out 4 rfl
  have i2 := hρ.i 2 38
  have o7 : ρ (.tmp 7) = .pointer (some ⟨bs + 1 + 1, 0, none⟩) := hρ.out 7 rfl
  have i1 := hρ.i 1 37
  have i3 := hρ.i 3 39
  have i4 := hρ.i 4 40
  have hc := hρ.const
  have hfn := hρ.func
  clear hρ
  have HG := hI hW
  have HW := hI (show Ext w3 W from hW.1)
  have HQL := hI hqL
  clear hW hqL hcL
  rcases hq' with rfl | rfl | rfl | rfl | rfl | rfl | rfl
  ·cases ho
   clear hd
   unfold GivesOp
   go_simp
   exact ⟨gnsp (Ext.refl _) (by decide), gvl_step (by decide) (by decide) (Ext.refl _) HG.out, rfl⟩
  ·cases ho
   have h0 : vs 0 = _ := hd ⟨0, .data⟩ (by simp) rfl
   rw [h0] at i0
   clear hd
   have g0 := HW.out.cell b4
   have g1 := HW.out.cell b5
   have g2 := HW.out.cell b6
   have g3 := HW.out.cell b7
   have g4 := HW.out.cell b8
   have g5 := HW.out.cell b9
   have g6 := HW.out.cell b10
   unfold GivesOp
   go_simp
   exact ⟨gnsp (Ext.refl _) (by decide), gvl_step (by decide) (by decide) (Ext.refl _) HG.out, rfl⟩
  ·cases ho
   clear hd
   unfold GivesOp
   go_simp
   exact ⟨gnsp (Ext.refl _) (by decide), gvl_step (by decide) (by decide) (Ext.refl _) HG.out, rfl⟩
  ·cases ho
   have h2 : vs 2 = _ := hd ⟨2, .data⟩ (by simp) rfl
   rw [h2] at i2
   clear hd
   unfold GivesOp
   go_simp
   refine (HNEW.out W HW.out).mono ?_
   rintro r5 w5 ⟨y5, rfl, hd5, hx5, -⟩
   exact ⟨_, rfl, gnsp hx5 (by decide), gvl_step (by decide) (by decide) hx5 HG.out, y5, rfl, hd5⟩
  ·cases ho
   clear hd
   have g0 := HW.out.cell e0
   have g1 := HW.out.cell e1
   have g2 := HW.out.cell e2
   have g3 := HW.out.cell e3
   have g4 := HW.out.cell e4
   have g5 := HW.out.cell e5
   have g6 := HW.out.cell e6
   unfold GivesOp
   go_simp
   exact ⟨gnsp (Ext.refl _) (by decide), gvl_step (by decide) (by decide) (Ext.refl _) HG.out, rfl⟩
  ·cases ho
   have h1 : vs 1 = _ := hd ⟨1, .data⟩ (by simp) rfl
   rw [h1] at i1
   obtain ⟨y3, h3, hs3⟩ : ∃ (y3 : Nat), vs 3 = .pointer (some ⟨y3, 0, none⟩) /\ DeckAt w3 W y3 := hd ⟨3, .data⟩ (by simp) rfl
   have HS3 := hI hs3
   clear hs3
   rw [h3] at i3
   have h4 : vs 4 = _ := hd ⟨4, .data⟩ (by simp) rfl
   rw [h4] at i4
   clear hd
   unfold GivesOp
   go_simp
   obtain ⟨M9, hM1, hM2⟩ := gvl_M HG.out
   refine (HSPT.out y3 W HS3.out M9 hM1).mono ?_
   rintro r5 w5 ⟨c9, a9, n9, q9, rfl, hi9, hl9, hf9, hx9, hc9⟩
   obtain ⟨la, ln, lc, kk9, hb, -⟩ := HS3.out
   exact ⟨_, rfl, ⟨fun h => absurd rfl h, fun _ => ⟨_, _, _, _, _, hc9, hb⟩⟩, gvl_5 HG.out hx9 hc9.size hM2 ⟨c9, a9, n9, q9, rfl, hi9, hl9, hf9⟩, c9, a9, n9, q9, rfl, trivial⟩
  cases ho
  clear hd
  unfold GivesOp
  go_simp
  exact ⟨gnsp ((Ext.refl W).alloc _) (by decide), gvl_6 HG.out, W.heap.size, rfl, alloc_new W _, HW.out.size⟩
 intro L vs W hLm hW hR
 rw [if_neg (by decide +kernel)]
 obtain ⟨y6, h6, hs6⟩ : ∃ (y6 : Nat), vs 6 = .pointer (some ⟨y6, 0, none⟩) /\ (W.heap[y6]? = some (ClmO 0 0 0 0 0 0 (.slice none 0 0)) /\ w3.heap.size <= y6) := hR 6 (by simp) (by omega)
 have HS6 := hI hs6
 clear hs6
 obtain ⟨c9, a9, n9, q9, h5, hev, hl9, hf9⟩ := (hW.2.2 (hLm 5 (by omega))).2 y6 h6
 have hbv := HS6.out.1
 unfold ClmO at hbv
 obtain ⟨z0, z1, z2, z3, z4, z5, z6, zf⟩ := blk7 hbv
 have hlz := blk_lt hbv
 clear hbv
 refine wpOp_lastG rfl ?_
 change wpList _ _ _ [⟨none, .store _ (.tmp 13) (.tmp 41), _, _, _, none⟩] _ _
 simp only [acts, dstAt, List.range, List.range.loop, List.foldl_cons, List.foldl_nil, h6, h5]
 go_simp
 have hW2 : Ext w3 W := hW.1
 clear hR hW hLm h6 h5
 go_upto_region 5 with fail
 obtain ⟨w4, hw4⟩ : ∃ w4, w4 = put7 W y6 (.int .i64 c9.id) (.int .i64 c9.policy) (.int .i64 c9.risk) (.int .i64 c9.hour) (.int .i64 c9.peril) (.int .i64 c9.area) (.slice a9 n9 q9) := ⟨_, rfl⟩
 have hc4 : Chg [y6] W w4 := by rw [hw4]; exact put7_chg _ _
 have HX4 := hI (show Ext w3 w4 from hc4.ext hW2 (by simp; exact HS6.out.2))
 have HB13 := hI (show w4.heap[y6]? = some (ClmBox c9 a9 n9 q9) by rw [hw4]; exact put7_blk HS6.out.1)
 have HEV9 := hI (show IsEvs w4 c9.events a9 n9 q9 from (hev.mono (mask_step' hc4 (by simp))).mono (mask_sub _ _))
 have HL9 := hI hl9
 have HF9 := hI hf9
 unfold put7 at hw4
 rw [<- hw4]
 clear hw4 hc4 hW2 z0 z1 z2 z3 z4 z5 z6 zf hlz hev hl9 hf9 b0 b1 b2 b3 b4 b5 b6 b7 b8 b9 b10 b11 b12 bf e0 e1 e2 e3 e4 e5 e6 ef hlb
 have HX04 := hI (HX03.out.trans HX4.out)
 have hal : attrs.length <= 1000000000000000 := by have := (schemas_ok attrs HAT.out).2.2; omega
 have HTF := hI (attrs_fits HAT.out)
 have hn9 : n9 <= 1000000000000 := by have := HEV9.out.len; have := HL9.out; omega
 have hpn : pn <= 1000000000000 := by have := HPN.out; omega
 have HFC := hI (show ∀ y ∈ c.events, fewEv y from fun y hy => (HFE.out y hy).1)
 have HV0 := hI (fun W (hW : Ext w4 W) => cvalidate_calls attrs _ c ea en ec W (HSM.out.ext ((HX3.out.trans HX4.out).trans hW)) HTF.out hal (HEV.out.ext ((HX3.out.trans HX4.out).trans hW)) (by omega) HFC.out)
 rw [made_ok HAT.out HCLM.out] at HV0
 have HV1 := hI (fun W (hW : Ext w4 W) => cvalidate_calls s _ cA pa pn pc W (HS.out.ext (HX04.out.trans hW)) HSF.out HSL.out (HI.out.ext (HX04.out.trans hW)) (by omega) HCF.out)
 have HR1 := hI (fun W (hW : Ext w4 W) => rClaimErr_calls s _ cA pa pn pc W (HS.out.ext (HX04.out.trans hW)) HSF.out HSL.out (HI.out.ext (HX04.out.trans hW)) hpn HCF.out)
 have HV2 := hI (fun W (hW : Ext w4 W) => cvalidate_calls attrs _ c9 a9 n9 q9 W (HSM.out.ext ((HX3.out.trans HX4.out).trans hW)) HTF.out hal (HEV9.out.ext hW) (by omega) HF9.out)
 have HR2 := hI (fun W (hW : Ext w4 W) => rClaimErr_calls attrs _ c9 a9 n9 q9 W (HSM.out.ext ((HX3.out.trans HX4.out).trans hW)) HTF.out hal (HEV9.out.ext hW) hn9 HF9.out)
 have HV3 := hI (fun W (hW : Ext w4 W) => cvalidate_calls attrs _ cA pa pn pc W (HSM.out.ext ((HX3.out.trans HX4.out).trans hW)) HTF.out hal (HI.out.ext (HX04.out.trans hW)) (by omega) HCF.out)
 have HR3 := hI (fun W (hW : Ext w4 W) => rClaimErr_calls attrs _ cA pa pn pc W (HSM.out.ext ((HX3.out.trans HX4.out).trans hW)) HTF.out hal (HI.out.ext (HX04.out.trans hW)) hpn HCF.out)
 obtain ⟨E1, hE1⟩ : ∃ E1, E1 = clmErr s cA := ⟨_, rfl⟩
 obtain ⟨E2, hE2⟩ : ∃ E2, E2 = clmErr attrs c9 := ⟨_, rfl⟩
 obtain ⟨E3, hE3⟩ : ∃ E3, E3 = clmErr attrs cA := ⟨_, rfl⟩
 rw [<- hE1] at HV1 HR1
 rw [<- hE2] at HV2 HR2
 rw [<- hE3] at HV3 HR3
 unfold ClmArg at HV0 HV1 HR1 HV2 HR2 HV3 HR3
 clear hE1 hE2 hE3
 obtain ⟨b0, b1, b2, b3, b4, b5, b6, b7, b8, b9, b10, b11, b12, bf⟩ := blk13 (HX4.out.blk HBW.out)
 dsimp only at b0 b1 b2 b3 b4 b5 b6 b7 b8 b9 b10 b11 b12
 obtain ⟨s0, sf⟩ := blk1 (HX4.out.blk H53.out)
 obtain ⟨d0, d1, d2, d3, d4, d5, d6, df⟩ := blk7 (HX4.out.blk H63.out)
 obtain ⟨f0, f1, f2, f3, f4, f5, f6, ff⟩ := blk7 HB13.out
 refine wp_region_growLG (n := 82) (m := 41) [40] (GrGZ w4) GrE (GrP (vldw5R bw sa sn sc qa qn qc c ea en ec cA pa pn pc c9 a9 n9 q9 E1 E2 E3)) (by kernel_rfl) (by kernel_rfl) (Nat.le_of_ble_eq_true rfl) ?gd ((Ext.refl w4).drew) ?_ ?_ ?_
 case gd =>
  intro i o j b hi ho hg
  have hi' := (by decide +kernel : ∀ i, i < 41 -> (i = 0 \/ i = 1 \/ i = 2 \/ i = 3 \/ i = 4 \/ i = 5 \/ i = 6 \/ i = 7 \/ i = 8 \/ i = 9 \/ i = 10 \/ i = 11 \/ i = 12 \/ i = 13 \/ i = 14 \/ i = 15 \/ i = 16 \/ i = 17 \/ i = 18 \/ i = 19 \/ i = 20 \/ i = 21 \/ i = 22 \/ i = 23 \/ i = 24 \/ i = 25 \/ i = 26 \/ i = 27 \/ i = 28 \/ i = 29 \/ i = 30 \/ i = 31 \/ i = 32 \/ i = 33 \/ i = 34 \/ i = 35 \/ i = 36 \/ i = 37 \/ i = 38 \/ i = 39 \/ i = 40)) i hi
  rcases hi' with rfl | rfl | rfl | rfl | rfl | rfl | rfl | rfl | rfl | rfl | rfl | rfl | rfl | rfl | rfl | rfl | rfl | rfl | rfl | rfl | rfl | rfl | rfl | rfl | rfl | rfl | rfl | rfl | rfl | rfl | rfl | rfl | rfl | rfl | rfl | rfl | rfl | rfl | rfl | rfl | rfl <;> (cases ho; first | (cases hg; done) | (cases hg; intro v W h; exact h))
 ·intro i k v W W' hi hk hne hout h hE
  have hE : Ext W W' := hE
  have hi' := (by decide +kernel : ∀ i, i < 41 -> (i = 0 \/ i = 1 \/ i = 2 \/ i = 3 \/ i = 4 \/ i = 5 \/ i = 6 \/ i = 7 \/ i = 8 \/ i = 9 \/ i = 10 \/ i = 11 \/ i = 12 \/ i = 13 \/ i = 14 \/ i = 15 \/ i = 16 \/ i = 17 \/ i = 18 \/ i = 19 \/ i = 20 \/ i = 21 \/ i = 22 \/ i = 23 \/ i = 24 \/ i = 25 \/ i = 26 \/ i = 27 \/ i = 28 \/ i = 29 \/ i = 30 \/ i = 31 \/ i = 32 \/ i = 33 \/ i = 34 \/ i = 35 \/ i = 36 \/ i = 37 \/ i = 38 \/ i = 39 \/ i = 40)) i hi
  clear hi hk hne hout
  rcases hi' with rfl | rfl | rfl | rfl | rfl | rfl | rfl | rfl | rfl | rfl | rfl | rfl | rfl | rfl | rfl | rfl | rfl | rfl | rfl | rfl | rfl | rfl | rfl | rfl | rfl | rfl | rfl | rfl | rfl | rfl | rfl | rfl | rfl | rfl | rfl | rfl | rfl | rfl | rfl | rfl | rfl
  ·exact h
  ·exact h
  ·exact h
  ·exact h
  ·exact h
  ·exact h
  ·exact h
  ·exact h
  ·exact h
  ·exact h
  ·exact h
  ·exact h
  ·exact h
  ·exact h
  ·exact h
  ·exact h
  ·exact h
  ·exact h
  ·exact h
  ·exact h
  ·exact h
  ·exact h
  ·exact h
  ·exact h
  ·exact h
  ·exact h
  ·exact h
  ·exact h
  ·exact h
  ·exact h
  ·exact h
  ·exact h
  ·exact h
  ·exact h
  ·exact h
  ·exact h
  ·exact h
  ·exact h
  ·exact h
  ·exact h
  exact h
 ·intro q op hq ho L vs W hqL hcL hW hd ρ hρ
  have hq' := (by decide +kernel : ∀ q, q < 41 -> (q = 0 \/ q = 1 \/ q = 2 \/ q = 3 \/ q = 4 \/ q = 5 \/ q = 6 \/ q = 7 \/ q = 8 \/ q = 9 \/ q = 10 \/ q = 11 \/ q = 12 \/ q = 13 \/ q = 14 \/ q = 15 \/ q = 16 \/ q = 17 \/ q = 18 \/ q = 19 \/ q = 20 \/ q = 21 \/ q = 22 \/ q = 23 \/ q = 24 \/ q = 25 \/ q = 26 \/ q = 27 \/ q = 28 \/ q = 29 \/ q = 30 \/ q = 31 \/ q = 32 \/ q = 33 \/ q = 34 \/ q = 35 \/ q = 36 \/ q = 37 \/ q = 38 \/ q = 39 \/ q = 40)) q hq
  clear hq
  have o11 : ρ (.tmp 11) = .pointer (some ⟨bw, 0, none⟩) := hρ.out 11 rfl
  have i0 := hρ.i 0 42
  have i2 := hρ.i 2 44
  have i1 := hρ.i 1 43
  have i3 := hρ.i 3 45
  have i4 := hρ.i 4 46
  have i5 := hρ.i 5 47
  have o5 : ρ (.tmp 5) = .pointer (some ⟨bs, 0, none⟩) := hρ.out 5 rfl
  have o6 : ρ (.tmp 6) = .pointer (some ⟨bs + 1, 0, none⟩) := hρ.out 6 rfl
  have i7 := hρ.i 7 49
  have i8 := hρ.i 8 50
  have i10 := hρ.i 10 52
  have i11 := hρ.i 11 53
  have i9 := hρ.i 9 51
  have i12 := hρ.i 12 54
  have i6 := hρ.i 6 48
  have i13 := hρ.i 13 55
  have i14 := hρ.i 14 56
  have i16 := hρ.i 16 58
  have o13 : ρ (.tmp 13) = .pointer (some ⟨y6, 0, none⟩) := hρ.out 13 rfl
  have i17 := hρ.i 17 59
  have i18 := hρ.i 18 60
  have i20 := hρ.i 20 62
  have i21 := hρ.i 21 63
  have i22 := hρ.i 22 64
  have i19 := hρ.i 19 61
  have i23 := hρ.i 23 65
  have i15 := hρ.i 15 57
  have i24 := hρ.i 24 66
  have i25 := hρ.i 25 67
  have i27 := hρ.i 27 69
  have i28 := hρ.i 28 70
  have i29 := hρ.i 29 71
  have i31 := hρ.i 31 73
  have i32 := hρ.i 32 74
  have i33 := hρ.i 33 75
  have i30 := hρ.i 30 72
  have i34 := hρ.i 34 76
  have i26 := hρ.i 26 68
  have i35 := hρ.i 35 77
  have i36 := hρ.i 36 78
  have i37 := hρ.i 37 79
  have i38 := hρ.i 38 80
  have i39 := hρ.i 39 81
  have hc := hρ.const
  have hfn := hρ.func
  clear hρ
  have HG := hI hW
  have HW := hI (show Ext w4 W from hW)
  have HQL := hI hqL
  clear hW hqL hcL
  have kf0 := HW.out.cell b0
  have kf1 := HW.out.cell s0
  have kf2 := HW.out.cell b4
  have kf3 := HW.out.cell b5
  have kf4 := HW.out.cell b6
  have kf5 := HW.out.cell b7
  have kf6 := HW.out.cell b8
  have kf7 := HW.out.cell b9
  have kf8 := HW.out.cell b10
  have kf9 := HW.out.cell d0
  have kf10 := HW.out.cell d1
  have kf11 := HW.out.cell d2
  have kf12 := HW.out.cell d3
  have kf13 := HW.out.cell d4
  have kf14 := HW.out.cell d5
  have kf15 := HW.out.cell d6
  have kf16 := HW.out.cell f0
  have kf17 := HW.out.cell f1
  have kf18 := HW.out.cell f2
  have kf19 := HW.out.cell f3
  have kf20 := HW.out.cell f4
  have kf21 := HW.out.cell f5
  have kf22 := HW.out.cell f6
  by_cases hs4 : q = 4
  ·subst hs4
   clear hq'
   cases ho
   have h1 : vs 1 = _ := hd ⟨1, .data⟩ (by simp) rfl
   rw [h1] at i1
   have h3 : vs 3 = _ := hd ⟨3, .data⟩ (by simp) rfl
   rw [h3] at i3
   clear hd
   unfold GivesOp
   go_simp
   refine (HV0.out W HW.out).mono ?_
   rintro r5 w5 ⟨rfl, hx5⟩
   exact ⟨_, rfl, hx5, HW.out.trans hx5, rfl⟩
  by_cases hs9 : q = 9
  ·subst hs9
   clear hq'
   cases ho
   have h7 : vs 7 = _ := hd ⟨7, .data⟩ (by simp) rfl
   rw [h7] at i7
   have h8 : vs 8 = _ := hd ⟨8, .data⟩ (by simp) rfl
   rw [h8] at i8
   clear hd
   unfold GivesOp
   go_simp
   refine (HV1.out W HW.out).mono ?_
   rintro r5 w5 ⟨rfl, hx5⟩
   exact ⟨_, rfl, hx5, HW.out.trans hx5, rfl⟩
  by_cases hs12 : q = 12
  ·subst hs12
   clear hq'
   cases ho
   have h10 : vs 10 = _ := hd ⟨10, .data⟩ (by simp) rfl
   rw [h10] at i10
   have h11 : vs 11 = _ := hd ⟨11, .data⟩ (by simp) rfl
   rw [h11] at i11
   clear hd
   unfold GivesOp
   go_simp
   refine (HR1.out W HW.out).mono ?_
   rintro r5 w5 ⟨rfl, hx5⟩
   exact ⟨_, rfl, hx5, HW.out.trans hx5, rfl⟩
  by_cases hs19 : q = 19
  ·subst hs19
   clear hq'
   cases ho
   have h17 : vs 17 = _ := hd ⟨17, .data⟩ (by simp) rfl
   rw [h17] at i17
   have h18 : vs 18 = _ := hd ⟨18, .data⟩ (by simp) rfl
   rw [h18] at i18
   clear hd
   unfold GivesOp
   go_simp
   refine (HV2.out W HW.out).mono ?_
   rintro r5 w5 ⟨rfl, hx5⟩
   exact ⟨_, rfl, hx5, HW.out.trans hx5, rfl⟩
  by_cases hs23 : q = 23
  ·subst hs23
   clear hq'
   cases ho
   have h21 : vs 21 = _ := hd ⟨21, .data⟩ (by simp) rfl
   rw [h21] at i21
   have h22 : vs 22 = _ := hd ⟨22, .data⟩ (by simp) rfl
   rw [h22] at i22
   clear hd
   unfold GivesOp
   go_simp
   refine (HR2.out W HW.out).mono ?_
   rintro r5 w5 ⟨rfl, hx5⟩
   exact ⟨_, rfl, hx5, HW.out.trans hx5, rfl⟩
  by_cases hs30 : q = 30
  ·subst hs30
   clear hq'
   cases ho
   have h28 : vs 28 = _ := hd ⟨28, .data⟩ (by simp) rfl
   rw [h28] at i28
   have h29 : vs 29 = _ := hd ⟨29, .data⟩ (by simp) rfl
   rw [h29] at i29
   clear hd
   unfold GivesOp
   go_simp
   refine (HV3.out W HW.out).mono ?_
   rintro r5 w5 ⟨rfl, hx5⟩
   exact ⟨_, rfl, hx5, HW.out.trans hx5, rfl⟩
  by_cases hs34 : q = 34
  ·subst hs34
   clear hq'
   cases ho
   have h32 : vs 32 = _ := hd ⟨32, .data⟩ (by simp) rfl
   rw [h32] at i32
   have h33 : vs 33 = _ := hd ⟨33, .data⟩ (by simp) rfl
   rw [h33] at i33
   clear hd
   unfold GivesOp
   go_simp
   refine (HR3.out W HW.out).mono ?_
   rintro r5 w5 ⟨rfl, hx5⟩
   exact ⟨_, rfl, hx5, HW.out.trans hx5, rfl⟩
  by_cases hs38 : q = 38
  ·subst hs38
   clear hq'
   cases ho
   clear hd
   unfold GivesOp
   go_simp
   refine (awake18_calls W).mono ?_
   rintro r5 w5 ⟨rfl, hx5⟩
   exact ⟨_, rfl, hx5, HW.out.trans hx5, rfl⟩
  rcases hq' with rfl | rfl | rfl | rfl | rfl | rfl | rfl | rfl | rfl | rfl | rfl | rfl | rfl | rfl | rfl | rfl | rfl | rfl | rfl | rfl | rfl | rfl | rfl | rfl | rfl | rfl | rfl | rfl | rfl | rfl | rfl | rfl | rfl | rfl | rfl | rfl | rfl | rfl | rfl | rfl | rfl
  all_goals first | (exact absurd rfl hs4; done) | (exact absurd rfl hs9; done) | (exact absurd rfl hs12; done) | (exact absurd rfl hs19; done) | (exact absurd rfl hs23; done) | (exact absurd rfl hs30; done) | (exact absurd rfl hs34; done) | (exact absurd rfl hs38; done) | skip
  all_goals
   cases ho
   simp [isDataG, GrP, vldw5R] at hd
   clear hs4 hs9 hs12 hs19 hs23 hs30 hs34 hs38
   unfold GivesOp
   go_simp
   exact ⟨Ext.refl _, HW.out, rfl⟩
 intro L vs W hLm hW hR
 rw [if_pos (by decide +kernel)]
 have h40 : vs 40 = .bool true := hR 40 (by simp) (by omega)
 simp only [acts, dstAt, List.range, List.range.loop, List.foldl_cons, List.foldl_nil, h40]
 go_simp
 have hW2 : Ext w4 W := hW
 clear hR hW hLm h40
 go_wp2_with fail
 go_ret
 exact givesE_bool rfl (HX04.out.trans hW2)
end Go.Proofs.YtpkljcgihobaiaaGreat
