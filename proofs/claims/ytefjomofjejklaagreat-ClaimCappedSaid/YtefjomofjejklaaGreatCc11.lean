/-
  Texts of the claim, joined: Facts, Prf, Truth, Div, MulD.
-/
import Derived.Test.YtefjomofjejklaaGreatCc10
namespace Go.Proofs.YtefjomofjejklaaGreat
set_option maxRecDepth 100000
set_option maxHeartbeats 32000000
open Go.RowKit
def IsIntF (w : World) (f : ZI) (a : OA) (n : Nat) : Prop := n = f.length /\ ∀ i (h : i < f.length), ∃ b off, a = some ⟨b, off, none⟩ /\ w.cell? ⟨b, off + i, none⟩ = some (.int .i64 f[i])
theorem IsIntF.mono {w w' : World} {f : ZI} {a : OA} {n : Nat} (h : IsIntF w f a n) (hs : Sub w w') : IsIntF w' f a n := ⟨h.1, fun i hi => by obtain ⟨b, off, e, hc⟩ := h.2 i hi; exact ⟨b, off, e, hs _ _ hc⟩⟩
theorem IsIntF.ext {w w' : World} {f : ZI} {a : OA} {n : Nat} (h : IsIntF w f a n) (he : Ext w w') : IsIntF w' f a n := h.mono he.sub
def domV (a : Attr) : Value := .tuple #[.int .i64 (domB a).1, .int .i64 (domB a).2]
theorem factsAll_miss {s : List Attr} {f : ZI} {k : Nat} (hk : k < s.length) (hj : k < f.length) (h : f[k] < (domB s[k]).1 \/ (domB s[k]).2 < f[k]) : factsAll s f = false := by
 cases hf : factsAll s f
 ·rfl
 have := factsAll_at hf k hk hj
 omega
theorem factsAll_short {s : List Attr} {f : ZI} (h : f.length ≠ s.length) : factsAll s f = false := by
 cases hf : factsAll s f
 ·rfl
 exact absurd (factsAll_len hf) h
theorem fact_at {s : List Attr} {f : ZI} (h : factsAll s f = true) {i : Nat} (hi : i < s.length) : ∃ h2 : i < f.length, (domB s[i]).1 <= f[i] /\ f[i] <= (domB s[i]).2 := by
 have h2 : i < f.length := by rw [factsAll_len h]; exact hi
 exact ⟨h2, factsAll_at h i hi h2⟩
theorem AttrAt.five {w : World} {x : Attr} {b off : Nat} (h : AttrAt w x b off) : ∃ aw nw cw, IsStrs w x.words aw nw cw /\ ∀ W, Ext w W -> W.cell? ⟨b, off, none⟩ = some (.string x.name) /\ W.cell? ⟨b, off + 1, none⟩ = some (.int .i64 x.kind) /\ W.cell? ⟨b, off + 2, none⟩ = some (.slice aw nw cw) /\ W.cell? ⟨b, off + 3, none⟩ = some (.int .i64 x.lo) /\ W.cell? ⟨b, off + 4, none⟩ = some (.int .i64 x.hi) := by
 obtain ⟨aw, nw, cw, g0, g1, g2, g3, g4, g5⟩ := h
 exact ⟨aw, nw, cw, g5, fun W hW => ⟨hW.cell g0, hW.cell g1, hW.cell g2, hW.cell g3, hW.cell g4⟩⟩
theorem rDomain_calls (s : List Attr) (v : Value) (i : Nat) (w : World) (hs : IsSchema w s v) (hf : ∀ x ∈ s, x.fits) (hl : s.length <= 1000000000000000) (h0 : schemaErr s = 0) (hi : i < s.length) :
  Calls Tryz.prog 87 #[v, .int .i64 (i : Nat)] w (GivesE (domV s[i]) w) := by
 obtain ⟨q1, q2, q3⟩ := schema_attrs h0
 obtain ⟨-, -, -, hk, -⟩ := attr_dom (q3 i hi).1
 obtain ⟨a, n, c, rfl, hn, hnc, hoa, hat⟩ := hs.parts
 obtain ⟨b, off, rfl, hA⟩ := hat i hi
 obtain ⟨aw, nw, cw, hstr, hfive⟩ := hA.five
 have HG := hI hfive
 have HR := hI (fun W (hW : Ext w W) => rSchema_calls s _ W (hs.ext hW) hf hl)
 rw [h0] at HR
 have t0 : decide ((i : Int) < 0) = false := decide_eq_false (by omega)
 have t1 : decide ((n : Int) <= (i : Int)) = false := decide_eq_false (by omega)
 have hin : i < n := by omega
 have hn2 : n <= 1000000000000000 := by omega
 have hnw : nw <= 1000000000000000 := by rw [hstr.1]; exact (hf _ (List.getElem_mem hi)).2.1
 have HNW := hI hstr.1
 clear hs hn hnc hoa hf h0 q1 q2 q3 hat hA hstr hfive
 obtain ⟨x, hx⟩ : ∃ x, x = s[i] := ⟨_, rfl⟩
 rw [<- hx] at hk HG HNW ⊢
 clear hx
 obtain ⟨wa, hwa⟩ : ∃ wa, wa = w.alloc (.cells #[.slice (some ⟨b, off, none⟩) n c] 25) := ⟨_, rfl⟩
 have hxa : Ext w wa := by rw [hwa]; exact (Ext.refl _).alloc _
 have hb0 : wa.heap[w.heap.size]? = some (.cells #[.slice (some ⟨b, off, none⟩) n c] 25 (0, 0)) := by rw [hwa]; exact alloc_new w _
 have HXA := hI hxa
 have HB0 := hI hb0
 clear hxa hb0
 have hways : ((x.kind == 1) = true /\ domV x = .tuple #[.int .i64 0, .int .i64 ((nw : Int) - 1)]) \/ ((x.kind == 1) = false /\ (x.kind == 2) = true /\ domV x = .tuple #[.int .i64 x.lo, .int .i64 x.hi]) \/ ((x.kind == 1) = false /\ (x.kind == 2) = false /\ domV x = .tuple #[.int .i64 0, .int .i64 1]) := by
  unfold domV domB
  rcases hk with hk | hk | hk
  ·exact Or.inl ⟨by simp [hk], by rw [if_pos hk, HNW.out]⟩
  ·exact Or.inr (Or.inl ⟨by simp [hk], by simp [hk], by rw [if_neg (by omega), if_pos hk]⟩)
  exact Or.inr (Or.inr ⟨by simp [hk], by simp [hk], by rw [if_neg (by omega), if_neg (by omega)]⟩)
 clear hk
 rcases hways with ⟨e1, hv⟩ | ⟨e1, e2, hv⟩ | ⟨e1, e2, hv⟩
 all_goals
  have HV := hI hv
  clear hv
  obtain ⟨a0, af⟩ := blk1 HB0.out
  go_enter Tryz.func87, Tryz.ntmps87
  go_upto_region 1 with fail
  rw [<- hwa]
  clear hwa
  go_wp2_with fail
  refine (HR.out wa HXA.out).mono ?_
  rintro r w3 ⟨rfl, hx3⟩
  have HX3 := hI (HXA.out.trans hx3)
  obtain ⟨d0, df⟩ := blk1 (hx3.blk HB0.out)
  obtain ⟨g0, g1, g2, g3, g4⟩ := HG.out w3 HX3.out
  clear hx3 a0 af HB0
  go_wp2_with fail
  try go_quiet (fail)
  try go_wp2_with fail
  go_ret2
  exact ⟨by rw [HV.out]; rfl, by first | exact (HX3.out.alloc _).drewN _ | exact HX3.out.alloc _⟩
def FctI (s : List Attr) (f : ZI) (n : Nat) (bs : Nat) (o : Obj) (w : World) (t : Value) (wr : World) : Prop := ∃ k : Nat, t = .int .i64 k /\ k <= n /\ (∀ i (hi : i < s.length) (hj : i < f.length), i < k -> (domB s[i]).1 <= f[i] /\ f[i] <= (domB s[i]).2) /\ wr.heap[bs]? = some o /\ Ext w wr
theorem rFacts_calls (s : List Attr) (v : Value) (f : ZI) (fa : OA) (fn fc : Nat) (w : World) (hs : IsSchema w s v) (hf : ∀ x ∈ s, x.fits) (hl : s.length <= 1000000000000000) (hi : IsIntF w f fa fn) :
  Calls Tryz.prog 52 #[v, .slice fa fn fc] w (GivesE (.bool (factsB s f)) w) := by
 obtain ⟨a, n, c, rfl, hn, hnc, hoa, hat⟩ := hs.parts
 have HR := hI (fun W (hW : Ext w W) => rSchema_calls s _ W (hs.ext hW) hf hl)
 have HD := hI (fun (h0 : schemaErr s = 0) (i : Nat) (hi : i < s.length) W (hW : Ext w W) => rDomain_calls s _ i W (hs.ext hW) hf hl h0 hi)
 have HN := hI hn
 have HI := hI hi
 have HFN := hI hi.1
 obtain ⟨B, hB⟩ : ∃ B, B = factsB s f := ⟨_, rfl⟩
 rw [<- hB]
 have HB := hI (show B = (decide (schemaErr s = 0) && factsAll s f) from hB)
 clear hs hn hnc hoa hat hf hi hB
 obtain ⟨wa, hwa⟩ : ∃ wa, wa = w.alloc (.cells #[.slice a n c] 25) := ⟨_, rfl⟩
 have hxa : Ext w wa := by rw [hwa]; exact (Ext.refl _).alloc _
 have hb0 : wa.heap[w.heap.size]? = some (.cells #[.slice a n c] 25 (0, 0)) := by rw [hwa]; exact alloc_new w _
 have HXA := hI hxa
 have HB0 := hI hb0
 clear hxa hb0
 obtain ⟨E, hE⟩ : ∃ E, E = schemaErr s := ⟨_, rfl⟩
 rw [<- hE] at HR HB
 have HEE := hI hE
 clear hE
 obtain ⟨a0, af⟩ := blk1 HB0.out
 by_cases hz : E = 0
 case neg =>
  have tz : (E != 0) = true := by simp [hz]
  have HQ := hI (show B = false by rw [HB.out]; simp [hz])
  clear hz
  go_enter Tryz.func52, Tryz.ntmps52
  go_upto_region 1 with fail
  rw [<- hwa]
  clear hwa
  go_wp2_with fail
  refine (HR.out wa HXA.out).mono ?_
  rintro r w3 ⟨rfl, hx3⟩
  have HX3 := hI (HXA.out.trans hx3)
  clear hx3 a0 af HB0
  go_wp2_with fail
  go_ret
  exact givesE_bool (by rw [HQ.out]) HX3.out
 have tz : (E != 0) = false := by simp [hz]
 have HB2 := hI (show B = factsAll s f by rw [HB.out]; simp [hz])
 have HDD := hI (HD.out (by rw [<- HEE.out]; exact hz))
 have hs6 : n <= 6 := by have := (schema_attrs (s := s) (by rw [<- HEE.out]; exact hz)).2.1; rw [HN.out]; exact this
 clear hz HD HB HEE
 by_cases hlen : fn = n
 case neg =>
  have tl : ((fn : Int) != (n : Int)) = true := by simp; omega
  have HQ := hI (show B = false by rw [HB2.out]; exact factsAll_short (by rw [<- HN.out, <- HFN.out]; exact hlen))
  clear hlen
  go_enter Tryz.func52, Tryz.ntmps52
  go_upto_region 1 with fail
  rw [<- hwa]
  clear hwa
  go_wp2_with fail
  refine (HR.out wa HXA.out).mono ?_
  rintro r w3 ⟨rfl, hx3⟩
  have HX3 := hI (HXA.out.trans hx3)
  obtain ⟨d0, df⟩ := blk1 (hx3.blk HB0.out)
  clear hx3 a0 af HB0
  go_wp2_with fail
  go_ret
  exact givesE_bool (by rw [HQ.out]) HX3.out
 subst hlen
 have tl : ((fn : Int) != (fn : Int)) = false := by simp
 have HLN := hI (show f.length = s.length by rw [<- HN.out, <- HFN.out])
 go_enter Tryz.func52, Tryz.ntmps52
 go_upto_region 1 with fail
 rw [<- hwa]
 clear hwa
 go_wp2_with fail
 refine (HR.out wa HXA.out).mono ?_
 rintro r w3 ⟨rfl, hx3⟩
 have HX3 := hI (HXA.out.trans hx3)
 have HB3 := hI (hx3.blk HB0.out)
 obtain ⟨d0, df⟩ := blk1 (hx3.blk HB0.out)
 clear hx3 a0 af HB0
 go_wp2_with fail
 clear d0 df
 go_loopw [5] (FctI s f fn w.heap.size (.cells #[.slice a fn c] 25 (0, 0)) w) (fun t _ => fn - (intOf t).toNat)
 case atStart => exact ⟨0, rfl, by omega, fun i _ _ h => by omega, HB3.out, HX3.out⟩
 case round =>
  obtain ⟨k, rfl, hk, hno, hbx, hx⟩ := hrel
  have HNO := hI hno
  have HBX := hI hbx
  have HX := hI hx
  obtain ⟨d0, df⟩ := blk1 hbx
  clear hno hbx hx
  by_cases hkn : k < fn
  ·have t1 : decide ((k : Int) < (fn : Int)) = true := decide_eq_true (by omega)
   have hks : k < s.length := by rw [<- HN.out]; exact hkn
   have hkf : k < f.length := by rw [<- HFN.out]; exact hkn
   have HDK := hI (HDD.out k hks wr HX.out)
   unfold domV at HDK
   obtain ⟨fb, fo, rfl, hcell⟩ := HI.out.2 k hkf
   have HCF := hI hcell
   obtain ⟨z, hz⟩ : ∃ z, z = f[k] := ⟨_, rfl⟩
   obtain ⟨lo, hlo⟩ : ∃ lo, lo = (domB s[k]).1 := ⟨_, rfl⟩
   obtain ⟨hi, hhi⟩ : ∃ hi, hi = (domB s[k]).2 := ⟨_, rfl⟩
   rw [<- hz] at HCF
   rw [<- hlo, <- hhi] at HDK
   have HZ := hI hz
   have HLO := hI hlo
   have HHI := hI hhi
   clear hcell hz hlo hhi
   go_wp2_with fail
   refine HDK.out.mono ?_
   rintro r w5 ⟨rfl, hx5⟩
   have HX5 := hI (HX.out.trans hx5)
   have HB5 := hI (hx5.blk HBX.out)
   have g0 := HX5.out.cell HCF.out
   clear hx5 d0 df HDK
   by_cases h1 : z < lo \/ hi < z
   ·have HQ := hI (show B = false by rw [HB2.out]; exact factsAll_miss hks hkf (by rw [<- HZ.out, <- HLO.out, <- HHI.out]; exact h1))
    by_cases h2 : z < lo
    ·have t2 : decide (z < lo) = true := decide_eq_true h2
     clear h1 h2
     go_wp2_with fail
     go_ret
     exact givesE_bool (by rw [HQ.out]) HX5.out
    have t2 : decide (z < lo) = false := decide_eq_false h2
    have t3 : decide (hi < z) = true := decide_eq_true (by omega)
    clear h1 h2
    go_wp2_with fail
    go_ret
    exact givesE_bool (by rw [HQ.out]) HX5.out
   have t2 : decide (z < lo) = false := decide_eq_false (by omega)
   have t3 : decide (hi < z) = false := decide_eq_false (by omega)
   have HOK := hI (show (domB s[k]).1 <= f[k] /\ f[k] <= (domB s[k]).2 by rw [<- HZ.out, <- HLO.out, <- HHI.out]; omega)
   clear h1
   go_wp2_with fail
   go_roundw
   case rel =>
    refine ⟨k + 1, by go_num, by omega, fun i hi hj hik => ?_, HB5.out, HX5.out⟩
    by_cases e : i = k
    ·subst e; exact HOK.out
    exact HNO.out i hi hj (by omega)
   case measure => simp [intOf]; omega
  have t1 : decide ((k : Int) < (fn : Int)) = false := decide_eq_false (by omega)
  have HQ := hI (show B = true by rw [HB2.out]; exact factsAll_of HLN.out fun i hi hj => HNO.out i hi hj (by have := HFN.out; omega))
  go_wp2_with fail
  go_ret
  exact givesE_bool (by rw [HQ.out]) HX.out
theorem sdomain_calls (x : Attr) (aw : OA) (nw cw : Nat) (w : World) (hn : nw = x.words.length) (hnw : nw <= 1000000000000000) (hk : x.kind = 1 \/ x.kind = 2 \/ x.kind = 3) :
  Calls Tryz.prog 135 #[.agg #[.string x.name, .int .i64 x.kind, .slice aw nw cw, .int .i64 x.lo, .int .i64 x.hi]] w (GivesE (domV x) w) := by
 have hways : ((x.kind == 1) = true /\ domV x = .tuple #[.int .i64 0, .int .i64 ((nw : Int) - 1)]) \/ ((x.kind == 1) = false /\ (x.kind == 2) = true /\ domV x = .tuple #[.int .i64 x.lo, .int .i64 x.hi]) \/ ((x.kind == 1) = false /\ (x.kind == 2) = false /\ domV x = .tuple #[.int .i64 0, .int .i64 1]) := by
  unfold domV domB
  rcases hk with hk | hk | hk
  ·exact Or.inl ⟨by simp [hk], by rw [if_pos hk, hn]⟩
  ·exact Or.inr (Or.inl ⟨by simp [hk], by simp [hk], by rw [if_neg (by omega), if_pos hk]⟩)
  exact Or.inr (Or.inr ⟨by simp [hk], by simp [hk], by rw [if_neg (by omega), if_neg (by omega)]⟩)
 clear hk hn
 rcases hways with ⟨e1, hv⟩ | ⟨e1, e2, hv⟩ | ⟨e1, e2, hv⟩
 all_goals
  have HV := hI hv
  clear hv
  go_enter Tryz.func135, Tryz.ntmps135
  go_wp2_with fail
  try go_quiet (fail)
  try go_wp2_with fail
  go_ret2
  exact ⟨by rw [HV.out]; rfl, by first | exact ((Ext.refl w).alloc _).drewN _ | exact (Ext.refl w).alloc _⟩
theorem sValid_calls (s : List Attr) (v : Value) (f : ZI) (fa : OA) (fn fc : Nat) (w : World) (hs : IsSchema w s v) (hf : ∀ x ∈ s, x.fits) (hl : s.length <= 1000000000000000) (hi : IsIntF w f fa fn) (hfn : fn <= 1000000000000000) :
  Calls Tryz.prog 123 #[v, .slice fa fn fc] w (GivesE (.bool (factsB s f)) w) := by
 obtain ⟨a, n, c, rfl, hn, hnc, hoa, hat⟩ := hs.parts
 have HR := hI (fun W (hW : Ext w W) => sValidate_calls s _ W (hs.ext hW) hf hl)
 have HAT := hI hat
 have HN := hI hn
 have HF := hI hf
 have HI := hI hi
 have HFN := hI hi.1
 obtain ⟨B, hB⟩ : ∃ B, B = factsB s f := ⟨_, rfl⟩
 rw [<- hB]
 have HB := hI (show B = (decide (schemaErr s = 0) && factsAll s f) from hB)
 have hn2 : n <= 1000000000000000 := by omega
 clear hs hn hnc hoa hat hf hi hB
 obtain ⟨wa, hwa⟩ : ∃ wa, wa = w.alloc (.cells #[.slice a n c] 25) := ⟨_, rfl⟩
 have hxa : Ext w wa := by rw [hwa]; exact (Ext.refl _).alloc _
 have hb0 : wa.heap[w.heap.size]? = some (.cells #[.slice a n c] 25 (0, 0)) := by rw [hwa]; exact alloc_new w _
 have HXA := hI hxa
 have HB0 := hI hb0
 clear hxa hb0
 obtain ⟨E, hE⟩ : ∃ E, E = schemaErr s := ⟨_, rfl⟩
 rw [<- hE] at HR HB
 have HEE := hI hE
 clear hE
 obtain ⟨a0, af⟩ := blk1 HB0.out
 by_cases hz : E = 0
 case neg =>
  have tz : (E != 0) = true := by simp [hz]
  have HQ := hI (show B = false by rw [HB.out]; simp [hz])
  clear hz
  go_enter Tryz.func123, Tryz.ntmps123
  go_upto_region 1 with fail
  rw [<- hwa]
  clear hwa
  go_wp2_with fail
  refine (HR.out wa HXA.out).mono ?_
  rintro r w3 ⟨rfl, hx3⟩
  have HX3 := hI (HXA.out.trans hx3)
  clear hx3 a0 af HB0
  go_wp2_with fail
  go_ret
  exact givesE_bool (by rw [HQ.out]) HX3.out
 have tz : (E != 0) = false := by simp [hz]
 have HB2 := hI (show B = factsAll s f by rw [HB.out]; simp [hz])
 have HSA := hI (schema_attrs (s := s) (by rw [<- HEE.out]; exact hz))
 clear hz HB HEE
 by_cases hlen : fn = n
 case neg =>
  have tl : ((fn : Int) != (n : Int)) = true := by simp; omega
  have HQ := hI (show B = false by rw [HB2.out]; exact factsAll_short (by rw [<- HN.out, <- HFN.out]; exact hlen))
  clear hlen
  go_enter Tryz.func123, Tryz.ntmps123
  go_upto_region 1 with fail
  rw [<- hwa]
  clear hwa
  go_wp2_with fail
  refine (HR.out wa HXA.out).mono ?_
  rintro r w3 ⟨rfl, hx3⟩
  have HX3 := hI (HXA.out.trans hx3)
  obtain ⟨d0, df⟩ := blk1 (hx3.blk HB0.out)
  clear hx3 a0 af HB0
  go_wp2_with fail
  go_ret
  exact givesE_bool (by rw [HQ.out]) HX3.out
 subst hlen
 have tl : ((fn : Int) != (fn : Int)) = false := by simp
 have HLN := hI (show f.length = s.length by rw [<- HN.out, <- HFN.out])
 go_enter Tryz.func123, Tryz.ntmps123
 go_upto_region 1 with fail
 rw [<- hwa]
 clear hwa
 go_wp2_with fail
 refine (HR.out wa HXA.out).mono ?_
 rintro r w3 ⟨rfl, hx3⟩
 have HX3 := hI (HXA.out.trans hx3)
 have HB3 := hI (hx3.blk HB0.out)
 obtain ⟨d0, df⟩ := blk1 (hx3.blk HB0.out)
 clear hx3 a0 af HB0
 go_wp2_with fail
 clear d0 df
 go_loopw [22] (FctI s f fn w.heap.size (.cells #[.slice a fn c] 25 (0, 0)) w) (fun t _ => fn - (intOf t).toNat)
 case atStart => exact ⟨0, rfl, by omega, fun i _ _ h => by omega, HB3.out, HX3.out⟩
 case round =>
  obtain ⟨k, rfl, hk, hno, hbx, hx⟩ := hrel
  have HNO := hI hno
  have HBX := hI hbx
  have HX := hI hx
  obtain ⟨d0, df⟩ := blk1 hbx
  clear hno hbx hx
  by_cases hkn : k < fn
  ·have t1 : decide ((k : Int) < (fn : Int)) = true := decide_eq_true (by omega)
   have hks : k < s.length := by rw [<- HN.out]; exact hkn
   have hkf : k < f.length := by rw [<- HFN.out]; exact hkn
   obtain ⟨b, off, rfl, hA⟩ := HAT.out k hks
   obtain ⟨aw, nw, cw, hstr, hfive⟩ := hA.five
   obtain ⟨g0, g1, g2, g3, g4⟩ := hfive wr HX.out
   have HDK := hI (fun W => sdomain_calls s[k] aw nw cw W hstr.1 (by rw [hstr.1]; exact (HF.out _ (List.getElem_mem hks)).2.1) (attr_dom (HSA.out.2.2 k hks).1).2.2.2.1)
   unfold domV at HDK
   obtain ⟨fb, fo, rfl, hcell⟩ := HI.out.2 k hkf
   have hcf := HX.out.cell hcell
   obtain ⟨z, hz⟩ : ∃ z, z = f[k] := ⟨_, rfl⟩
   obtain ⟨lo, hlo⟩ : ∃ lo, lo = (domB s[k]).1 := ⟨_, rfl⟩
   obtain ⟨hi, hhi⟩ : ∃ hi, hi = (domB s[k]).2 := ⟨_, rfl⟩
   rw [<- hz] at hcf
   rw [<- hlo, <- hhi] at HDK
   have HZ := hI hz
   have HLO := hI hlo
   have HHI := hI hhi
   clear hcell hz hlo hhi hA hstr hfive
   go_wp2_with fail
   refine (HDK.out _).mono ?_
   rintro r w5 ⟨rfl, hx5⟩
   have HX5 := hI (HX.out.trans hx5)
   have HB5 := hI (hx5.blk HBX.out)
   clear hx5 d0 df HDK
   by_cases h1 : z < lo \/ hi < z
   ·have HQ := hI (show B = false by rw [HB2.out]; exact factsAll_miss hks hkf (by rw [<- HZ.out, <- HLO.out, <- HHI.out]; exact h1))
    by_cases h2 : z < lo
    ·have t2 : decide (z < lo) = true := decide_eq_true h2
     clear h1 h2
     go_wp2_with fail
     go_ret
     exact givesE_bool (by rw [HQ.out]) HX5.out
    have t2 : decide (z < lo) = false := decide_eq_false h2
    have t3 : decide (hi < z) = true := decide_eq_true (by omega)
    clear h1 h2
    go_wp2_with fail
    go_ret
    exact givesE_bool (by rw [HQ.out]) HX5.out
   have t2 : decide (z < lo) = false := decide_eq_false (by omega)
   have t3 : decide (hi < z) = false := decide_eq_false (by omega)
   have HOK := hI (show (domB s[k]).1 <= f[k] /\ f[k] <= (domB s[k]).2 by rw [<- HZ.out, <- HLO.out, <- HHI.out]; omega)
   clear h1
   go_wp2_with fail
   go_roundw
   case rel =>
    refine ⟨k + 1, by go_num, by omega, fun i hi hj hik => ?_, HB5.out, HX5.out⟩
    by_cases e : i = k
    ·subst e; exact HOK.out
    exact HNO.out i hi hj (by omega)
   case measure => simp [intOf]; omega
  have t1 : decide ((k : Int) < (fn : Int)) = false := decide_eq_false (by omega)
  have HQ := hI (show B = true by rw [HB2.out]; exact factsAll_of HLN.out fun i hi hj => HNO.out i hi hj (by have := HFN.out; omega))
  go_wp2_with fail
  go_ret
  exact givesE_bool (by rw [HQ.out]) HX.out
inductive Pr where
 | mk (value : Bool) (pick : Int) (args : List Pr)
theorem valHd_at {s : List Attr} {f : ZI} {D : BA -> Option Bool} (l : List Ex) : valHd s f D l = (l[0]?.map (valE s f D)).getD false := by
 cases l <;> simp [valHd]
def valsOf (s : List Attr) (l : List Cla) (f : ZI) (g : Nat) : BA -> Option Bool := fun x => (defAt l x).map fun d => valF s l f g (l.getD d cla0).cond
theorem valF_eq (s : List Attr) (l : List Cla) (f : ZI) (g : Nat) (e : Ex) : valF s l f (g + 1) e = valE s f (valsOf s l f g) e := rfl
def TruthN (s : List Attr) (f : ZI) (V : BA -> Option Bool) (args : List Ex) (na : Nat) (bs : Nat) (o0 o1 : Obj) (w : World) (t i : Value) (wr : World) : Prop := ∃ k q : Nat, i = .int .i64 k /\ t = .int .i64 q /\ k <= na /\ q <= k /\ (q = k ↔ ∀ j (h : j < args.length), j < k -> valE s f V args[j] = true) /\ wr.heap[bs]? = some o0 /\ wr.heap[bs + 1]? = some o1 /\ Ext w wr
def TruthA (s : List Attr) (f : ZI) (V : BA -> Option Bool) (args : List Ex) (na : Nat) (bs : Nat) (o0 o1 : Obj) (w : World) (i : Value) (wr : World) : Prop := ∃ k : Nat, i = .int .i64 k /\ k <= na /\ (∀ j (h : j < args.length), j < k -> valE s f V args[j] = false) /\ wr.heap[bs]? = some o0 /\ wr.heap[bs + 1]? = some o1 /\ Ext w wr
theorem rTruth_calls (s : List Attr) (l : List Cla) (f : ZI) (hc : Chk s l) (hfa : factsAll s f = true) (hsf : ∀ x ∈ s, x.fits) (a : OA) (n c : Nat) (fa : OA) (fn fc : Nat) : ∀ (g m : Nat) (e : Ex) (ev sv : Value) (w : World), e.size <= m -> m <= 1000000 -> okTree e -> nodesErr s l e = 0 -> expF l g e <= 2000 -> IsSchema w s sv -> IsClas w l a n c -> IsEx w e ev -> IsIntF w f fa fn ->
  Calls Tryz.prog 130 #[sv, .slice a n c, ev, .slice fa fn fc] w (GivesE (.bool (valF s l f g e)) w) := by
 intro g
 induction g with
 | zero => intro m e ev sv w _ _ _ _ h; simp [expF] at h
 | succ g ihg =>
  intro m
  induction m with
  | zero => intro e ev sv w h; have := size_pos e; omega
  | succ m ihm =>
   intro e ev sv w hm hMM hok hnd hex hs hl he hi
   have hways := node_ways hok hnd
   obtain ⟨-, hnda⟩ := nodes_parts hnd
   obtain ⟨hokn, hoka⟩ := okTree_parts hok
   have hexa := expE_arg (D := dOf l g) (e := e) (by rw [<- expF_succ]; exact hex)
   have hexh := expE_hd (D := dOf l g) (e := e) (by rw [<- expF_succ]; exact hex)
   obtain ⟨sa, sn, sc, rfl, hsn⟩ := hs.slice
   obtain ⟨aw, nw, cw, aa, na, ca, rfl, hw, hna, hca, ha, hx⟩ := he.parts
   have hS : e.size = 1 + sizes e.args := e.size_eq
   have hla := length_le_sizes e.args
   obtain ⟨op, name, words, lo, hi', args⟩ := e
   simp only [Ex.op, Ex.name, Ex.words, Ex.lo, Ex.hi, Ex.args] at *
   have hna2 : na <= 1000000 := by omega
   have hszm : sizes args <= m := by omega
   obtain ⟨R, hR⟩ : ∃ R, R = valF s l f (g + 1) (.mk op name words lo hi' args) := ⟨_, rfl⟩
   rw [<- hR]
   rw [valF_eq, valE] at hR
   have HR := hI hR
   have hsl6 := (schema_attrs hc.sch).2.1
   have hsn2 : sn <= 6 := by omega
   have hln := hl.len
   have hn100 : n <= 100 := by rw [hln]; exact hc.len
   have HSN := hI hsn
   have HLN := hI hln
   have HC := hI hc
   have HFA := hI hfa
   have HSF := hI hsf
   have HS := hI hs
   have HL := hI hl
   have HX := hI hx
   have HW := hI hw
   have HI := hI hi
   have HNA := hI hna
   have HARG := hI (fun (j : Nat) (hj : j < args.length) (xv : Value) (W : World) (hW : Ext w W) (hxv : IsEx W args[j] xv) => ihm args[j] xv (.agg #[.slice sa sn sc]) W (by have h1 := sizes_take_succ args j hj; have h2 := sizes_take_le args (j + 1); omega) (by omega) (hoka _ (List.getElem_mem hj)) (hnda j hj) (by rw [expF_succ]; exact hexa j hj) (hs.ext hW) (hl.ext hW) hxv (hi.ext hW))
   have HDEF := hI (fun (h3 : op = 3) (d : Nat) (hd : defAt l name = some d) (xv : Value) (W : World) (hW : Ext w W) (hxv : IsEx W (l.getD d cla0).cond xv) => ihg 300 (l.getD d cla0).cond xv (.agg #[.slice sa sn sc]) W (hc.cond (defAt_atK hd).1).2.2 (by omega) (hc.cond (defAt_atK hd).1).1 (hc.cond (defAt_atK hd).1).2.1 (hexh h3 (by unfold dOf; rw [hd]; rfl)) (hs.ext hW) (hl.ext hW) hxv (hi.ext hW))
   have HWD := hI (show op = 4 -> words.length <= 12 from fun h4 => by
    rcases hokn with ⟨h1, -⟩ | ⟨h1, -⟩ | ⟨h1, -⟩ | ⟨h1, -, h2, -⟩ | ⟨h1, -⟩ | ⟨h1, -⟩ | ⟨h1, -⟩ <;> simp only [Ex.op] at h1
    all_goals first | omega | skip
    simp only [Ex.words, wordsB, Bool.and_eq_true] at h2
    exact of_decide_eq_true h2.1.1.2)
   clear hc hfa hsf hs hl hx hw hi hna hca ha hS hla ihg ihm hm hnda hoka hexa hexh hokn hok hnd hex he hsn hln hsl6 hR
   unfold exV
   obtain ⟨wa, hwa⟩ : ∃ wa, wa = (w.alloc (.cells #[.slice sa sn sc] 25)).alloc (.cells #[.int .i64 op, .string name, .slice aw nw cw, .int .i64 lo, .int .i64 hi', .slice aa na ca] 96) := ⟨_, rfl⟩
   have hxa : Ext w wa := by rw [hwa]; exact ((Ext.refl _).alloc _).alloc _
   have hb0 : wa.heap[w.heap.size]? = some (.cells #[.slice sa sn sc] 25 (0, 0)) := by rw [hwa]; exact blk_alloc (alloc_new w _)
   have hb1 : wa.heap[w.heap.size + 1]? = some (.cells #[.int .i64 op, .string name, .slice aw nw cw, .int .i64 lo, .int .i64 hi', .slice aa na ca] 96 (0, 0)) := by rw [hwa]; exact alloc_atR (by simp)
   have HXA := hI hxa
   have HB0 := hI hb0
   have HB1 := hI hb1
   obtain ⟨f0, f1, f2, f3, f4, f5, ff⟩ := blk6 hb1
   obtain ⟨e0, ef⟩ := blk1 hb0
   have hltw := blk_lt hb1
   have HIX := hI (rIndex_calls s _ name wa (HS.out.ext hxa) (by have := HSN.out; omega))
   clear hxa hb0 hb1
   rcases hways with rfl | rfl | ⟨rfl, i, hat, hkd⟩ | ⟨rfl, hat, d, hdf⟩ | ⟨rfl, i, hat, hkd⟩ | ⟨rfl, i, hat, hkd⟩ | ⟨rfl, hl1⟩ | rfl | rfl
   -- true
   ·have HQ := hI (show R = true by rw [HR.out]; simp [factV])
    go_enter Tryz.func130, Tryz.ntmps130
    go_upto_region 1 with fail
    rw [<- hwa]
    clear hwa
    go_wp2_with fail
    refine HIX.out.mono ?_
    rintro r w1 ⟨rfl, hx1⟩
    have HX1 := hI (HXA.out.trans hx1)
    unfold optV
    clear f0 f1 f2 f3 f4 f5 ff e0 ef hltw
    obtain ⟨f0, f1, f2, f3, f4, f5, ff⟩ := blk6 (hx1.blk HB1.out)
    clear hx1
    go_wp2_with fail
    go_ret
    exact givesE_bool (by rw [HQ.out]) HX1.out
   -- false
   ·have HQ := hI (show R = false by rw [HR.out]; simp [factV])
    go_enter Tryz.func130, Tryz.ntmps130
    go_upto_region 1 with fail
    rw [<- hwa]
    clear hwa
    go_wp2_with fail
    refine HIX.out.mono ?_
    rintro r w1 ⟨rfl, hx1⟩
    have HX1 := hI (HXA.out.trans hx1)
    unfold optV
    clear f0 f1 f2 f3 f4 f5 ff e0 ef hltw
    obtain ⟨f0, f1, f2, f3, f4, f5, ff⟩ := blk6 (hx1.blk HB1.out)
    clear hx1
    go_wp2_with fail
    go_ret
    exact givesE_bool (by rw [HQ.out]) HX1.out
   -- an attribute
   ·obtain ⟨his, -⟩ := attrAt_at hat
    obtain ⟨hif, hlo2, hhi2⟩ := fact_at HFA.out his
    obtain ⟨fb, fo, rfl, hcell⟩ := HI.out.2 i hif
    obtain ⟨z, hz⟩ : ∃ z, z = f[i] := ⟨_, rfl⟩
    rw [<- hz] at hcell
    have hdn : defAt l name = none := by
     cases hd : defAt l name with
     | none => rfl
     | some d => rw [HC.out.apart hd] at hat; cases hat
    have HQ := hI (show R = (z == 1) by
     rw [HR.out]
     simp only [factV, valsOf, hdn, hat]
     rw [Bool.eq_iff_iff]; simp [hif, <- hz])
    have hin : i < fn := by rw [HI.out.1]; exact hif
    have HCF := hI hcell
    rw [hat, optV_some] at HIX
    clear hat hkd his hif hlo2 hhi2 hcell hz hdn
    go_enter Tryz.func130, Tryz.ntmps130
    go_upto_region 1 with fail
    rw [<- hwa]
    clear hwa
    go_wp2_with fail
    refine HIX.out.mono ?_
    rintro r w1 ⟨rfl, hx1⟩
    have HX1 := hI (HXA.out.trans hx1)
    clear f0 f1 f2 f3 f4 f5 ff e0 ef hltw
    obtain ⟨f0, f1, f2, f3, f4, f5, ff⟩ := blk6 (hx1.blk HB1.out)
    have hcf := HX1.out.cell HCF.out
    clear hx1
    go_wp2_with fail
    go_ret
    exact givesE_bool (by rw [HQ.out]) HX1.out
   -- a definition
   ·have hdl := (defAt_atK hdf).1
    have HQ := hI (show R = valF s l f g (l.getD d cla0).cond by
     rw [HR.out]
     rw [if_neg (by decide), if_neg (by decide), if_neg (by decide), if_pos rfl, valsOf, hdf]; rfl)
    have hdn : d < n := by rw [HLN.out]; exact hdl
    have HDC := hI (fun W (hW : Ext w W) => rDef_calls l a n c name W (HL.out.ext hW) (by omega))
    rw [hdf] at HDC
    obtain ⟨cb, coff, v, rfl, hcla, hrow⟩ := HL.out.at hdl
    have HRW := hI hrow
    have HCX := hI (show IsEx w (l.getD d cla0).cond v.x.val by rw [getD_clK hdl]; exact hcla.2.2.1)
    have HDF := hI (HDEF.out rfl d hdf)
    obtain ⟨V, hV⟩ : ∃ V, V = valF s l f g (l.getD d cla0).cond := ⟨_, rfl⟩
    rw [<- hV] at HQ HDF
    rw [hat, optV_none] at HIX
    clear hV hat hdf hdl hcla hrow HDEF HARG
    go_enter Tryz.func130, Tryz.ntmps130
    go_upto_region 1 with fail
    rw [<- hwa]
    clear hwa
    go_wp2_with fail
    refine HIX.out.mono ?_
    rintro r w1 ⟨rfl, hx1⟩
    have HX1 := hI (HXA.out.trans hx1)
    have HB11 := hI (hx1.blk HB1.out)
    have HB01 := hI (hx1.blk HB0.out)
    clear f0 f1 f2 f3 f4 f5 ff e0 ef hltw
    obtain ⟨f0, f1, f2, f3, f4, f5, ff⟩ := blk6 HB11.out
    clear hx1
    go_wp2_with fail
    refine (HDC.out w1 HX1.out).mono ?_
    rintro r w2 ⟨rfl, rfl⟩
    rw [optV_some]
    obtain ⟨e0, ef⟩ := blk1 HB01.out
    obtain ⟨c0, c1, c2, c3, c4, c5, c6, c7, c8, c9⟩ := (HRW.out.mono HX1.out.sub).ten
    go_wp2_with fail
    go_still_tail 8, (by kernel_rfl)
    change wpList _ _ _ _ _ w1.drew
    have hx2 : Ext w1 w1.drew := (Ext.refl w1).drew
    generalize w1.drew = w2 at hx2 ⊢
    have HX2 := hI (HX1.out.trans hx2)
    clear hx2 c0 c1 c2 c3 c4 c5 c6 c7 c8 c9 f0 f1 f2 f3 f4 f5 ff e0 ef
    have HDG := hI (HDF.out v.x.val w2 HX2.out (HCX.out.ext HX2.out))
    unfold ExV.val exV at HDG
    go_wp2_with fail
    refine HDG.out.mono ?_
    rintro r w3 ⟨rfl, hx3⟩
    have HX3 := hI (HX2.out.trans hx3)
    clear hx3
    go_wp2_with fail
    go_ret
    exact givesE_bool (by rw [HQ.out]) HX3.out
   -- a word
   ·obtain ⟨his, -⟩ := attrAt_at hat
    obtain ⟨hif, hlo2, hhi2⟩ := fact_at HFA.out his
    have hkd' : s[i].kind = 1 := by rw [<- hkd]; simp [his]
    have hdm : domB s[i] = (0, (s[i].words.length : Int) - 1) := by unfold domB; rw [if_pos hkd']
    rw [hdm] at hlo2 hhi2
    simp only at hlo2 hhi2
    obtain ⟨ab, ao, rfl, hA⟩ : ∃ ab ao, sa = some ⟨ab, ao, none⟩ /\ AttrAt w s[i] ab (ao + i * 5) := by
     obtain ⟨xa, xn, xc, e', -, -, -, hq⟩ := HS.out.parts
     simp only [Value.agg.injEq, Array.mk.injEq, List.cons.injEq, Value.slice.injEq, and_true] at e'
     obtain ⟨rfl, rfl, rfl⟩ := e'
     exact hq i his
    obtain ⟨x1, hx1⟩ : ∃ x1, x1 = s[i] := ⟨_, rfl⟩
    rw [<- hx1] at hA hkd' hhi2
    obtain ⟨bw, nwa, cwa, hstr, hfive⟩ := hA.five
    have H5 := hI hfive
    obtain ⟨fb, fo, rfl, hcell⟩ := HI.out.2 i hif
    obtain ⟨z, hz⟩ : ∃ z : Nat, f[i] = (z : Int) := ⟨f[i].toNat, by omega⟩
    rw [hz] at hcell hlo2 hhi2
    have hzw : z < x1.words.length := by omega
    obtain ⟨wb, wo, rfl, hwc⟩ := hstr.2.2.2 z hzw
    have HWC := hI hwc
    have hzn : z < nwa := by rw [hstr.1]; exact hzw
    have HQ := hI (show R = words.any (fun y => decide (y = x1.words[z])) by
     rw [HR.out]
     simp only [factV, hat]
     rw [if_neg (by decide), if_neg (by decide), if_neg (by decide), if_neg (by decide), if_neg (by decide), if_neg (by decide), if_pos (by decide)]
     simp [his, hif, hz, <- hx1, hzw])
    have hin : i < fn := by rw [HI.out.1]; exact hif
    have hisn : i < sn := by rw [HSN.out]; exact his
    have HCF := hI hcell
    have HWI := hI (fun W (hW : Ext w W) => rWithin_calls words aw nw cw x1.words[z] W (HW.out.ext hW) (by have := HWD.out rfl; rw [HW.out.1]; omega))
    rw [hat, optV_some] at HIX
    obtain ⟨x, hxx⟩ : ∃ x, x = x1.words[z] := ⟨_, rfl⟩
    rw [<- hxx] at HWC HQ HWI
    clear hx1 hat hkd his hif hlo2 hhi2 hcell hz hkd' hdm hA hstr hfive hwc hzw hxx HARG HDEF
    go_enter Tryz.func130, Tryz.ntmps130
    go_upto_region 1 with fail
    rw [<- hwa]
    clear hwa
    go_wp2_with fail
    refine HIX.out.mono ?_
    rintro r w1 ⟨rfl, hx1⟩
    have HX1 := hI (HXA.out.trans hx1)
    clear f0 f1 f2 f3 f4 f5 ff e0 ef hltw
    obtain ⟨f0, f1, f2, f3, f4, f5, ff⟩ := blk6 (hx1.blk HB1.out)
    obtain ⟨e0, ef⟩ := blk1 (hx1.blk HB0.out)
    have hcf := HX1.out.cell HCF.out
    have hwf := HX1.out.cell HWC.out
    obtain ⟨g0, g1, g2, g3, g4⟩ := H5.out w1 HX1.out
    clear hx1
    go_wp2_with fail
    go_still_tail 14, (by kernel_rfl)
    change wpList _ _ _ _ _ w1.drew
    have hx2 : Ext w1 w1.drew := (Ext.refl w1).drew
    generalize w1.drew = w2 at hx2 ⊢
    have HX2 := hI (HX1.out.trans hx2)
    clear hx2 f0 f1 f2 f3 f4 f5 ff e0 ef hcf hwf g0 g1 g2 g3 g4
    go_wp2_with fail
    refine (HWI.out w2 HX2.out).mono ?_
    rintro r w3 ⟨rfl, rfl⟩
    go_wp2_with fail
    go_ret
    exact givesE_bool (by rw [HQ.out]) HX2.out
   -- a number
   ·obtain ⟨his, -⟩ := attrAt_at hat
    obtain ⟨hif, -, -⟩ := fact_at HFA.out his
    obtain ⟨fb, fo, rfl, hcell⟩ := HI.out.2 i hif
    obtain ⟨z, hz⟩ : ∃ z, z = f[i] := ⟨_, rfl⟩
    rw [<- hz] at hcell
    have HQ := hI (show R = (decide (lo <= z) && decide (z <= hi')) by
     rw [HR.out]
     simp only [factV, hat]
     rw [if_neg (by decide), if_neg (by decide), if_neg (by decide), if_neg (by decide), if_neg (by decide), if_neg (by decide), if_neg (by decide), if_pos (by decide)]
     simp [hif, <- hz])
    have hin : i < fn := by rw [HI.out.1]; exact hif
    have HCF := hI hcell
    rw [hat, optV_some] at HIX
    clear hat hkd his hif hcell hz HARG HDEF
    have hw4 : (decide (lo <= z) = true /\ decide (z <= hi') = true /\ R = true) \/ (decide (lo <= z) = true /\ decide (z <= hi') = false /\ R = false) \/ (decide (lo <= z) = false /\ R = false) := by
     rw [HQ.out]
     cases decide (lo <= z) <;> cases decide (z <= hi') <;> simp
    rcases hw4 with ⟨t1, t2, hf⟩ | ⟨t1, t2, hf⟩ | ⟨t1, hf⟩
    all_goals
     have HF := hI hf
     clear hf
     go_enter Tryz.func130, Tryz.ntmps130
     go_upto_region 1 with fail
     rw [<- hwa]
     clear hwa
     go_wp2_with fail
     refine HIX.out.mono ?_
     rintro r w1 ⟨rfl, hx1⟩
     have HX1 := hI (HXA.out.trans hx1)
     clear f0 f1 f2 f3 f4 f5 ff e0 ef hltw
     obtain ⟨f0, f1, f2, f3, f4, f5, ff⟩ := blk6 (hx1.blk HB1.out)
     have hcf := HX1.out.cell HCF.out
     clear hx1
     go_wp2_with fail
     go_quiet (fail)
     go_wp2_with fail
     go_ret
     exact givesE_bool (by rw [HF.out]) (HX1.out.drewN _)
   -- not
   ·have hj : 0 < args.length := by omega
    have HQ := hI (show R = !(valF s l f (g + 1) args[0]) by
     rw [HR.out, if_pos rfl, valHd_at, List.getElem?_eq_getElem hj]; rfl)
    have hnp : 0 < na := by have := HNA.out; omega
    have HXJ := hI (fun W (hW : Ext w W) => ExsD.at args _ (ExsD.ext hW args _ HX.out) 0 hj)
    have HA0 := hI (HARG.out 0 hj)
    obtain ⟨V, hV⟩ : ∃ V, V = valF s l f (g + 1) args[0] := ⟨_, rfl⟩
    rw [<- hV] at HQ HA0
    clear hl1 hV HARG HDEF
    go_enter Tryz.func130, Tryz.ntmps130
    go_upto_region 1 with fail
    rw [<- hwa]
    clear hwa
    go_wp2_with fail
    refine HIX.out.mono ?_
    rintro r w1 ⟨rfl, hx1⟩
    have HX1 := hI (HXA.out.trans hx1)
    unfold optV
    clear f0 f1 f2 f3 f4 f5 ff e0 ef hltw
    obtain ⟨f0, f1, f2, f3, f4, f5, ff⟩ := blk6 (hx1.blk HB1.out)
    obtain ⟨e0, ef⟩ := blk1 (hx1.blk HB0.out)
    obtain ⟨b, off, rfl, aw1, nw1, cw1, aa1, na1, ca1, h0, h1, h2, h3, h4, h5, h6⟩ := HXJ.out w1 HX1.out
    have H6 := hI h6
    simp only [Nat.zero_mul, Nat.add_zero] at h0 h1 h2 h3 h4 h5
    clear hx1 h6
    go_wp2_with fail
    go_still_tail 7, (by kernel_rfl)
    change wpList _ _ _ _ _ w1.drew
    have hx2 : Ext w1 w1.drew := (Ext.refl w1).drew
    generalize w1.drew = w2 at hx2 ⊢
    have HX2 := hI (HX1.out.trans hx2)
    have HAX := hI (HA0.out _ w2 HX2.out (H6.out.ext hx2))
    unfold exV at HAX
    clear hx2 f0 f1 f2 f3 f4 f5 ff e0 ef h0 h1 h2 h3 h4 h5
    go_wp2_with fail
    refine HAX.out.mono ?_
    rintro r w3 ⟨rfl, hx3⟩
    have HX3 := hI (HX2.out.trans hx3)
    clear hx3
    go_wp2_with fail
    go_ret
    exact givesE_bool (by rw [HQ.out]) HX3.out
   -- and
   ·have HQ := hI (show R = args.all (valE s f (valsOf s l f g)) by rw [HR.out, if_neg (by decide), if_pos rfl, valAll_iff])
    have HXJ := hI (fun W (hW : Ext w W) => ExsD.at args _ (ExsD.ext hW args _ HX.out))
    obtain ⟨V, hV⟩ : ∃ V, V = valsOf s l f g := ⟨_, rfl⟩
    rw [<- hV] at HQ
    have HAV := hI (show ∀ (j : Nat) (hj : j < args.length) (xv : Value) (W : World), Ext w W -> IsEx W args[j] xv -> Calls Tryz.prog 130 #[.agg #[.slice sa sn sc], .slice a n c, xv, .slice fa fn fc] W (GivesE (.bool (valE s f V args[j])) W) from fun j hj xv W hW hxv => by rw [hV, <- valF_eq]; exact HARG.out j hj xv W hW hxv)
    clear hV HARG HDEF
    go_enter Tryz.func130, Tryz.ntmps130
    go_upto_region 1 with fail
    rw [<- hwa]
    clear hwa
    go_wp2_with fail
    refine HIX.out.mono ?_
    rintro r w1 ⟨rfl, hx1⟩
    have HX1 := hI (HXA.out.trans hx1)
    have HB01 := hI (hx1.blk HB0.out)
    have HB11 := hI (hx1.blk HB1.out)
    unfold optV
    clear f0 f1 f2 f3 f4 f5 ff e0 ef hltw
    obtain ⟨f0, f1, f2, f3, f4, f5, ff⟩ := blk6 HB11.out
    clear hx1
    go_wp2_with fail
    clear f0 f1 f2 f3 f4 f5 ff
    go_loopw [13, 14] (TruthN s f V args na w.heap.size (.cells #[.slice sa sn sc] 25 (0, 0)) (.cells #[.int .i64 7, .string name, .slice aw nw cw, .int .i64 lo, .int .i64 hi', .slice aa na ca] 96 (0, 0)) w) (fun _ i _ => na - (intOf i).toNat)
    case atStart => exact ⟨0, 0, rfl, rfl, by omega, by omega, ⟨fun _ j _ h => by omega, fun _ => rfl⟩, HB01.out, HB11.out, HX1.out⟩
    case round =>
     obtain ⟨k, q, rfl, rfl, hk, hqk, hall, hb0, hb1, hxr⟩ := hrel
     have HALL := hI hall
     have HB0R := hI hb0
     have HB1R := hI hb1
     have HXR := hI hxr
     obtain ⟨e0, ef⟩ := blk1 hb0
     obtain ⟨f0, f1, f2, f3, f4, f5, ff⟩ := blk6 hb1
     clear hall hb0 hb1 hxr
     by_cases hkn : k < na
     ·have hka : k < args.length := by have := HNA.out; omega
      have t1 : decide ((k : Int) < (na : Int)) = true := decide_eq_true (by omega)
      obtain ⟨b, off, rfl, aw1, nw1, cw1, aa1, na1, ca1, h0, h1, h2, h3, h4, h5, h6⟩ := HXJ.out wr HXR.out k hka
      have H6 := hI h6
      have HAK := hI (HAV.out k hka)
      obtain ⟨B, hB⟩ : ∃ B, B = valE s f V args[k] := ⟨_, rfl⟩
      rw [<- hB] at HAK
      have HBB := hI hB
      clear h6 hB
      go_wp2_with fail
      go_still_tail 8, (by kernel_rfl)
      change wpList _ _ _ _ _ wr.drew
      have hx2 : Ext wr wr.drew := (Ext.refl wr).drew
      generalize wr.drew = w2 at hx2 ⊢
      have HX2 := hI (HXR.out.trans hx2)
      have HB02 := hI (hx2.blk HB0R.out)
      have HB12 := hI (hx2.blk HB1R.out)
      have HAX := hI (HAK.out _ w2 HX2.out (H6.out.ext hx2))
      unfold exV at HAX
      clear hx2 f0 f1 f2 f3 f4 f5 ff e0 ef h0 h1 h2 h3 h4 h5
      go_wp2_with fail
      refine HAX.out.mono ?_
      rintro r w3 ⟨rfl, hx3⟩
      have HX3 := hI (HX2.out.trans hx3)
      have HB03 := hI (hx3.blk HB02.out)
      have HB13 := hI (hx3.blk HB12.out)
      clear hx3
      cases B
      ·go_wp2_with fail
       go_roundw
       case rel =>
        refine ⟨k + 1, q, by go_num, rfl, by omega, by omega, ⟨fun h => by omega, fun h => ?_⟩, HB03.out, HB13.out, HX3.out⟩
        have := h k hka (by omega)
        rw [<- HBB.out] at this; cases this
       case measure => simp [intOf]; omega
      go_wp2_with fail
      go_roundw
      case rel =>
       refine ⟨k + 1, q + 1, by go_num, by go_num, by omega, by omega, ⟨fun h j hj hjk => ?_, fun h => ?_⟩, HB03.out, HB13.out, HX3.out⟩
       ·by_cases e : j = k
        ·subst e; exact HBB.out.symm
        exact HALL.out.1 (by omega) j hj (by omega)
       have := HALL.out.2 fun j hj hjk => h j hj (by omega)
       omega
      case measure => simp [intOf]; omega
     have t1 : decide ((k : Int) < (na : Int)) = false := decide_eq_false (by omega)
     have HF := hI (show R = ((q : Int) == (na : Int)) by
      rw [HQ.out, Bool.eq_iff_iff, List.all_eq_true]
      simp only [beq_iff_eq]
      constructor
      ·intro h
       have := HALL.out.2 fun j hj _ => h _ (List.getElem_mem hj)
       omega
      intro h x hx
      obtain ⟨j, hj, rfl⟩ := List.getElem_of_mem hx
      exact HALL.out.1 (by omega) j hj (by have := HNA.out; omega))
     go_wp2_with fail
     go_ret
     exact givesE_bool (by rw [HF.out]) HXR.out
   -- or
   have HQ := hI (show R = args.any (valE s f (valsOf s l f g)) by rw [HR.out, if_neg (by decide), if_neg (by decide), if_pos rfl, valAny_iff])
   have HXJ := hI (fun W (hW : Ext w W) => ExsD.at args _ (ExsD.ext hW args _ HX.out))
   obtain ⟨V, hV⟩ : ∃ V, V = valsOf s l f g := ⟨_, rfl⟩
   rw [<- hV] at HQ
   have HAV := hI (show ∀ (j : Nat) (hj : j < args.length) (xv : Value) (W : World), Ext w W -> IsEx W args[j] xv -> Calls Tryz.prog 130 #[.agg #[.slice sa sn sc], .slice a n c, xv, .slice fa fn fc] W (GivesE (.bool (valE s f V args[j])) W) from fun j hj xv W hW hxv => by rw [hV, <- valF_eq]; exact HARG.out j hj xv W hW hxv)
   clear hV HARG HDEF
   go_enter Tryz.func130, Tryz.ntmps130
   go_upto_region 1 with fail
   rw [<- hwa]
   clear hwa
   go_wp2_with fail
   refine HIX.out.mono ?_
   rintro r w1 ⟨rfl, hx1⟩
   have HX1 := hI (HXA.out.trans hx1)
   have HB01 := hI (hx1.blk HB0.out)
   have HB11 := hI (hx1.blk HB1.out)
   unfold optV
   clear f0 f1 f2 f3 f4 f5 ff e0 ef hltw
   obtain ⟨f0, f1, f2, f3, f4, f5, ff⟩ := blk6 HB11.out
   clear hx1
   go_wp2_with fail
   clear f0 f1 f2 f3 f4 f5 ff
   go_loopw [15] (TruthA s f V args na w.heap.size (.cells #[.slice sa sn sc] 25 (0, 0)) (.cells #[.int .i64 8, .string name, .slice aw nw cw, .int .i64 lo, .int .i64 hi', .slice aa na ca] 96 (0, 0)) w) (fun i _ => na - (intOf i).toNat)
   case atStart => exact ⟨0, rfl, by omega, fun j _ h => by omega, HB01.out, HB11.out, HX1.out⟩
   case round =>
    obtain ⟨k, rfl, hk, hall, hb0, hb1, hxr⟩ := hrel
    have HALL := hI hall
    have HB0R := hI hb0
    have HB1R := hI hb1
    have HXR := hI hxr
    obtain ⟨e0, ef⟩ := blk1 hb0
    obtain ⟨f0, f1, f2, f3, f4, f5, ff⟩ := blk6 hb1
    clear hall hb0 hb1 hxr
    by_cases hkn : k < na
    ·have hka : k < args.length := by have := HNA.out; omega
     have t1 : decide ((k : Int) < (na : Int)) = true := decide_eq_true (by omega)
     obtain ⟨b, off, rfl, aw1, nw1, cw1, aa1, na1, ca1, h0, h1, h2, h3, h4, h5, h6⟩ := HXJ.out wr HXR.out k hka
     have H6 := hI h6
     have HAK := hI (HAV.out k hka)
     obtain ⟨B, hB⟩ : ∃ B, B = valE s f V args[k] := ⟨_, rfl⟩
     rw [<- hB] at HAK
     have HBB := hI hB
     clear h6 hB
     go_wp2_with fail
     go_still_tail 8, (by kernel_rfl)
     change wpList _ _ _ _ _ wr.drew
     have hx2 : Ext wr wr.drew := (Ext.refl wr).drew
     generalize wr.drew = w2 at hx2 ⊢
     have HX2 := hI (HXR.out.trans hx2)
     have HB02 := hI (hx2.blk HB0R.out)
     have HB12 := hI (hx2.blk HB1R.out)
     have HAX := hI (HAK.out _ w2 HX2.out (H6.out.ext hx2))
     unfold exV at HAX
     clear hx2 f0 f1 f2 f3 f4 f5 ff e0 ef h0 h1 h2 h3 h4 h5
     go_wp2_with fail
     refine HAX.out.mono ?_
     rintro r w3 ⟨rfl, hx3⟩
     have HX3 := hI (HX2.out.trans hx3)
     have HB03 := hI (hx3.blk HB02.out)
     have HB13 := hI (hx3.blk HB12.out)
     clear hx3
     cases B
     ·go_wp2_with fail
      go_roundw
      case rel =>
       refine ⟨k + 1, by go_num, by omega, fun j hj hjk => ?_, HB03.out, HB13.out, HX3.out⟩
       by_cases e : j = k
       ·subst e; exact HBB.out.symm
       exact HALL.out j hj (by omega)
      case measure => simp [intOf]; omega
     have HF := hI (show R = true by rw [HQ.out, List.any_eq_true]; exact ⟨_, List.getElem_mem hka, HBB.out.symm⟩)
     go_wp2_with fail
     go_ret
     exact givesE_bool (by rw [HF.out]) HX3.out
    have t1 : decide ((k : Int) < (na : Int)) = false := decide_eq_false (by omega)
    have HF := hI (show R = false by
     rw [HQ.out, List.any_eq_false]
     intro x hx
     obtain ⟨j, hj, rfl⟩ := List.getElem_of_mem hx
     rw [HALL.out j hj (by have := HNA.out; omega)]; simp)
    go_wp2_with fail
    go_ret
    exact givesE_bool (by rw [HF.out]) HXR.out
theorem bits_one (x : Nat) (hx : x < 4611686018427387904) : bits .and .i64 (x : Int) 1 = ((x % 2 : Nat) : Int) := by
 have h1 : (BitVec.ofInt 64 (x : Int)).toNat = x := by
  rw [BitVec.ofInt_natCast, BitVec.toNat_ofNat]; exact Nat.mod_eq_of_lt (by omega)
 have h2 : (BitVec.ofInt 64 (1 : Int)).toNat = 1 := by decide
 show IntKind.i64.wrap ((BitVec.ofInt 64 (x : Int) &&& BitVec.ofInt 64 (1 : Int)).toNat : Int) = _
 rw [BitVec.toNat_and, h1, h2, Nat.and_one_is_mod]
 exact IntWalk.i64_in _ (by omega)
theorem bit_at (a p : Nat) (ha : a <= 17592186044416) : bits .and .i64 ((a : Int) / 2 ^ p) 1 = ((a / 2 ^ p % 2 : Nat) : Int) := by
 have e : ((a : Int) / 2 ^ p) = ((a / 2 ^ p : Nat) : Int) := by simp
 rw [e]
 exact bits_one _ (by have := Nat.div_le_self a (2 ^ p); omega)
theorem half (a p : Nat) : a / 2 ^ p = 2 * (a / 2 ^ (p + 1)) + a / 2 ^ p % 2 := by
 have : a / 2 ^ (p + 1) = a / 2 ^ p / 2 := by rw [Nat.pow_succ, Nat.div_div_eq_div_mul]
 omega
def DivL (a num den : Nat) (q r i : Value) : Prop := ∃ (Q S j : Nat), q = .int .i64 Q /\ r = .int .i64 S /\ i = .int .i64 ((j : Int) - 1) /\ j <= 46 /\ S < den /\ Q <= 35184372088832 /\ Q * den + S = (a / 2 ^ j) * num
def divOk (a num den : Nat) : Bool := decide (a * num / den <= 35184372088832)
def DivQ (a num den : Nat) (w : World) (e : Ending) (w' : World) : Prop := (∃ q r : Nat, e = .returned (.tuple #[.int .i64 q, .int .i64 r, .bool (divOk a num den)]) /\ (divOk a num den = true -> q = a * num / den /\ r = a * num % den) /\ (divOk a num den = false -> q = 0 /\ r = 0)) /\ Ext w w'
theorem div_step {a num den Q S p B : Nat} (hB : a / 2 ^ p % 2 = B) (he : Q * den + S = (a / 2 ^ (p + 1)) * num) : (2 * Q + (2 * S + B * num) / den) * den + (2 * S + B * num) % den = (a / 2 ^ p) * num := by
 rw [half a p, hB, Nat.add_mul, Nat.add_mul, Nat.mul_assoc 2 (a / 2 ^ (p + 1)), <- he]
 have h1 := Nat.div_add_mod (2 * S + B * num) den
 have h2 : (2 * S + B * num) / den * den = den * ((2 * S + B * num) / den) := Nat.mul_comm _ _
 have h3 : 2 * Q * den = 2 * (Q * den) := Nat.mul_assoc _ _ _
 rw [Nat.mul_add 2, h2, h3]
 omega
theorem div_far {a num den Q S p : Nat} (hd : 0 < den) (hq : 35184372088832 < Q) (he : Q * den + S = (a / 2 ^ p) * num) : divOk a num den = false := by
 unfold divOk
 refine decide_eq_false (fun h => ?_)
 have h1 : (a / 2 ^ p) * num <= a * num := Nat.mul_le_mul_right _ (Nat.div_le_self _ _)
 have h2 : Q <= a * num / den := (Nat.le_div_iff_mul_le hd).2 (by omega)
 omega
theorem div_done {a num den Q S : Nat} (hd : 0 < den) (hS : S < den) (he : Q * den + S = (a / 2 ^ 0) * num) : Q = a * num / den /\ S = a * num % den := by
 rw [Nat.pow_zero, Nat.div_one] at he
 rw [<- he]
 constructor
 ·rw [Nat.add_comm, Nat.add_mul_div_right _ _ hd, Nat.div_eq_of_lt hS, Nat.zero_add]
 rw [Nat.add_comm, Nat.add_mul_mod_self_right, Nat.mod_eq_of_lt hS]
theorem divide_calls (a num den : Nat) (w : World) (ha : a <= 17592186044416) (hn : num <= 17592186044416) (hd0 : 0 < den) (hd : den <= 4503599627370496) :
  Calls Tryz.prog 96 #[.int .i64 a, .int .i64 num, .int .i64 den] w (DivQ a num den w) := by
 go_enter Tryz.func96, Tryz.ntmps96
 go_wp2_with fail
 go_loopw [9, 10, 11] (fun q r i wr => DivL a num den q r i /\ Ext w wr) (fun _ _ i _ => (intOf i + 1).toNat)
 case atStart => exact ⟨⟨0, 0, 46, rfl, rfl, rfl, by omega, hd0, by omega, by rw [Nat.div_eq_of_lt (by omega : a < 2 ^ 46)]; simp⟩, Ext.refl _⟩
 case round =>
  obtain ⟨⟨Q, S, j, rfl, rfl, rfl, hj, hS, hQ, he⟩, hx⟩ := hrel
  obtain ⟨wo, rfl⟩ : ∃ wo : World, wo = wr := ⟨_, rfl⟩
  have HE := hI he
  have HX := hI hx
  clear he hx
  by_cases hj0 : j = 0
  ·subst hj0
   have HD := hI (div_done hd0 hS HE.out)
   have HO := hI (show divOk a num den = true by
    unfold divOk
    rw [<- HD.out.1]
    exact decide_eq_true hQ)
   have e1 : ((0 : Nat) : Int) - 1 = -1 := rfl
   rw [e1]
   have t1 : decide ((0 : Int) <= -1) = false := by decide
   clear HE
   go_wp2_with fail
   refine bodyPost_ret (v := .tuple #[.int .i64 ((Q : Nat)), .int .i64 ((S : Nat)), .bool true]) (by simp [results, Tryz.results96, go_sem]) rfl ?_
   exact ⟨⟨Q, S, by rw [HO.out], fun _ => HD.out, (fun h => by rw [HO.out] at h; cases h)⟩, HX.out⟩
  obtain ⟨p, rfl⟩ : ∃ p, j = p + 1 := ⟨j - 1, by omega⟩
  have e1 : ((p + 1 : Nat) : Int) - 1 = (p : Int) := by omega
  rw [e1]
  have t1 : decide ((0 : Int) <= (p : Int)) = true := decide_eq_true (by omega)
  have hb := bit_at a p ha
  rcases Nat.mod_two_eq_zero_or_one (a / 2 ^ p) with hB | hB
  ·rw [hB] at hb
   obtain ⟨Q2, hQ2⟩ : ∃ Q2, Q2 = 2 * Q + (2 * S + 0 * num) / den := ⟨_, rfl⟩
   obtain ⟨S2, hS2⟩ : ∃ S2, S2 = (2 * S + 0 * num) % den := ⟨_, rfl⟩
   have HE2 := hI (div_step hB HE.out)
   rw [<- hQ2, <- hS2] at HE2
   have hS3 : S2 < den := by rw [hS2]; exact Nat.mod_lt _ hd0
   have hq1 : 2 * (S : Int) / (den : Int) = (((2 * S + 0 * num) / den : Nat) : Int) := by simp
   have hq3 : (2 * S + 0 * num) / den <= 2 * S + 0 * num := Nat.div_le_self _ _
   have hq2 : wrap64 (2 * (Q : Int) + 2 * (S : Int) / (den : Int)) = (Q2 : Int) := by
    rw [hq1, IntWalk.wrap64_in _ (by omega)]; omega
   have hs2 : 2 * (S : Int) % (den : Int) = (S2 : Int) := by rw [hS2]; simp
   have HQ2 := hI hq2
   have HS2 := hI hs2
   clear hB hq1 hq3 hQ2 hS2 HE hq2 hs2
   go_wp2_with fail
   go_quiet (fail)
   rw [HQ2.out, HS2.out]
   by_cases hfar : 35184372088832 < Q2
   ·have t2 : decide ((35184372088832 : Int) < (Q2 : Int)) = true := decide_eq_true (by omega)
    have HO := hI (div_far hd0 hfar HE2.out)
    clear hfar
    go_wp2_with fail
    refine bodyPost_ret (v := .tuple #[.int .i64 (0), .int .i64 (0), .bool false]) (by simp [results, Tryz.results96, go_sem]) rfl ?_
    exact ⟨⟨0, 0, by rw [HO.out]; rfl, (fun h => by rw [HO.out] at h; cases h), fun _ => ⟨rfl, rfl⟩⟩, HX.out.drewN _⟩
   have t2 : decide ((35184372088832 : Int) < (Q2 : Int)) = false := decide_eq_false (by omega)
   go_wp2_with fail
   go_roundw
   case rel => exact ⟨⟨Q2, S2, p, rfl, rfl, rfl, by omega, hS3, by omega, HE2.out⟩, HX.out.drewN _⟩
   case measure => simp [intOf]
  rw [hB] at hb
  obtain ⟨Q2, hQ2⟩ : ∃ Q2, Q2 = 2 * Q + (2 * S + 1 * num) / den := ⟨_, rfl⟩
  obtain ⟨S2, hS2⟩ : ∃ S2, S2 = (2 * S + 1 * num) % den := ⟨_, rfl⟩
  have HE2 := hI (div_step hB HE.out)
  rw [<- hQ2, <- hS2] at HE2
  have hS3 : S2 < den := by rw [hS2]; exact Nat.mod_lt _ hd0
  have hq1 : (2 * (S : Int) + (num : Int)) / (den : Int) = (((2 * S + 1 * num) / den : Nat) : Int) := by simp
  have hq3 : (2 * S + 1 * num) / den <= 2 * S + 1 * num := Nat.div_le_self _ _
  have hq2 : wrap64 (2 * (Q : Int) + (2 * (S : Int) + (num : Int)) / (den : Int)) = (Q2 : Int) := by
   rw [hq1, IntWalk.wrap64_in _ (by omega)]; omega
  have hs2 : (2 * (S : Int) + (num : Int)) % (den : Int) = (S2 : Int) := by rw [hS2]; simp
  have HQ2 := hI hq2
  have HS2 := hI hs2
  clear hB hq1 hq3 hQ2 hS2 HE hq2 hs2
  go_wp2_with fail
  go_quiet (fail)
  rw [HQ2.out, HS2.out]
  by_cases hfar : 35184372088832 < Q2
  ·have t2 : decide ((35184372088832 : Int) < (Q2 : Int)) = true := decide_eq_true (by omega)
   have HO := hI (div_far hd0 hfar HE2.out)
   clear hfar
   go_wp2_with fail
   refine bodyPost_ret (v := .tuple #[.int .i64 (0), .int .i64 (0), .bool false]) (by simp [results, Tryz.results96, go_sem]) rfl ?_
   exact ⟨⟨0, 0, by rw [HO.out]; rfl, (fun h => by rw [HO.out] at h; cases h), fun _ => ⟨rfl, rfl⟩⟩, HX.out.drewN _⟩
  have t2 : decide ((35184372088832 : Int) < (Q2 : Int)) = false := decide_eq_false (by omega)
  go_wp2_with fail
  go_roundw
  case rel => exact ⟨⟨Q2, S2, p, rfl, rfl, rfl, by omega, hS3, by omega, HE2.out⟩, HX.out.drewN _⟩
  case measure => simp [intOf]
def amtB (a : Int) : Bool := decide (-17592186044416 <= a) && decide (a <= 17592186044416)
theorem rAmt_calls (a : Int) (w : World) : Calls Tryz.prog 58 #[.int .i64 a] w (GivesE (.bool (amtB a)) w) := by
 obtain ⟨R, hR⟩ : ∃ R, R = amtB a := ⟨_, rfl⟩
 rw [<- hR]
 have HR := hI (show R = (decide (-17592186044416 <= a) && decide (a <= 17592186044416)) from hR)
 clear hR
 go_enter Tryz.func58, Tryz.ntmps58
 go_wp2_with fail
 all_goals (go_ret; exact givesE_b (by rw [HR.out]; simp_all <;> omega) (Ext.refl w))
theorem upHalf_calls (q r den : Nat) (neg : Bool) (w : World) (hr : r <= 4503599627370496) : Calls Tryz.prog 97 #[.int .i64 q, .int .i64 r, .int .i64 den, .int .i64 4, .bool neg] w (GivesE (.bool (decide (den <= 2 * r))) w) := by
 obtain ⟨R, hR⟩ : ∃ R, R = decide (den <= 2 * r) := ⟨_, rfl⟩
 rw [<- hR]
 by_cases h : den <= 2 * r
 ·have t1 : decide ((den : Int) <= 2 * (r : Int)) = true := decide_eq_true (by omega)
  have HR := hI (show R = true by rw [hR]; exact decide_eq_true h)
  clear hR h
  go_enter Tryz.func97, Tryz.ntmps97
  go_wp2_with fail
  go_ret
  exact givesE_b (by rw [HR.out]) (Ext.refl w)
 have t1 : decide ((den : Int) <= 2 * (r : Int)) = false := decide_eq_false (by omega)
 have HR := hI (show R = false by rw [hR]; exact decide_eq_false h)
 clear hR h
 go_enter Tryz.func97, Tryz.ntmps97
 go_wp2_with fail
 go_ret
 exact givesE_b (by rw [HR.out]) (Ext.refl w)
def halfUp (a num den : Nat) : Nat := a * num / den + (if den <= 2 * (a * num % den) then 1 else 0)
def mulH (a num den : Nat) : Nat × Nat := if 17592186044416 < a \/ 17592186044416 < num \/ 17592186044416 < den then (0, 1) else if den = 0 then (0, 2) else if divOk a num den = false then (0, 3) else if 17592186044416 < halfUp a num den then (0, 3) else (halfUp a num den, 0)
def MulQ (a num den : Nat) (w : World) (e : Ending) (w' : World) : Prop := e = .returned (.tuple #[.int .i64 (mulH a num den).1, .int .i64 (mulH a num den).2]) /\ Ext w w'
theorem mulDiv_calls (a num den : Nat) (w : World) (hb : a <= 1000000000000000000) : Calls Tryz.prog 60 #[.int .i64 a, .int .i64 num, .int .i64 den, .int .i64 4] w (MulQ a num den w) := by
 have HV := hI (rAmt_calls (a : Int) w)
 obtain ⟨R, hR⟩ : ∃ R, R = mulH a num den := ⟨_, rfl⟩
 unfold MulQ
 rw [<- hR]
 have HR := hI hR
 clear hR
 have n0 : decide ((num : Int) < 0) = false := decide_eq_false (by omega)
 have d0 : decide ((den : Int) < 0) = false := decide_eq_false (by omega)
 have a0 : decide ((a : Int) < 0) = false := decide_eq_false (by omega)
 by_cases ha : 17592186044416 < a
 ·have e1 : amtB (a : Int) = false := by unfold amtB; simp; omega
  rw [e1] at HV
  have HQ := hI (show R = (0, 1) by rw [HR.out]; unfold mulH; rw [if_pos (Or.inl ha)])
  clear ha e1
  go_enter Tryz.func60, Tryz.ntmps60
  go_wp2_with fail
  refine HV.out.mono ?_
  rintro r w1 ⟨rfl, hx1⟩
  have HX1 := hI hx1
  clear hx1
  go_wp2_with fail
  go_ret2
  exact ⟨by rw [HQ.out]; rfl, HX1.out⟩
 have e1 : amtB (a : Int) = true := by unfold amtB; simp; omega
 rw [e1] at HV
 by_cases hn : 17592186044416 < num
 ·have t1 : decide ((17592186044416 : Int) < (num : Int)) = true := decide_eq_true (by omega)
  have HQ := hI (show R = (0, 1) by rw [HR.out]; unfold mulH; rw [if_pos (Or.inr (Or.inl hn))])
  clear ha hn e1
  go_enter Tryz.func60, Tryz.ntmps60
  go_wp2_with fail
  refine HV.out.mono ?_
  rintro r w1 ⟨rfl, hx1⟩
  have HX1 := hI hx1
  clear hx1
  go_wp2_with fail
  go_ret2
  exact ⟨by rw [HQ.out]; rfl, HX1.out⟩
 have t1 : decide ((17592186044416 : Int) < (num : Int)) = false := decide_eq_false (by omega)
 by_cases hd : 17592186044416 < den
 ·have t2 : decide ((17592186044416 : Int) < (den : Int)) = true := decide_eq_true (by omega)
  have HQ := hI (show R = (0, 1) by rw [HR.out]; unfold mulH; rw [if_pos (Or.inr (Or.inr hd))])
  clear ha hn hd e1
  go_enter Tryz.func60, Tryz.ntmps60
  go_wp2_with fail
  refine HV.out.mono ?_
  rintro r w1 ⟨rfl, hx1⟩
  have HX1 := hI hx1
  clear hx1
  go_wp2_with fail
  go_ret2
  exact ⟨by rw [HQ.out]; rfl, HX1.out⟩
 have t2 : decide ((17592186044416 : Int) < (den : Int)) = false := decide_eq_false (by omega)
 have HR2 := hI (show R = if den = 0 then (0, 2) else if divOk a num den = false then (0, 3) else if 17592186044416 < halfUp a num den then (0, 3) else (halfUp a num den, 0) by rw [HR.out]; unfold mulH; rw [if_neg (by omega)])
 by_cases hz : den = 0
 ·have t3 : ((den : Int) == 0) = true := by simp [hz]
  have HQ := hI (show R = (0, 2) by rw [HR2.out, if_pos hz])
  clear ha hn hd e1 hz
  go_enter Tryz.func60, Tryz.ntmps60
  go_wp2_with fail
  refine HV.out.mono ?_
  rintro r w1 ⟨rfl, hx1⟩
  have HX1 := hI hx1
  clear hx1
  go_wp2_with fail
  go_ret2
  exact ⟨by rw [HQ.out]; rfl, HX1.out⟩
 have t3 : ((den : Int) == 0) = false := by simp [hz]
 have HR3 := hI (show R = if divOk a num den = false then (0, 3) else if 17592186044416 < halfUp a num den then (0, 3) else (halfUp a num den, 0) by rw [HR2.out, if_neg hz])
 have HDV := hI (fun W => divide_calls a num den W (by omega) (by omega) (by omega) (by omega))
 have hr1 : a * num % den <= 4503599627370496 := by have := Nat.mod_lt (a * num) (show 0 < den by omega); omega
 have HHU := hI (show halfUp a num den = a * num / den + (if den <= 2 * (a * num % den) then 1 else 0) from rfl)
 have HOK := hI (show divOk a num den = true -> a * num / den <= 35184372088832 from fun h => of_decide_eq_true h)
 clear ha hn hd e1 HR HR2
 go_enter Tryz.func60, Tryz.ntmps60
 go_wp2_with fail
 refine HV.out.mono ?_
 rintro r w1 ⟨rfl, hx1⟩
 have HX1 := hI hx1
 clear hx1
 go_wp2_with fail
 refine (HDV.out w1).mono ?_
 rintro r w2 ⟨⟨q, s, rfl, hok, hno⟩, hx2⟩
 have HX2 := hI (HX1.out.trans hx2)
 clear hx2
 cases hO : divOk a num den
 ·have HQ := hI (show R = (0, 3) by rw [HR3.out, if_pos hO])
  clear hok hno hO
  go_wp2_with fail
  go_ret2
  exact ⟨by rw [HQ.out]; rfl, HX2.out⟩
 obtain ⟨hq1, hq2⟩ := hok hO
 have hql := HOK.out hO
 rw [<- hq1] at hql
 rw [<- hq2] at hr1
 have HH2 := hI (show halfUp a num den = q + (if den <= 2 * s then 1 else 0) by rw [HHU.out, <- hq1, <- hq2])
 have HR4 := hI (show R = if 17592186044416 < halfUp a num den then (0, 3) else (halfUp a num den, 0) by rw [HR3.out, if_neg (by simp [hO])])
 clear hok hno hO hq1 hq2 HR3 HDV HHU HOK
 go_wp2_with fail
 refine (upHalf_calls q s den false w2 hr1).mono ?_
 rintro r w3 ⟨rfl, hx3⟩
 have HX3 := hI (HX2.out.trans hx3)
 clear hx3
 cases hu : decide (den <= 2 * s)
 ·have HU := hI (show halfUp a num den = q by rw [HH2.out, if_neg (of_decide_eq_false hu)]; omega)
  clear hu
  by_cases hbig : 17592186044416 < q
  ·have t4 : decide ((17592186044416 : Int) < (q : Int)) = true := decide_eq_true (by omega)
   have HQ := hI (show R = (0, 3) by rw [HR4.out, HU.out, if_pos hbig])
   clear hbig
   go_wp2_with fail
   go_ret2
   exact ⟨by rw [HQ.out]; rfl, HX3.out⟩
  have t4 : decide ((17592186044416 : Int) < (q : Int)) = false := decide_eq_false (by omega)
  have HQ := hI (show R = (q, 0) by rw [HR4.out, HU.out, if_neg hbig])
  clear hbig
  go_wp2_with fail
  go_ret2
  exact ⟨by rw [HQ.out]; rfl, HX3.out⟩
 have HU := hI (show halfUp a num den = q + 1 by rw [HH2.out, if_pos (of_decide_eq_true hu)])
 clear hu
 by_cases hbig : 17592186044416 < q + 1
 ·have t4 : decide ((17592186044416 : Int) < (q : Int) + 1) = true := decide_eq_true (by omega)
  have HQ := hI (show R = (0, 3) by rw [HR4.out, HU.out, if_pos hbig])
  clear hbig
  go_wp2_with fail
  go_ret2
  exact ⟨by rw [HQ.out]; rfl, HX3.out⟩
 have t4 : decide ((17592186044416 : Int) < (q : Int) + 1) = false := decide_eq_false (by omega)
 have HQ := hI (show R = (q + 1, 0) by rw [HR4.out, HU.out, if_neg hbig])
 clear hbig
 go_wp2_with fail
 go_ret2
 exact ⟨by rw [HQ.out]; rfl, HX3.out⟩
end Go.Proofs.YtefjomofjejklaaGreat
