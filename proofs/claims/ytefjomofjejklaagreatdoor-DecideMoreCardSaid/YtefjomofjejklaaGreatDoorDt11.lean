/-
  Texts of the claim, joined: Facts, Prf, Truth, RBerr, ROrd1, Seen, Names2.
-/
import Derived.Test.YtefjomofjejklaaGreatDoorDt10
import Derived.StringKeys
namespace Go.Proofs.YtefjomofjejklaaGreatDoor
set_option maxRecDepth 100000
set_option maxHeartbeats 32000000
open Go.RowKit
def IsIntF (w : World) (f : ZI) (a : OA) (n : Nat) : Prop := n = f.length /\ ∀ i (h : i < f.length), ∃ b off, a = some ⟨b, off, none⟩ /\ w.cell? ⟨b, off + i, none⟩ = some (.int .i64 f[i])
theorem IsIntF.mono {w w' : World} {f : ZI} {a : OA} {n : Nat} (h : IsIntF w f a n) (hs : Sub w w') : IsIntF w' f a n := ⟨h.1, fun i hi => by obtain ⟨b, off, e, hc⟩ := h.2 i hi; exact ⟨b, off, e, hs _ _ hc⟩⟩
theorem IsIntF.ext {w w' : World} {f : ZI} {a : OA} {n : Nat} (h : IsIntF w f a n) (he : Ext w w') : IsIntF w' f a n := h.mono he.sub
def domV (a : Attr) : Value := .tuple #[.int .i64 (domB a).1, .int .i64 (domB a).2]
theorem factsAll_miss {s : List Attr} {f : ZI} {k : Nat} (hk : k < s.length) (hj : k < f.length) (h : f[k] < (domB s[k]).1 \/ (domB s[k]).2 < f[k]) : factsAll s f = false := by
 cases hf : factsAll s f
 ·rfl
 have := factsAll_at hf k hk hj
 omega
theorem factsAll_short {s : List Attr} {f : ZI} (h : f.length ≠ s.length) : factsAll s f = false := by
 cases hf : factsAll s f
 ·rfl
 exact absurd (factsAll_len hf) h
theorem fact_at {s : List Attr} {f : ZI} (h : factsAll s f = true) {i : Nat} (hi : i < s.length) : ∃ h2 : i < f.length, (domB s[i]).1 <= f[i] /\ f[i] <= (domB s[i]).2 := by
 have h2 : i < f.length := by rw [factsAll_len h]; exact hi
 exact ⟨h2, factsAll_at h i hi h2⟩
theorem AttrAt.five {w : World} {x : Attr} {b off : Nat} (h : AttrAt w x b off) : ∃ aw nw cw, IsStrs w x.words aw nw cw /\ ∀ W, Ext w W -> W.cell? ⟨b, off, none⟩ = some (.string x.name) /\ W.cell? ⟨b, off + 1, none⟩ = some (.int .i64 x.kind) /\ W.cell? ⟨b, off + 2, none⟩ = some (.slice aw nw cw) /\ W.cell? ⟨b, off + 3, none⟩ = some (.int .i64 x.lo) /\ W.cell? ⟨b, off + 4, none⟩ = some (.int .i64 x.hi) := by
 obtain ⟨aw, nw, cw, g0, g1, g2, g3, g4, g5⟩ := h
 exact ⟨aw, nw, cw, g5, fun W hW => ⟨hW.cell g0, hW.cell g1, hW.cell g2, hW.cell g3, hW.cell g4⟩⟩
theorem rDomain_calls (s : List Attr) (v : Value) (i : Nat) (w : World) (hs : IsSchema w s v) (hf : ∀ x ∈ s, x.fits) (hl : s.length <= 1000000000000000) (h0 : schemaErr s = 0) (hi : i < s.length) :
  Calls Tryz.prog 65 #[v, .int .i64 (i : Nat)] w (GivesE (domV s[i]) w) := by
 obtain ⟨q1, q2, q3⟩ := schema_attrs h0
 obtain ⟨-, -, -, hk, -⟩ := attr_dom (q3 i hi).1
 obtain ⟨a, n, c, rfl, hn, hnc, hoa, hat⟩ := hs.parts
 obtain ⟨b, off, rfl, hA⟩ := hat i hi
 obtain ⟨aw, nw, cw, hstr, hfive⟩ := hA.five
 have HG := hI hfive
 have HR := hI (fun W (hW : Ext w W) => rSchema_calls s _ W (hs.ext hW) hf hl)
 rw [h0] at HR
 have t0 : decide ((i : Int) < 0) = false := decide_eq_false (by omega)
 have t1 : decide ((n : Int) <= (i : Int)) = false := decide_eq_false (by omega)
 have hin : i < n := by omega
 have hn2 : n <= 1000000000000000 := by omega
 have hnw : nw <= 1000000000000000 := by rw [hstr.1]; exact (hf _ (List.getElem_mem hi)).2.1
 have HNW := hI hstr.1
 clear hs hn hnc hoa hf h0 q1 q2 q3 hat hA hstr hfive
 obtain ⟨x, hx⟩ : ∃ x, x = s[i] := ⟨_, rfl⟩
 rw [<- hx] at hk HG HNW ⊢
 clear hx
 obtain ⟨wa, hwa⟩ : ∃ wa, wa = w.alloc (.cells #[.slice (some ⟨b, off, none⟩) n c] 24) := ⟨_, rfl⟩
 have hxa : Ext w wa := by rw [hwa]; exact (Ext.refl _).alloc _
 have hb0 : wa.heap[w.heap.size]? = some (.cells #[.slice (some ⟨b, off, none⟩) n c] 24 (0, 0)) := by rw [hwa]; exact alloc_new w _
 have HXA := hI hxa
 have HB0 := hI hb0
 clear hxa hb0
 have hways : ((x.kind == 1) = true /\ domV x = .tuple #[.int .i64 0, .int .i64 ((nw : Int) - 1)]) \/ ((x.kind == 1) = false /\ (x.kind == 2) = true /\ domV x = .tuple #[.int .i64 x.lo, .int .i64 x.hi]) \/ ((x.kind == 1) = false /\ (x.kind == 2) = false /\ domV x = .tuple #[.int .i64 0, .int .i64 1]) := by
  unfold domV domB
  rcases hk with hk | hk | hk
  ·exact Or.inl ⟨by simp [hk], by rw [if_pos hk, HNW.out]⟩
  ·exact Or.inr (Or.inl ⟨by simp [hk], by simp [hk], by rw [if_neg (by omega), if_pos hk]⟩)
  exact Or.inr (Or.inr ⟨by simp [hk], by simp [hk], by rw [if_neg (by omega), if_neg (by omega)]⟩)
 clear hk
 rcases hways with ⟨e1, hv⟩ | ⟨e1, e2, hv⟩ | ⟨e1, e2, hv⟩
 all_goals
  have HV := hI hv
  clear hv
  obtain ⟨a0, af⟩ := blk1 HB0.out
  go_enter Tryz.func65, Tryz.ntmps65
  go_upto_region 1 with fail
  rw [<- hwa]
  clear hwa
  go_wp2_with fail
  refine (HR.out wa HXA.out).mono ?_
  rintro r w3 ⟨rfl, hx3⟩
  have HX3 := hI (HXA.out.trans hx3)
  obtain ⟨d0, df⟩ := blk1 (hx3.blk HB0.out)
  obtain ⟨g0, g1, g2, g3, g4⟩ := HG.out w3 HX3.out
  clear hx3 a0 af HB0
  go_wp2_with fail
  try go_quiet (fail)
  try go_wp2_with fail
  go_ret2
  exact ⟨by rw [HV.out]; rfl, by first | exact (HX3.out.alloc _).drewN _ | exact HX3.out.alloc _⟩
def FctI (s : List Attr) (f : ZI) (n : Nat) (bs : Nat) (o : Obj) (w : World) (t : Value) (wr : World) : Prop := ∃ k : Nat, t = .int .i64 k /\ k <= n /\ (∀ i (hi : i < s.length) (hj : i < f.length), i < k -> (domB s[i]).1 <= f[i] /\ f[i] <= (domB s[i]).2) /\ wr.heap[bs]? = some o /\ Ext w wr
theorem rFacts_calls (s : List Attr) (v : Value) (f : ZI) (fa : OA) (fn fc : Nat) (w : World) (hs : IsSchema w s v) (hf : ∀ x ∈ s, x.fits) (hl : s.length <= 1000000000000000) (hi : IsIntF w f fa fn) :
  Calls Tryz.prog 61 #[v, .slice fa fn fc] w (GivesE (.bool (factsB s f)) w) := by
 obtain ⟨a, n, c, rfl, hn, hnc, hoa, hat⟩ := hs.parts
 have HR := hI (fun W (hW : Ext w W) => rSchema_calls s _ W (hs.ext hW) hf hl)
 have HD := hI (fun (h0 : schemaErr s = 0) (i : Nat) (hi : i < s.length) W (hW : Ext w W) => rDomain_calls s _ i W (hs.ext hW) hf hl h0 hi)
 have HN := hI hn
 have HI := hI hi
 have HFN := hI hi.1
 obtain ⟨B, hB⟩ : ∃ B, B = factsB s f := ⟨_, rfl⟩
 rw [<- hB]
 have HB := hI (show B = (decide (schemaErr s = 0) && factsAll s f) from hB)
 clear hs hn hnc hoa hat hf hi hB
 obtain ⟨wa, hwa⟩ : ∃ wa, wa = w.alloc (.cells #[.slice a n c] 24) := ⟨_, rfl⟩
 have hxa : Ext w wa := by rw [hwa]; exact (Ext.refl _).alloc _
 have hb0 : wa.heap[w.heap.size]? = some (.cells #[.slice a n c] 24 (0, 0)) := by rw [hwa]; exact alloc_new w _
 have HXA := hI hxa
 have HB0 := hI hb0
 clear hxa hb0
 obtain ⟨E, hE⟩ : ∃ E, E = schemaErr s := ⟨_, rfl⟩
 rw [<- hE] at HR HB
 have HEE := hI hE
 clear hE
 obtain ⟨a0, af⟩ := blk1 HB0.out
 by_cases hz : E = 0
 case neg =>
  have tz : (E != 0) = true := by simp [hz]
  have HQ := hI (show B = false by rw [HB.out]; simp [hz])
  clear hz
  go_enter Tryz.func61, Tryz.ntmps61
  go_upto_region 1 with fail
  rw [<- hwa]
  clear hwa
  go_wp2_with fail
  refine (HR.out wa HXA.out).mono ?_
  rintro r w3 ⟨rfl, hx3⟩
  have HX3 := hI (HXA.out.trans hx3)
  clear hx3 a0 af HB0
  go_wp2_with fail
  go_ret
  exact givesE_bool (by rw [HQ.out]) HX3.out
 have tz : (E != 0) = false := by simp [hz]
 have HB2 := hI (show B = factsAll s f by rw [HB.out]; simp [hz])
 have HDD := hI (HD.out (by rw [<- HEE.out]; exact hz))
 have hs6 : n <= 6 := by have := (schema_attrs (s := s) (by rw [<- HEE.out]; exact hz)).2.1; rw [HN.out]; exact this
 clear hz HD HB HEE
 by_cases hlen : fn = n
 case neg =>
  have tl : ((fn : Int) != (n : Int)) = true := by simp; omega
  have HQ := hI (show B = false by rw [HB2.out]; exact factsAll_short (by rw [<- HN.out, <- HFN.out]; exact hlen))
  clear hlen
  go_enter Tryz.func61, Tryz.ntmps61
  go_upto_region 1 with fail
  rw [<- hwa]
  clear hwa
  go_wp2_with fail
  refine (HR.out wa HXA.out).mono ?_
  rintro r w3 ⟨rfl, hx3⟩
  have HX3 := hI (HXA.out.trans hx3)
  obtain ⟨d0, df⟩ := blk1 (hx3.blk HB0.out)
  clear hx3 a0 af HB0
  go_wp2_with fail
  go_ret
  exact givesE_bool (by rw [HQ.out]) HX3.out
 subst hlen
 have tl : ((fn : Int) != (fn : Int)) = false := by simp
 have HLN := hI (show f.length = s.length by rw [<- HN.out, <- HFN.out])
 go_enter Tryz.func61, Tryz.ntmps61
 go_upto_region 1 with fail
 rw [<- hwa]
 clear hwa
 go_wp2_with fail
 refine (HR.out wa HXA.out).mono ?_
 rintro r w3 ⟨rfl, hx3⟩
 have HX3 := hI (HXA.out.trans hx3)
 have HB3 := hI (hx3.blk HB0.out)
 obtain ⟨d0, df⟩ := blk1 (hx3.blk HB0.out)
 clear hx3 a0 af HB0
 go_wp2_with fail
 clear d0 df
 go_loopw [5] (FctI s f fn w.heap.size (.cells #[.slice a fn c] 24 (0, 0)) w) (fun t _ => fn - (intOf t).toNat)
 case atStart => exact ⟨0, rfl, by omega, fun i _ _ h => by omega, HB3.out, HX3.out⟩
 case round =>
  obtain ⟨k, rfl, hk, hno, hbx, hx⟩ := hrel
  have HNO := hI hno
  have HBX := hI hbx
  have HX := hI hx
  obtain ⟨d0, df⟩ := blk1 hbx
  clear hno hbx hx
  by_cases hkn : k < fn
  ·have t1 : decide ((k : Int) < (fn : Int)) = true := decide_eq_true (by omega)
   have hks : k < s.length := by rw [<- HN.out]; exact hkn
   have hkf : k < f.length := by rw [<- HFN.out]; exact hkn
   have HDK := hI (HDD.out k hks wr HX.out)
   unfold domV at HDK
   obtain ⟨fb, fo, rfl, hcell⟩ := HI.out.2 k hkf
   have HCF := hI hcell
   obtain ⟨z, hz⟩ : ∃ z, z = f[k] := ⟨_, rfl⟩
   obtain ⟨lo, hlo⟩ : ∃ lo, lo = (domB s[k]).1 := ⟨_, rfl⟩
   obtain ⟨hi, hhi⟩ : ∃ hi, hi = (domB s[k]).2 := ⟨_, rfl⟩
   rw [<- hz] at HCF
   rw [<- hlo, <- hhi] at HDK
   have HZ := hI hz
   have HLO := hI hlo
   have HHI := hI hhi
   clear hcell hz hlo hhi
   go_wp2_with fail
   refine HDK.out.mono ?_
   rintro r w5 ⟨rfl, hx5⟩
   have HX5 := hI (HX.out.trans hx5)
   have HB5 := hI (hx5.blk HBX.out)
   have g0 := HX5.out.cell HCF.out
   clear hx5 d0 df HDK
   by_cases h1 : z < lo \/ hi < z
   ·have HQ := hI (show B = false by rw [HB2.out]; exact factsAll_miss hks hkf (by rw [<- HZ.out, <- HLO.out, <- HHI.out]; exact h1))
    by_cases h2 : z < lo
    ·have t2 : decide (z < lo) = true := decide_eq_true h2
     clear h1 h2
     go_wp2_with fail
     go_ret
     exact givesE_bool (by rw [HQ.out]) HX5.out
    have t2 : decide (z < lo) = false := decide_eq_false h2
    have t3 : decide (hi < z) = true := decide_eq_true (by omega)
    clear h1 h2
    go_wp2_with fail
    go_ret
    exact givesE_bool (by rw [HQ.out]) HX5.out
   have t2 : decide (z < lo) = false := decide_eq_false (by omega)
   have t3 : decide (hi < z) = false := decide_eq_false (by omega)
   have HOK := hI (show (domB s[k]).1 <= f[k] /\ f[k] <= (domB s[k]).2 by rw [<- HZ.out, <- HLO.out, <- HHI.out]; omega)
   clear h1
   go_wp2_with fail
   go_roundw
   case rel =>
    refine ⟨k + 1, by go_num, by omega, fun i hi hj hik => ?_, HB5.out, HX5.out⟩
    by_cases e : i = k
    ·subst e; exact HOK.out
    exact HNO.out i hi hj (by omega)
   case measure => simp [intOf]; omega
  have t1 : decide ((k : Int) < (fn : Int)) = false := decide_eq_false (by omega)
  have HQ := hI (show B = true by rw [HB2.out]; exact factsAll_of HLN.out fun i hi hj => HNO.out i hi hj (by have := HFN.out; omega))
  go_wp2_with fail
  go_ret
  exact givesE_bool (by rw [HQ.out]) HX.out
theorem sdomain_calls (x : Attr) (aw : OA) (nw cw : Nat) (w : World) (hn : nw = x.words.length) (hnw : nw <= 1000000000000000) (hk : x.kind = 1 \/ x.kind = 2 \/ x.kind = 3) :
  Calls Tryz.prog 84 #[.agg #[.string x.name, .int .i64 x.kind, .slice aw nw cw, .int .i64 x.lo, .int .i64 x.hi]] w (GivesE (domV x) w) := by
 have hways : ((x.kind == 1) = true /\ domV x = .tuple #[.int .i64 0, .int .i64 ((nw : Int) - 1)]) \/ ((x.kind == 1) = false /\ (x.kind == 2) = true /\ domV x = .tuple #[.int .i64 x.lo, .int .i64 x.hi]) \/ ((x.kind == 1) = false /\ (x.kind == 2) = false /\ domV x = .tuple #[.int .i64 0, .int .i64 1]) := by
  unfold domV domB
  rcases hk with hk | hk | hk
  ·exact Or.inl ⟨by simp [hk], by rw [if_pos hk, hn]⟩
  ·exact Or.inr (Or.inl ⟨by simp [hk], by simp [hk], by rw [if_neg (by omega), if_pos hk]⟩)
  exact Or.inr (Or.inr ⟨by simp [hk], by simp [hk], by rw [if_neg (by omega), if_neg (by omega)]⟩)
 clear hk hn
 rcases hways with ⟨e1, hv⟩ | ⟨e1, e2, hv⟩ | ⟨e1, e2, hv⟩
 all_goals
  have HV := hI hv
  clear hv
  go_enter Tryz.func84, Tryz.ntmps84
  go_wp2_with fail
  try go_quiet (fail)
  try go_wp2_with fail
  go_ret2
  exact ⟨by rw [HV.out]; rfl, by first | exact ((Ext.refl w).alloc _).drewN _ | exact (Ext.refl w).alloc _⟩
theorem sValid_calls (s : List Attr) (v : Value) (f : ZI) (fa : OA) (fn fc : Nat) (w : World) (hs : IsSchema w s v) (hf : ∀ x ∈ s, x.fits) (hl : s.length <= 1000000000000000) (hi : IsIntF w f fa fn) (hfn : fn <= 1000000000000000) :
  Calls Tryz.prog 57 #[v, .slice fa fn fc] w (GivesE (.bool (factsB s f)) w) := by
 obtain ⟨a, n, c, rfl, hn, hnc, hoa, hat⟩ := hs.parts
 have HR := hI (fun W (hW : Ext w W) => sValidate_calls s _ W (hs.ext hW) hf hl)
 have HAT := hI hat
 have HN := hI hn
 have HF := hI hf
 have HI := hI hi
 have HFN := hI hi.1
 obtain ⟨B, hB⟩ : ∃ B, B = factsB s f := ⟨_, rfl⟩
 rw [<- hB]
 have HB := hI (show B = (decide (schemaErr s = 0) && factsAll s f) from hB)
 have hn2 : n <= 1000000000000000 := by omega
 clear hs hn hnc hoa hat hf hi hB
 obtain ⟨wa, hwa⟩ : ∃ wa, wa = w.alloc (.cells #[.slice a n c] 24) := ⟨_, rfl⟩
 have hxa : Ext w wa := by rw [hwa]; exact (Ext.refl _).alloc _
 have hb0 : wa.heap[w.heap.size]? = some (.cells #[.slice a n c] 24 (0, 0)) := by rw [hwa]; exact alloc_new w _
 have HXA := hI hxa
 have HB0 := hI hb0
 clear hxa hb0
 obtain ⟨E, hE⟩ : ∃ E, E = schemaErr s := ⟨_, rfl⟩
 rw [<- hE] at HR HB
 have HEE := hI hE
 clear hE
 obtain ⟨a0, af⟩ := blk1 HB0.out
 by_cases hz : E = 0
 case neg =>
  have tz : (E != 0) = true := by simp [hz]
  have HQ := hI (show B = false by rw [HB.out]; simp [hz])
  clear hz
  go_enter Tryz.func57, Tryz.ntmps57
  go_upto_region 1 with fail
  rw [<- hwa]
  clear hwa
  go_wp2_with fail
  refine (HR.out wa HXA.out).mono ?_
  rintro r w3 ⟨rfl, hx3⟩
  have HX3 := hI (HXA.out.trans hx3)
  clear hx3 a0 af HB0
  go_wp2_with fail
  go_ret
  exact givesE_bool (by rw [HQ.out]) HX3.out
 have tz : (E != 0) = false := by simp [hz]
 have HB2 := hI (show B = factsAll s f by rw [HB.out]; simp [hz])
 have HSA := hI (schema_attrs (s := s) (by rw [<- HEE.out]; exact hz))
 clear hz HB HEE
 by_cases hlen : fn = n
 case neg =>
  have tl : ((fn : Int) != (n : Int)) = true := by simp; omega
  have HQ := hI (show B = false by rw [HB2.out]; exact factsAll_short (by rw [<- HN.out, <- HFN.out]; exact hlen))
  clear hlen
  go_enter Tryz.func57, Tryz.ntmps57
  go_upto_region 1 with fail
  rw [<- hwa]
  clear hwa
  go_wp2_with fail
  refine (HR.out wa HXA.out).mono ?_
  rintro r w3 ⟨rfl, hx3⟩
  have HX3 := hI (HXA.out.trans hx3)
  obtain ⟨d0, df⟩ := blk1 (hx3.blk HB0.out)
  clear hx3 a0 af HB0
  go_wp2_with fail
  go_ret
  exact givesE_bool (by rw [HQ.out]) HX3.out
 subst hlen
 have tl : ((fn : Int) != (fn : Int)) = false := by simp
 have HLN := hI (show f.length = s.length by rw [<- HN.out, <- HFN.out])
 go_enter Tryz.func57, Tryz.ntmps57
 go_upto_region 1 with fail
 rw [<- hwa]
 clear hwa
 go_wp2_with fail
 refine (HR.out wa HXA.out).mono ?_
 rintro r w3 ⟨rfl, hx3⟩
 have HX3 := hI (HXA.out.trans hx3)
 have HB3 := hI (hx3.blk HB0.out)
 obtain ⟨d0, df⟩ := blk1 (hx3.blk HB0.out)
 clear hx3 a0 af HB0
 go_wp2_with fail
 clear d0 df
 go_loopw [22] (FctI s f fn w.heap.size (.cells #[.slice a fn c] 24 (0, 0)) w) (fun t _ => fn - (intOf t).toNat)
 case atStart => exact ⟨0, rfl, by omega, fun i _ _ h => by omega, HB3.out, HX3.out⟩
 case round =>
  obtain ⟨k, rfl, hk, hno, hbx, hx⟩ := hrel
  have HNO := hI hno
  have HBX := hI hbx
  have HX := hI hx
  obtain ⟨d0, df⟩ := blk1 hbx
  clear hno hbx hx
  by_cases hkn : k < fn
  ·have t1 : decide ((k : Int) < (fn : Int)) = true := decide_eq_true (by omega)
   have hks : k < s.length := by rw [<- HN.out]; exact hkn
   have hkf : k < f.length := by rw [<- HFN.out]; exact hkn
   obtain ⟨b, off, rfl, hA⟩ := HAT.out k hks
   obtain ⟨aw, nw, cw, hstr, hfive⟩ := hA.five
   obtain ⟨g0, g1, g2, g3, g4⟩ := hfive wr HX.out
   have HDK := hI (fun W => sdomain_calls s[k] aw nw cw W hstr.1 (by rw [hstr.1]; exact (HF.out _ (List.getElem_mem hks)).2.1) (attr_dom (HSA.out.2.2 k hks).1).2.2.2.1)
   unfold domV at HDK
   obtain ⟨fb, fo, rfl, hcell⟩ := HI.out.2 k hkf
   have hcf := HX.out.cell hcell
   obtain ⟨z, hz⟩ : ∃ z, z = f[k] := ⟨_, rfl⟩
   obtain ⟨lo, hlo⟩ : ∃ lo, lo = (domB s[k]).1 := ⟨_, rfl⟩
   obtain ⟨hi, hhi⟩ : ∃ hi, hi = (domB s[k]).2 := ⟨_, rfl⟩
   rw [<- hz] at hcf
   rw [<- hlo, <- hhi] at HDK
   have HZ := hI hz
   have HLO := hI hlo
   have HHI := hI hhi
   clear hcell hz hlo hhi hA hstr hfive
   go_wp2_with fail
   refine (HDK.out _).mono ?_
   rintro r w5 ⟨rfl, hx5⟩
   have HX5 := hI (HX.out.trans hx5)
   have HB5 := hI (hx5.blk HBX.out)
   clear hx5 d0 df HDK
   by_cases h1 : z < lo \/ hi < z
   ·have HQ := hI (show B = false by rw [HB2.out]; exact factsAll_miss hks hkf (by rw [<- HZ.out, <- HLO.out, <- HHI.out]; exact h1))
    by_cases h2 : z < lo
    ·have t2 : decide (z < lo) = true := decide_eq_true h2
     clear h1 h2
     go_wp2_with fail
     go_ret
     exact givesE_bool (by rw [HQ.out]) HX5.out
    have t2 : decide (z < lo) = false := decide_eq_false h2
    have t3 : decide (hi < z) = true := decide_eq_true (by omega)
    clear h1 h2
    go_wp2_with fail
    go_ret
    exact givesE_bool (by rw [HQ.out]) HX5.out
   have t2 : decide (z < lo) = false := decide_eq_false (by omega)
   have t3 : decide (hi < z) = false := decide_eq_false (by omega)
   have HOK := hI (show (domB s[k]).1 <= f[k] /\ f[k] <= (domB s[k]).2 by rw [<- HZ.out, <- HLO.out, <- HHI.out]; omega)
   clear h1
   go_wp2_with fail
   go_roundw
   case rel =>
    refine ⟨k + 1, by go_num, by omega, fun i hi hj hik => ?_, HB5.out, HX5.out⟩
    by_cases e : i = k
    ·subst e; exact HOK.out
    exact HNO.out i hi hj (by omega)
   case measure => simp [intOf]; omega
  have t1 : decide ((k : Int) < (fn : Int)) = false := decide_eq_false (by omega)
  have HQ := hI (show B = true by rw [HB2.out]; exact factsAll_of HLN.out fun i hi hj => HNO.out i hi hj (by have := HFN.out; omega))
  go_wp2_with fail
  go_ret
  exact givesE_bool (by rw [HQ.out]) HX.out
theorem valHd_at {s : List Attr} {f : ZI} {D : BA -> Option Bool} (l : List Ex) : valHd s f D l = (l[0]?.map (valE s f D)).getD false := by
 cases l <;> simp [valHd]
def valsOf (s : List Attr) (l : List Cla) (f : ZI) (g : Nat) : BA -> Option Bool := fun x => (defAt l x).map fun d => valF s l f g (l.getD d cla0).cond
theorem valF_eq (s : List Attr) (l : List Cla) (f : ZI) (g : Nat) (e : Ex) : valF s l f (g + 1) e = valE s f (valsOf s l f g) e := rfl
def TruthN (s : List Attr) (f : ZI) (V : BA -> Option Bool) (args : List Ex) (na : Nat) (bs : Nat) (o0 o1 : Obj) (w : World) (t i : Value) (wr : World) : Prop := ∃ k q : Nat, i = .int .i64 k /\ t = .int .i64 q /\ k <= na /\ q <= k /\ (q = k ↔ ∀ j (h : j < args.length), j < k -> valE s f V args[j] = true) /\ wr.heap[bs]? = some o0 /\ wr.heap[bs + 1]? = some o1 /\ Ext w wr
def TruthA (s : List Attr) (f : ZI) (V : BA -> Option Bool) (args : List Ex) (na : Nat) (bs : Nat) (o0 o1 : Obj) (w : World) (i : Value) (wr : World) : Prop := ∃ k : Nat, i = .int .i64 k /\ k <= na /\ (∀ j (h : j < args.length), j < k -> valE s f V args[j] = false) /\ wr.heap[bs]? = some o0 /\ wr.heap[bs + 1]? = some o1 /\ Ext w wr
theorem rTruth_calls (s : List Attr) (l : List Cla) (f : ZI) (hc : Chk s l) (hfa : factsAll s f = true) (hsf : ∀ x ∈ s, x.fits) (a : OA) (n c : Nat) (fa : OA) (fn fc : Nat) : ∀ (g m : Nat) (e : Ex) (ev sv : Value) (w : World), e.size <= m -> m <= 1000000 -> okTree e -> nodesErr s l e = 0 -> expF l g e <= 2000 -> IsSchema w s sv -> IsClas w l a n c -> IsEx w e ev -> IsIntF w f fa fn ->
  Calls Tryz.prog 127 #[sv, .slice a n c, ev, .slice fa fn fc] w (GivesE (.bool (valF s l f g e)) w) := by
 intro g
 induction g with
 | zero => intro m e ev sv w _ _ _ _ h; simp [expF] at h
 | succ g ihg =>
  intro m
  induction m with
  | zero => intro e ev sv w h; have := size_pos e; omega
  | succ m ihm =>
   intro e ev sv w hm hMM hok hnd hex hs hl he hi
   have hways := node_ways hok hnd
   obtain ⟨-, hnda⟩ := nodes_parts hnd
   obtain ⟨hokn, hoka⟩ := okTree_parts hok
   have hexa := expE_arg (D := dOf l g) (e := e) (by rw [<- expF_succ]; exact hex)
   have hexh := expE_hd (D := dOf l g) (e := e) (by rw [<- expF_succ]; exact hex)
   obtain ⟨sa, sn, sc, rfl, hsn⟩ := hs.slice
   obtain ⟨aw, nw, cw, aa, na, ca, rfl, hw, hna, hca, ha, hx⟩ := he.parts
   have hS : e.size = 1 + sizes e.args := e.size_eq
   have hla := length_le_sizes e.args
   obtain ⟨op, name, words, lo, hi', args⟩ := e
   simp only [Ex.op, Ex.name, Ex.words, Ex.lo, Ex.hi, Ex.args] at *
   have hna2 : na <= 1000000 := by omega
   have hszm : sizes args <= m := by omega
   obtain ⟨R, hR⟩ : ∃ R, R = valF s l f (g + 1) (.mk op name words lo hi' args) := ⟨_, rfl⟩
   rw [<- hR]
   rw [valF_eq, valE] at hR
   have HR := hI hR
   have hsl6 := (schema_attrs hc.sch).2.1
   have hsn2 : sn <= 6 := by omega
   have hln := hl.len
   have hn100 : n <= 100 := by rw [hln]; exact hc.len
   have HSN := hI hsn
   have HLN := hI hln
   have HC := hI hc
   have HFA := hI hfa
   have HSF := hI hsf
   have HS := hI hs
   have HL := hI hl
   have HX := hI hx
   have HW := hI hw
   have HI := hI hi
   have HNA := hI hna
   have HARG := hI (fun (j : Nat) (hj : j < args.length) (xv : Value) (W : World) (hW : Ext w W) (hxv : IsEx W args[j] xv) => ihm args[j] xv (.agg #[.slice sa sn sc]) W (by have h1 := sizes_take_succ args j hj; have h2 := sizes_take_le args (j + 1); omega) (by omega) (hoka _ (List.getElem_mem hj)) (hnda j hj) (by rw [expF_succ]; exact hexa j hj) (hs.ext hW) (hl.ext hW) hxv (hi.ext hW))
   have HDEF := hI (fun (h3 : op = 3) (d : Nat) (hd : defAt l name = some d) (xv : Value) (W : World) (hW : Ext w W) (hxv : IsEx W (l.getD d cla0).cond xv) => ihg 300 (l.getD d cla0).cond xv (.agg #[.slice sa sn sc]) W (hc.cond (defAt_atK hd).1).2.2 (by omega) (hc.cond (defAt_atK hd).1).1 (hc.cond (defAt_atK hd).1).2.1 (hexh h3 (by unfold dOf; rw [hd]; rfl)) (hs.ext hW) (hl.ext hW) hxv (hi.ext hW))
   have HWD := hI (show op = 4 -> words.length <= 12 from fun h4 => by
    rcases hokn with ⟨h1, -⟩ | ⟨h1, -⟩ | ⟨h1, -⟩ | ⟨h1, -, h2, -⟩ | ⟨h1, -⟩ | ⟨h1, -⟩ | ⟨h1, -⟩ <;> simp only [Ex.op] at h1
    all_goals first | omega | skip
    simp only [Ex.words, wordsB, Bool.and_eq_true] at h2
    exact of_decide_eq_true h2.1.1.2)
   clear hc hfa hsf hs hl hx hw hi hna hca ha hS hla ihg ihm hm hnda hoka hexa hexh hokn hok hnd hex he hsn hln hsl6 hR
   unfold exV
   obtain ⟨wa, hwa⟩ : ∃ wa, wa = (w.alloc (.cells #[.slice sa sn sc] 24)).alloc (.cells #[.int .i64 op, .string name, .slice aw nw cw, .int .i64 lo, .int .i64 hi', .slice aa na ca] 45) := ⟨_, rfl⟩
   have hxa : Ext w wa := by rw [hwa]; exact ((Ext.refl _).alloc _).alloc _
   have hb0 : wa.heap[w.heap.size]? = some (.cells #[.slice sa sn sc] 24 (0, 0)) := by rw [hwa]; exact blk_alloc (alloc_new w _)
   have hb1 : wa.heap[w.heap.size + 1]? = some (.cells #[.int .i64 op, .string name, .slice aw nw cw, .int .i64 lo, .int .i64 hi', .slice aa na ca] 45 (0, 0)) := by rw [hwa]; exact alloc_atR (by simp)
   have HXA := hI hxa
   have HB0 := hI hb0
   have HB1 := hI hb1
   obtain ⟨f0, f1, f2, f3, f4, f5, ff⟩ := blk6 hb1
   obtain ⟨e0, ef⟩ := blk1 hb0
   have hltw := blk_lt hb1
   have HIX := hI (rIndex_calls s _ name wa (HS.out.ext hxa) (by have := HSN.out; omega))
   clear hxa hb0 hb1
   rcases hways with rfl | rfl | ⟨rfl, i, hat, hkd⟩ | ⟨rfl, hat, d, hdf⟩ | ⟨rfl, i, hat, hkd⟩ | ⟨rfl, i, hat, hkd⟩ | ⟨rfl, hl1⟩ | rfl | rfl
   -- true
   ·have HQ := hI (show R = true by rw [HR.out]; simp [factV])
    go_enter Tryz.func127, Tryz.ntmps127
    go_upto_region 1 with fail
    rw [<- hwa]
    clear hwa
    go_wp2_with fail
    refine HIX.out.mono ?_
    rintro r w1 ⟨rfl, hx1⟩
    have HX1 := hI (HXA.out.trans hx1)
    unfold optV
    clear f0 f1 f2 f3 f4 f5 ff e0 ef hltw
    obtain ⟨f0, f1, f2, f3, f4, f5, ff⟩ := blk6 (hx1.blk HB1.out)
    clear hx1
    go_wp2_with fail
    go_ret
    exact givesE_bool (by rw [HQ.out]) HX1.out
   -- false
   ·have HQ := hI (show R = false by rw [HR.out]; simp [factV])
    go_enter Tryz.func127, Tryz.ntmps127
    go_upto_region 1 with fail
    rw [<- hwa]
    clear hwa
    go_wp2_with fail
    refine HIX.out.mono ?_
    rintro r w1 ⟨rfl, hx1⟩
    have HX1 := hI (HXA.out.trans hx1)
    unfold optV
    clear f0 f1 f2 f3 f4 f5 ff e0 ef hltw
    obtain ⟨f0, f1, f2, f3, f4, f5, ff⟩ := blk6 (hx1.blk HB1.out)
    clear hx1
    go_wp2_with fail
    go_ret
    exact givesE_bool (by rw [HQ.out]) HX1.out
   -- an attribute
   ·obtain ⟨his, -⟩ := attrAt_at hat
    obtain ⟨hif, hlo2, hhi2⟩ := fact_at HFA.out his
    obtain ⟨fb, fo, rfl, hcell⟩ := HI.out.2 i hif
    obtain ⟨z, hz⟩ : ∃ z, z = f[i] := ⟨_, rfl⟩
    rw [<- hz] at hcell
    have hdn : defAt l name = none := by
     cases hd : defAt l name with
     | none => rfl
     | some d => rw [HC.out.apart hd] at hat; cases hat
    have HQ := hI (show R = (z == 1) by
     rw [HR.out]
     simp only [factV, valsOf, hdn, hat]
     rw [Bool.eq_iff_iff]; simp [hif, <- hz])
    have hin : i < fn := by rw [HI.out.1]; exact hif
    have HCF := hI hcell
    rw [hat, optV_some] at HIX
    clear hat hkd his hif hlo2 hhi2 hcell hz hdn
    go_enter Tryz.func127, Tryz.ntmps127
    go_upto_region 1 with fail
    rw [<- hwa]
    clear hwa
    go_wp2_with fail
    refine HIX.out.mono ?_
    rintro r w1 ⟨rfl, hx1⟩
    have HX1 := hI (HXA.out.trans hx1)
    clear f0 f1 f2 f3 f4 f5 ff e0 ef hltw
    obtain ⟨f0, f1, f2, f3, f4, f5, ff⟩ := blk6 (hx1.blk HB1.out)
    have hcf := HX1.out.cell HCF.out
    clear hx1
    go_wp2_with fail
    go_ret
    exact givesE_bool (by rw [HQ.out]) HX1.out
   -- a definition
   ·have hdl := (defAt_atK hdf).1
    have HQ := hI (show R = valF s l f g (l.getD d cla0).cond by
     rw [HR.out]
     rw [if_neg (by decide), if_neg (by decide), if_neg (by decide), if_pos rfl, valsOf, hdf]; rfl)
    have hdn : d < n := by rw [HLN.out]; exact hdl
    have HDC := hI (fun W (hW : Ext w W) => rDef_calls l a n c name W (HL.out.ext hW) (by omega))
    rw [hdf] at HDC
    obtain ⟨cb, coff, v, rfl, hcla, hrow⟩ := HL.out.at hdl
    have HRW := hI hrow
    have HCX := hI (show IsEx w (l.getD d cla0).cond v.x.val by rw [getD_clK hdl]; exact hcla.2.2.1)
    have HDF := hI (HDEF.out rfl d hdf)
    obtain ⟨V, hV⟩ : ∃ V, V = valF s l f g (l.getD d cla0).cond := ⟨_, rfl⟩
    rw [<- hV] at HQ HDF
    rw [hat, optV_none] at HIX
    clear hV hat hdf hdl hcla hrow HDEF HARG
    go_enter Tryz.func127, Tryz.ntmps127
    go_upto_region 1 with fail
    rw [<- hwa]
    clear hwa
    go_wp2_with fail
    refine HIX.out.mono ?_
    rintro r w1 ⟨rfl, hx1⟩
    have HX1 := hI (HXA.out.trans hx1)
    have HB11 := hI (hx1.blk HB1.out)
    have HB01 := hI (hx1.blk HB0.out)
    clear f0 f1 f2 f3 f4 f5 ff e0 ef hltw
    obtain ⟨f0, f1, f2, f3, f4, f5, ff⟩ := blk6 HB11.out
    clear hx1
    go_wp2_with fail
    refine (HDC.out w1 HX1.out).mono ?_
    rintro r w2 ⟨rfl, rfl⟩
    rw [optV_some]
    obtain ⟨e0, ef⟩ := blk1 HB01.out
    obtain ⟨c0, c1, c2, c3, c4, c5, c6, c7, c8, c9⟩ := (HRW.out.mono HX1.out.sub).ten
    go_wp2_with fail
    go_still_tail 8, (by kernel_rfl)
    change wpList _ _ _ _ _ w1.drew
    have hx2 : Ext w1 w1.drew := (Ext.refl w1).drew
    generalize w1.drew = w2 at hx2 ⊢
    have HX2 := hI (HX1.out.trans hx2)
    clear hx2 c0 c1 c2 c3 c4 c5 c6 c7 c8 c9 f0 f1 f2 f3 f4 f5 ff e0 ef
    have HDG := hI (HDF.out v.x.val w2 HX2.out (HCX.out.ext HX2.out))
    unfold ExV.val exV at HDG
    go_wp2_with fail
    refine HDG.out.mono ?_
    rintro r w3 ⟨rfl, hx3⟩
    have HX3 := hI (HX2.out.trans hx3)
    clear hx3
    go_wp2_with fail
    go_ret
    exact givesE_bool (by rw [HQ.out]) HX3.out
   -- a word
   ·obtain ⟨his, -⟩ := attrAt_at hat
    obtain ⟨hif, hlo2, hhi2⟩ := fact_at HFA.out his
    have hkd' : s[i].kind = 1 := by rw [<- hkd]; simp [his]
    have hdm : domB s[i] = (0, (s[i].words.length : Int) - 1) := by unfold domB; rw [if_pos hkd']
    rw [hdm] at hlo2 hhi2
    simp only at hlo2 hhi2
    obtain ⟨ab, ao, rfl, hA⟩ : ∃ ab ao, sa = some ⟨ab, ao, none⟩ /\ AttrAt w s[i] ab (ao + i * 5) := by
     obtain ⟨xa, xn, xc, e', -, -, -, hq⟩ := HS.out.parts
     simp only [Value.agg.injEq, Array.mk.injEq, List.cons.injEq, Value.slice.injEq, and_true] at e'
     obtain ⟨rfl, rfl, rfl⟩ := e'
     exact hq i his
    obtain ⟨x1, hx1⟩ : ∃ x1, x1 = s[i] := ⟨_, rfl⟩
    rw [<- hx1] at hA hkd' hhi2
    obtain ⟨bw, nwa, cwa, hstr, hfive⟩ := hA.five
    have H5 := hI hfive
    obtain ⟨fb, fo, rfl, hcell⟩ := HI.out.2 i hif
    obtain ⟨z, hz⟩ : ∃ z : Nat, f[i] = (z : Int) := ⟨f[i].toNat, by omega⟩
    rw [hz] at hcell hlo2 hhi2
    have hzw : z < x1.words.length := by omega
    obtain ⟨wb, wo, rfl, hwc⟩ := hstr.2.2.2 z hzw
    have HWC := hI hwc
    have hzn : z < nwa := by rw [hstr.1]; exact hzw
    have HQ := hI (show R = words.any (fun y => decide (y = x1.words[z])) by
     rw [HR.out]
     simp only [factV, hat]
     rw [if_neg (by decide), if_neg (by decide), if_neg (by decide), if_neg (by decide), if_neg (by decide), if_neg (by decide), if_pos (by decide)]
     simp [his, hif, hz, <- hx1, hzw])
    have hin : i < fn := by rw [HI.out.1]; exact hif
    have hisn : i < sn := by rw [HSN.out]; exact his
    have HCF := hI hcell
    have HWI := hI (fun W (hW : Ext w W) => rWithin_calls words aw nw cw x1.words[z] W (HW.out.ext hW) (by have := HWD.out rfl; rw [HW.out.1]; omega))
    rw [hat, optV_some] at HIX
    obtain ⟨x, hxx⟩ : ∃ x, x = x1.words[z] := ⟨_, rfl⟩
    rw [<- hxx] at HWC HQ HWI
    clear hx1 hat hkd his hif hlo2 hhi2 hcell hz hkd' hdm hA hstr hfive hwc hzw hxx HARG HDEF
    go_enter Tryz.func127, Tryz.ntmps127
    go_upto_region 1 with fail
    rw [<- hwa]
    clear hwa
    go_wp2_with fail
    refine HIX.out.mono ?_
    rintro r w1 ⟨rfl, hx1⟩
    have HX1 := hI (HXA.out.trans hx1)
    clear f0 f1 f2 f3 f4 f5 ff e0 ef hltw
    obtain ⟨f0, f1, f2, f3, f4, f5, ff⟩ := blk6 (hx1.blk HB1.out)
    obtain ⟨e0, ef⟩ := blk1 (hx1.blk HB0.out)
    have hcf := HX1.out.cell HCF.out
    have hwf := HX1.out.cell HWC.out
    obtain ⟨g0, g1, g2, g3, g4⟩ := H5.out w1 HX1.out
    clear hx1
    go_wp2_with fail
    go_still_tail 14, (by kernel_rfl)
    change wpList _ _ _ _ _ w1.drew
    have hx2 : Ext w1 w1.drew := (Ext.refl w1).drew
    generalize w1.drew = w2 at hx2 ⊢
    have HX2 := hI (HX1.out.trans hx2)
    clear hx2 f0 f1 f2 f3 f4 f5 ff e0 ef hcf hwf g0 g1 g2 g3 g4
    go_wp2_with fail
    refine (HWI.out w2 HX2.out).mono ?_
    rintro r w3 ⟨rfl, rfl⟩
    go_wp2_with fail
    go_ret
    exact givesE_bool (by rw [HQ.out]) HX2.out
   -- a number
   ·obtain ⟨his, -⟩ := attrAt_at hat
    obtain ⟨hif, -, -⟩ := fact_at HFA.out his
    obtain ⟨fb, fo, rfl, hcell⟩ := HI.out.2 i hif
    obtain ⟨z, hz⟩ : ∃ z, z = f[i] := ⟨_, rfl⟩
    rw [<- hz] at hcell
    have HQ := hI (show R = (decide (lo <= z) && decide (z <= hi')) by
     rw [HR.out]
     simp only [factV, hat]
     rw [if_neg (by decide), if_neg (by decide), if_neg (by decide), if_neg (by decide), if_neg (by decide), if_neg (by decide), if_neg (by decide), if_pos (by decide)]
     simp [hif, <- hz])
    have hin : i < fn := by rw [HI.out.1]; exact hif
    have HCF := hI hcell
    rw [hat, optV_some] at HIX
    clear hat hkd his hif hcell hz HARG HDEF
    have hw4 : (decide (lo <= z) = true /\ decide (z <= hi') = true /\ R = true) \/ (decide (lo <= z) = true /\ decide (z <= hi') = false /\ R = false) \/ (decide (lo <= z) = false /\ R = false) := by
     rw [HQ.out]
     cases decide (lo <= z) <;> cases decide (z <= hi') <;> simp
    rcases hw4 with ⟨t1, t2, hf⟩ | ⟨t1, t2, hf⟩ | ⟨t1, hf⟩
    all_goals
     have HF := hI hf
     clear hf
     go_enter Tryz.func127, Tryz.ntmps127
     go_upto_region 1 with fail
     rw [<- hwa]
     clear hwa
     go_wp2_with fail
     refine HIX.out.mono ?_
     rintro r w1 ⟨rfl, hx1⟩
     have HX1 := hI (HXA.out.trans hx1)
     clear f0 f1 f2 f3 f4 f5 ff e0 ef hltw
     obtain ⟨f0, f1, f2, f3, f4, f5, ff⟩ := blk6 (hx1.blk HB1.out)
     have hcf := HX1.out.cell HCF.out
     clear hx1
     go_wp2_with fail
     go_quiet (fail)
     go_wp2_with fail
     go_ret
     exact givesE_bool (by rw [HF.out]) (HX1.out.drewN _)
   -- not
   ·have hj : 0 < args.length := by omega
    have HQ := hI (show R = !(valF s l f (g + 1) args[0]) by
     rw [HR.out, if_pos rfl, valHd_at, List.getElem?_eq_getElem hj]; rfl)
    have hnp : 0 < na := by have := HNA.out; omega
    have HXJ := hI (fun W (hW : Ext w W) => ExsD.at args _ (ExsD.ext hW args _ HX.out) 0 hj)
    have HA0 := hI (HARG.out 0 hj)
    obtain ⟨V, hV⟩ : ∃ V, V = valF s l f (g + 1) args[0] := ⟨_, rfl⟩
    rw [<- hV] at HQ HA0
    clear hl1 hV HARG HDEF
    go_enter Tryz.func127, Tryz.ntmps127
    go_upto_region 1 with fail
    rw [<- hwa]
    clear hwa
    go_wp2_with fail
    refine HIX.out.mono ?_
    rintro r w1 ⟨rfl, hx1⟩
    have HX1 := hI (HXA.out.trans hx1)
    unfold optV
    clear f0 f1 f2 f3 f4 f5 ff e0 ef hltw
    obtain ⟨f0, f1, f2, f3, f4, f5, ff⟩ := blk6 (hx1.blk HB1.out)
    obtain ⟨e0, ef⟩ := blk1 (hx1.blk HB0.out)
    obtain ⟨b, off, rfl, aw1, nw1, cw1, aa1, na1, ca1, h0, h1, h2, h3, h4, h5, h6⟩ := HXJ.out w1 HX1.out
    have H6 := hI h6
    simp only [Nat.zero_mul, Nat.add_zero] at h0 h1 h2 h3 h4 h5
    clear hx1 h6
    go_wp2_with fail
    go_still_tail 7, (by kernel_rfl)
    change wpList _ _ _ _ _ w1.drew
    have hx2 : Ext w1 w1.drew := (Ext.refl w1).drew
    generalize w1.drew = w2 at hx2 ⊢
    have HX2 := hI (HX1.out.trans hx2)
    have HAX := hI (HA0.out _ w2 HX2.out (H6.out.ext hx2))
    unfold exV at HAX
    clear hx2 f0 f1 f2 f3 f4 f5 ff e0 ef h0 h1 h2 h3 h4 h5
    go_wp2_with fail
    refine HAX.out.mono ?_
    rintro r w3 ⟨rfl, hx3⟩
    have HX3 := hI (HX2.out.trans hx3)
    clear hx3
    go_wp2_with fail
    go_ret
    exact givesE_bool (by rw [HQ.out]) HX3.out
   -- and
   ·have HQ := hI (show R = args.all (valE s f (valsOf s l f g)) by rw [HR.out, if_neg (by decide), if_pos rfl, valAll_iff])
    have HXJ := hI (fun W (hW : Ext w W) => ExsD.at args _ (ExsD.ext hW args _ HX.out))
    obtain ⟨V, hV⟩ : ∃ V, V = valsOf s l f g := ⟨_, rfl⟩
    rw [<- hV] at HQ
    have HAV := hI (show ∀ (j : Nat) (hj : j < args.length) (xv : Value) (W : World), Ext w W -> IsEx W args[j] xv -> Calls Tryz.prog 127 #[.agg #[.slice sa sn sc], .slice a n c, xv, .slice fa fn fc] W (GivesE (.bool (valE s f V args[j])) W) from fun j hj xv W hW hxv => by rw [hV, <- valF_eq]; exact HARG.out j hj xv W hW hxv)
    clear hV HARG HDEF
    go_enter Tryz.func127, Tryz.ntmps127
    go_upto_region 1 with fail
    rw [<- hwa]
    clear hwa
    go_wp2_with fail
    refine HIX.out.mono ?_
    rintro r w1 ⟨rfl, hx1⟩
    have HX1 := hI (HXA.out.trans hx1)
    have HB01 := hI (hx1.blk HB0.out)
    have HB11 := hI (hx1.blk HB1.out)
    unfold optV
    clear f0 f1 f2 f3 f4 f5 ff e0 ef hltw
    obtain ⟨f0, f1, f2, f3, f4, f5, ff⟩ := blk6 HB11.out
    clear hx1
    go_wp2_with fail
    clear f0 f1 f2 f3 f4 f5 ff
    go_loopw [13, 14] (TruthN s f V args na w.heap.size (.cells #[.slice sa sn sc] 24 (0, 0)) (.cells #[.int .i64 7, .string name, .slice aw nw cw, .int .i64 lo, .int .i64 hi', .slice aa na ca] 45 (0, 0)) w) (fun _ i _ => na - (intOf i).toNat)
    case atStart => exact ⟨0, 0, rfl, rfl, by omega, by omega, ⟨fun _ j _ h => by omega, fun _ => rfl⟩, HB01.out, HB11.out, HX1.out⟩
    case round =>
     obtain ⟨k, q, rfl, rfl, hk, hqk, hall, hb0, hb1, hxr⟩ := hrel
     have HALL := hI hall
     have HB0R := hI hb0
     have HB1R := hI hb1
     have HXR := hI hxr
     obtain ⟨e0, ef⟩ := blk1 hb0
     obtain ⟨f0, f1, f2, f3, f4, f5, ff⟩ := blk6 hb1
     clear hall hb0 hb1 hxr
     by_cases hkn : k < na
     ·have hka : k < args.length := by have := HNA.out; omega
      have t1 : decide ((k : Int) < (na : Int)) = true := decide_eq_true (by omega)
      obtain ⟨b, off, rfl, aw1, nw1, cw1, aa1, na1, ca1, h0, h1, h2, h3, h4, h5, h6⟩ := HXJ.out wr HXR.out k hka
      have H6 := hI h6
      have HAK := hI (HAV.out k hka)
      obtain ⟨B, hB⟩ : ∃ B, B = valE s f V args[k] := ⟨_, rfl⟩
      rw [<- hB] at HAK
      have HBB := hI hB
      clear h6 hB
      go_wp2_with fail
      go_still_tail 8, (by kernel_rfl)
      change wpList _ _ _ _ _ wr.drew
      have hx2 : Ext wr wr.drew := (Ext.refl wr).drew
      generalize wr.drew = w2 at hx2 ⊢
      have HX2 := hI (HXR.out.trans hx2)
      have HB02 := hI (hx2.blk HB0R.out)
      have HB12 := hI (hx2.blk HB1R.out)
      have HAX := hI (HAK.out _ w2 HX2.out (H6.out.ext hx2))
      unfold exV at HAX
      clear hx2 f0 f1 f2 f3 f4 f5 ff e0 ef h0 h1 h2 h3 h4 h5
      go_wp2_with fail
      refine HAX.out.mono ?_
      rintro r w3 ⟨rfl, hx3⟩
      have HX3 := hI (HX2.out.trans hx3)
      have HB03 := hI (hx3.blk HB02.out)
      have HB13 := hI (hx3.blk HB12.out)
      clear hx3
      cases B
      ·go_wp2_with fail
       go_roundw
       case rel =>
        refine ⟨k + 1, q, by go_num, rfl, by omega, by omega, ⟨fun h => by omega, fun h => ?_⟩, HB03.out, HB13.out, HX3.out⟩
        have := h k hka (by omega)
        rw [<- HBB.out] at this; cases this
       case measure => simp [intOf]; omega
      go_wp2_with fail
      go_roundw
      case rel =>
       refine ⟨k + 1, q + 1, by go_num, by go_num, by omega, by omega, ⟨fun h j hj hjk => ?_, fun h => ?_⟩, HB03.out, HB13.out, HX3.out⟩
       ·by_cases e : j = k
        ·subst e; exact HBB.out.symm
        exact HALL.out.1 (by omega) j hj (by omega)
       have := HALL.out.2 fun j hj hjk => h j hj (by omega)
       omega
      case measure => simp [intOf]; omega
     have t1 : decide ((k : Int) < (na : Int)) = false := decide_eq_false (by omega)
     have HF := hI (show R = ((q : Int) == (na : Int)) by
      rw [HQ.out, Bool.eq_iff_iff, List.all_eq_true]
      simp only [beq_iff_eq]
      constructor
      ·intro h
       have := HALL.out.2 fun j hj _ => h _ (List.getElem_mem hj)
       omega
      intro h x hx
      obtain ⟨j, hj, rfl⟩ := List.getElem_of_mem hx
      exact HALL.out.1 (by omega) j hj (by have := HNA.out; omega))
     go_wp2_with fail
     go_ret
     exact givesE_bool (by rw [HF.out]) HXR.out
   -- or
   have HQ := hI (show R = args.any (valE s f (valsOf s l f g)) by rw [HR.out, if_neg (by decide), if_neg (by decide), if_pos rfl, valAny_iff])
   have HXJ := hI (fun W (hW : Ext w W) => ExsD.at args _ (ExsD.ext hW args _ HX.out))
   obtain ⟨V, hV⟩ : ∃ V, V = valsOf s l f g := ⟨_, rfl⟩
   rw [<- hV] at HQ
   have HAV := hI (show ∀ (j : Nat) (hj : j < args.length) (xv : Value) (W : World), Ext w W -> IsEx W args[j] xv -> Calls Tryz.prog 127 #[.agg #[.slice sa sn sc], .slice a n c, xv, .slice fa fn fc] W (GivesE (.bool (valE s f V args[j])) W) from fun j hj xv W hW hxv => by rw [hV, <- valF_eq]; exact HARG.out j hj xv W hW hxv)
   clear hV HARG HDEF
   go_enter Tryz.func127, Tryz.ntmps127
   go_upto_region 1 with fail
   rw [<- hwa]
   clear hwa
   go_wp2_with fail
   refine HIX.out.mono ?_
   rintro r w1 ⟨rfl, hx1⟩
   have HX1 := hI (HXA.out.trans hx1)
   have HB01 := hI (hx1.blk HB0.out)
   have HB11 := hI (hx1.blk HB1.out)
   unfold optV
   clear f0 f1 f2 f3 f4 f5 ff e0 ef hltw
   obtain ⟨f0, f1, f2, f3, f4, f5, ff⟩ := blk6 HB11.out
   clear hx1
   go_wp2_with fail
   clear f0 f1 f2 f3 f4 f5 ff
   go_loopw [15] (TruthA s f V args na w.heap.size (.cells #[.slice sa sn sc] 24 (0, 0)) (.cells #[.int .i64 8, .string name, .slice aw nw cw, .int .i64 lo, .int .i64 hi', .slice aa na ca] 45 (0, 0)) w) (fun i _ => na - (intOf i).toNat)
   case atStart => exact ⟨0, rfl, by omega, fun j _ h => by omega, HB01.out, HB11.out, HX1.out⟩
   case round =>
    obtain ⟨k, rfl, hk, hall, hb0, hb1, hxr⟩ := hrel
    have HALL := hI hall
    have HB0R := hI hb0
    have HB1R := hI hb1
    have HXR := hI hxr
    obtain ⟨e0, ef⟩ := blk1 hb0
    obtain ⟨f0, f1, f2, f3, f4, f5, ff⟩ := blk6 hb1
    clear hall hb0 hb1 hxr
    by_cases hkn : k < na
    ·have hka : k < args.length := by have := HNA.out; omega
     have t1 : decide ((k : Int) < (na : Int)) = true := decide_eq_true (by omega)
     obtain ⟨b, off, rfl, aw1, nw1, cw1, aa1, na1, ca1, h0, h1, h2, h3, h4, h5, h6⟩ := HXJ.out wr HXR.out k hka
     have H6 := hI h6
     have HAK := hI (HAV.out k hka)
     obtain ⟨B, hB⟩ : ∃ B, B = valE s f V args[k] := ⟨_, rfl⟩
     rw [<- hB] at HAK
     have HBB := hI hB
     clear h6 hB
     go_wp2_with fail
     go_still_tail 8, (by kernel_rfl)
     change wpList _ _ _ _ _ wr.drew
     have hx2 : Ext wr wr.drew := (Ext.refl wr).drew
     generalize wr.drew = w2 at hx2 ⊢
     have HX2 := hI (HXR.out.trans hx2)
     have HB02 := hI (hx2.blk HB0R.out)
     have HB12 := hI (hx2.blk HB1R.out)
     have HAX := hI (HAK.out _ w2 HX2.out (H6.out.ext hx2))
     unfold exV at HAX
     clear hx2 f0 f1 f2 f3 f4 f5 ff e0 ef h0 h1 h2 h3 h4 h5
     go_wp2_with fail
     refine HAX.out.mono ?_
     rintro r w3 ⟨rfl, hx3⟩
     have HX3 := hI (HX2.out.trans hx3)
     have HB03 := hI (hx3.blk HB02.out)
     have HB13 := hI (hx3.blk HB12.out)
     clear hx3
     cases B
     ·go_wp2_with fail
      go_roundw
      case rel =>
       refine ⟨k + 1, by go_num, by omega, fun j hj hjk => ?_, HB03.out, HB13.out, HX3.out⟩
       by_cases e : j = k
       ·subst e; exact HBB.out.symm
       exact HALL.out j hj (by omega)
      case measure => simp [intOf]; omega
     have HF := hI (show R = true by rw [HQ.out, List.any_eq_true]; exact ⟨_, List.getElem_mem hka, HBB.out.symm⟩)
     go_wp2_with fail
     go_ret
     exact givesE_bool (by rw [HF.out]) HX3.out
    have t1 : decide ((k : Int) < (na : Int)) = false := decide_eq_false (by omega)
    have HF := hI (show R = false by
     rw [HQ.out, List.any_eq_false]
     intro x hx
     obtain ⟨j, hj, rfl⟩ := List.getElem_of_mem hx
     rw [HALL.out j hj (by have := HNA.out; omega)]; simp)
    go_wp2_with fail
    go_ret
    exact givesE_bool (by rw [HF.out]) HXR.out
def itemErr (s : List Attr) (l : List Cla) (x : Wb) : Int := if nodesErr s l x.cond ≠ 0 then nodesErr s l x.cond else backsErr s l x.unl
theorem itemErr_mk (s : List Attr) (l : List Cla) (n : BA) (c : Ex) (u : List Wb) : itemErr s l (.mk n c u) = if nodesErr s l c ≠ 0 then nodesErr s l c else backsErr s l u := rfl
theorem backsErr_cons (s : List Attr) (l : List Cla) (x : Wb) (r : List Wb) : backsErr s l (x :: r) = if itemErr s l x ≠ 0 then itemErr s l x else backsErr s l r := by
 obtain ⟨n, c, u⟩ := x
 rw [backsErr, itemErr_mk]
 by_cases hn : nodesErr s l c = 0
 ·simp [hn]
 simp [hn]
theorem backsErr_zero {s : List Attr} {l : List Cla} : (r : List Wb) -> (∀ j (h : j < r.length), itemErr s l r[j] = 0) -> backsErr s l r = 0
 | [], _ => by rw [backsErr]
 | x :: r, h => by
  have h0 : itemErr s l x = 0 := h 0 (by simp)
  have hr := backsErr_zero r fun j hj => by have := h (j + 1) (by simpa using hj); simpa using this
  rw [backsErr_cons, h0, hr]; simp
theorem backsErr_hit {s : List Attr} {l : List Cla} : (r : List Wb) -> (k : Nat) -> (hk : k < r.length) -> itemErr s l r[k] ≠ 0 -> (∀ j (h : j < k), itemErr s l (r[j]'(by omega)) = 0) -> backsErr s l r = itemErr s l r[k]
 | [], k, hk, _, _ => by simp at hk
 | x :: r, 0, _, h, _ => by
  have h' : itemErr s l x ≠ 0 := h
  show backsErr s l (x :: r) = itemErr s l x
  rw [backsErr_cons, if_pos h']
 | x :: r, k + 1, hk, h, h0 => by
  have h1 : itemErr s l x = 0 := h0 0 (by omega)
  have hr := backsErr_hit r k (by simpa using hk) (by simpa using h) fun j hj => by have := h0 (j + 1) (by omega); simpa using this
  simp only [List.getElem_cons_succ]
  rw [backsErr_cons, h1, hr]; simp
def itemLarge (l : List Cla) (x : Wb) : Bool := decide (2000 < expanded l x.cond) || backsLarge l x.unl
theorem backsLarge_any (l : List Cla) : (r : List Wb) -> backsLarge l r = r.any (itemLarge l)
 | [] => by simp [backsLarge]
 | .mk n c u :: r => by rw [backsLarge, backsLarge_any l r]; rfl
theorem rbackErr_calls (s : List Attr) (l : List Cla) (hf : ∀ x ∈ s, x.fits) (hsl : s.length <= 1000000000000000) (a : OA) (n c : Nat) (hn : n <= 1000000000000000) (m : Nat) : ∀ (r : List Wb) (ra : OA) (rn rc : Nat) (sv : Value) (w : World), wbN r < m -> m <= 1000000000000000 -> wbOk r -> IsSchema w s sv -> IsClas w l a n c -> WbsD w r ra -> rn = r.length ->
  Calls Tryz.prog 93 #[sv, .slice a n c, .slice ra rn rc] w (GivesE (.int .i64 (backsErr s l r)) w) := by
 induction m with
 | zero => intro r ra rn rc sv w h; omega
 | succ m ih =>
  intro r ra rn rc sv w hm hM hok hs hl hd hrn
  obtain ⟨sa, sn, sc, rfl, hsn⟩ := hs.slice
  have hrl := wbN_len r
  have hrn2 : rn <= 1000000000000000 := by omega
  have HS := hI hs
  have HL := hI hl
  have HD := hI hd
  have HRN := hI hrn
  have HOK := hI hok
  have IH := hI ih
  have HF := hI hf
  clear hs hl hd hrn hok ih hsn hf
  go_enter Tryz.func93, Tryz.ntmps93
  go_wp2_with fail
  go_loopw [7] (fun t wr => ∃ k : Nat, t = .int .i64 k /\ k <= rn /\ (∀ j (h : j < r.length), j < k -> itemErr s l r[j] = 0) /\ wr.heap[w.heap.size]? = some (.cells #[.slice sa sn sc] 24 (0, 0)) /\ Ext w wr) (fun t _ => rn - (intOf t).toNat)
  case atStart => exact ⟨0, rfl, by omega, fun j _ h => by omega, alloc_new w _, (Ext.refl w).alloc _⟩
  case round =>
   obtain ⟨k, rfl, hk, hno, hbx, hxr⟩ := hrel
   have HNO := hI hno
   have HBX := hI hbx
   have HXR := hI hxr
   obtain ⟨d0, df⟩ := blk1 hbx
   clear hno hbx hxr
   by_cases hkn : k < rn
   ·have hkl : k < r.length := by have := HRN.out; omega
    have t1 : decide ((k : Int) < (rn : Int)) = true := decide_eq_true (by omega)
    obtain ⟨b, off, rfl, v, hv0, hrow, hv2, hv3, hv4, hv5, hv6⟩ := WbsD.at r _ (WbsD.mono HXR.out.sub _ _ HD.out) k hkl
    obtain ⟨c0, c1, c2, c3, c4, c5, c6, c7⟩ := hrow.eight
    obtain ⟨ho1, ho2, ho3, ho4, ho5⟩ := wbOk_at r HOK.out k hkl
    have hwn := wbN_at r k hkl
    have HUU := hI hv6
    have HUN := hI hv3
    have HEX := hI hv2
    have HO3 := hI ho3
    have HO5 := hI ho5
    have ti0 : (0 : Int) <= (k : Int) := by omega
    have ti1 : (k : Int) < (rn : Int) := by omega
    clear hrow hv0 hv2 hv3 hv4 hv5 hv6 ho2 ho3 ho5 ho1
    go_wp2_with fail
    go_still_tail 7, (by kernel_rfl)
    change wpList _ _ _ _ _ wr.drew
    have hx2 : Ext wr wr.drew := (Ext.refl wr).drew
    generalize wr.drew = w2 at hx2 ⊢
    have HX2 := hI (HXR.out.trans hx2)
    have HB2 := hI (hx2.blk HBX.out)
    have HEX2 := hI (HEX.out.ext hx2)
    have c7' := hx2.cell c7
    have HU2 := hI (WbsD.mono hx2.sub _ _ HUU.out)
    clear hx2 d0 df c0 c1 c2 c3 c4 c5 c6 c7
    go_wp2_with fail
    refine (rnodesErr_calls s l HF.out hsl a n c hn 1000000000000000 r[k].cond _ _ w2 ho4 (by omega) HO3.out (HS.out.ext HX2.out) (HL.out.ext HX2.out) HEX2.out).mono ?_
    rintro e w3 ⟨rfl, hx3⟩
    have HX3 := hI (HX2.out.trans hx3)
    have HB3 := hI (hx3.blk HB2.out)
    obtain ⟨d0, df⟩ := blk1 (hx3.blk HB2.out)
    have c73 := hx3.cell c7'
    have HU3 := hI (WbsD.mono hx3.sub _ _ HU2.out)
    clear hx3 c7'
    by_cases hz : nodesErr s l r[k].cond = 0
    ·have tz : (nodesErr s l r[k].cond != 0) = false := by simp [hz]
     have HIE := hI (show itemErr s l r[k] = backsErr s l r[k].unl by unfold itemErr; rw [if_neg (by simp [hz])])
     clear hz
     go_wp2_with fail
     go_still_tail 7, (by kernel_rfl)
     change wpList _ _ _ _ _ w3.drew
     have hx4 : Ext w3 w3.drew := (Ext.refl w3).drew
     generalize w3.drew = w4 at hx4 ⊢
     have HX4 := hI (HX3.out.trans hx4)
     have HB4 := hI (hx4.blk HB3.out)
     have HU4 := hI (WbsD.mono hx4.sub _ _ HU3.out)
     clear hx4 d0 df c73
     go_wp2_with fail
     refine (IH.out r[k].unl _ _ _ _ w4 (by omega) (by omega) HO5.out (HS.out.ext HX4.out) (HL.out.ext HX4.out) HU4.out HUN.out).mono ?_
     rintro e w5 ⟨rfl, hx5⟩
     have HX5 := hI (HX4.out.trans hx5)
     have HB5 := hI (hx5.blk HB4.out)
     clear hx5
     by_cases hy : backsErr s l r[k].unl = 0
     ·have ty : (backsErr s l r[k].unl != 0) = false := by simp [hy]
      have HY := hI hy
      clear hy
      go_wp2_with fail
      go_roundw
      case rel =>
       refine ⟨k + 1, by go_num, by omega, fun j hj hjk => ?_, HB5.out, HX5.out⟩
       by_cases e' : j = k
       ·subst e'; rw [HIE.out]; exact HY.out
       exact HNO.out j hj (by omega)
      case measure => simp [intOf]; omega
     have ty : (backsErr s l r[k].unl != 0) = true := by simp [hy]
     have HR := hI (show backsErr s l r = backsErr s l r[k].unl by rw [<- HIE.out]; exact backsErr_hit r k hkl (by rw [HIE.out]; exact hy) fun j hj => HNO.out j (by omega) hj)
     clear hy
     go_wp2_with fail
     go_ret
     exact givesE_of (by rw [HR.out]) HX5.out
    have tz : (nodesErr s l r[k].cond != 0) = true := by simp [hz]
    have HIE : itemErr s l r[k] = nodesErr s l r[k].cond := by unfold itemErr; rw [if_pos hz]
    have HR := hI (show backsErr s l r = nodesErr s l r[k].cond by rw [<- HIE]; exact backsErr_hit r k hkl (by rw [HIE]; exact hz) fun j hj => HNO.out j (by omega) hj)
    clear hz HIE
    go_wp2_with fail
    go_ret
    exact givesE_of (by rw [HR.out]) HX3.out
   have t1 : decide ((k : Int) < (rn : Int)) = false := decide_eq_false (by omega)
   have HR := hI (show backsErr s l r = 0 from backsErr_zero r fun j hj => HNO.out j hj (by have := HRN.out; omega))
   go_wp2_with fail
   go_ret
   exact givesE_of (by rw [HR.out]) HXR.out
theorem rbackLarge_calls (l : List Cla) (a : OA) (n c : Nat) (hn : n <= 1000000) (hsz : ∀ x ∈ l, x.cond.size <= 1000000000000000) (m : Nat) : ∀ (r : List Wb) (ra : OA) (rn rc : Nat) (w : World), wbN r < m -> m <= 1000000000000000 -> wbOk r -> IsClas w l a n c -> WbsD w r ra -> rn = r.length ->
  Calls Tryz.prog 96 #[.slice a n c, .slice ra rn rc] w (GivesE (.bool (backsLarge l r)) w) := by
 induction m with
 | zero => intro r ra rn rc w h; omega
 | succ m ih =>
  intro r ra rn rc w hm hM hok hl hd hrn
  have hrl := wbN_len r
  have hrn2 : rn <= 1000000000000000 := by omega
  have HL := hI hl
  have HD := hI hd
  have HRN := hI hrn
  have HOK := hI hok
  have IH := hI ih
  have HSZ := hI hsz
  obtain ⟨R, hR⟩ : ∃ R, R = backsLarge l r := ⟨_, rfl⟩
  rw [<- hR]
  have HR := hI (show R = r.any (itemLarge l) by rw [hR]; exact backsLarge_any l r)
  clear hl hd hrn hok ih hR hsz
  go_enter Tryz.func96, Tryz.ntmps96
  go_wp2_with fail
  go_loopw [5] (fun t wr => ∃ k : Nat, t = .int .i64 k /\ k <= rn /\ (∀ j (h : j < r.length), j < k -> itemLarge l r[j] = false) /\ Ext w wr) (fun t _ => rn - (intOf t).toNat)
  case atStart => exact ⟨0, rfl, by omega, fun j _ h => by omega, Ext.refl _⟩
  case round =>
   obtain ⟨k, rfl, hk, hno, hxr⟩ := hrel
   have HNO := hI hno
   have HXR := hI hxr
   clear hno hxr
   by_cases hkn : k < rn
   ·have hkl : k < r.length := by have := HRN.out; omega
    have t1 : decide ((k : Int) < (rn : Int)) = true := decide_eq_true (by omega)
    obtain ⟨b, off, rfl, v, hv0, hrow, hv2, hv3, hv4, hv5, hv6⟩ := WbsD.at r _ (WbsD.mono HXR.out.sub _ _ HD.out) k hkl
    obtain ⟨c0, c1, c2, c3, c4, c5, c6, c7⟩ := hrow.eight
    obtain ⟨ho1, ho2, ho3, ho4, ho5⟩ := wbOk_at r HOK.out k hkl
    have hwn := wbN_at r k hkl
    have HUU := hI hv6
    have HUN := hI hv3
    have HEX := hI hv2
    have HO5 := hI ho5
    clear hrow hv0 hv2 hv3 hv4 hv5 hv6 ho2 ho3 ho5 ho1
    go_wp2_with fail
    refine (rExpanded_calls l a n c hn HSZ.out r[k].cond _ wr ho4 (HL.out.ext HXR.out) HEX.out).mono ?_
    rintro e w3 ⟨rfl, hx3⟩
    have HX3 := hI (HXR.out.trans hx3)
    have c73 := hx3.cell c7
    have HU3 := hI (WbsD.mono hx3.sub _ _ HUU.out)
    clear hx3 c0 c1 c2 c3 c4 c5 c6 c7
    have HIL := hI (show itemLarge l r[k] = (decide (2000 < expanded l r[k].cond) || backsLarge l r[k].unl) from rfl)
    obtain ⟨E, hE⟩ : ∃ E, E = expanded l r[k].cond := ⟨_, rfl⟩
    rw [<- hE]
    rw [<- hE] at HIL
    clear hE
    by_cases hz : 2000 < E
    ·have tz : decide ((2000 : Int) < (E : Int)) = true := decide_eq_true (by omega)
     have HF := hI (show R = true by
      rw [HR.out, List.any_eq_true]
      exact ⟨r[k], List.getElem_mem hkl, by rw [HIL.out, decide_eq_true hz]; rfl⟩)
     go_wp2_with fail
     go_ret
     exact givesE_b (by rw [HF.out]) HX3.out
    have tz : decide ((2000 : Int) < (E : Int)) = false := decide_eq_false (by omega)
    rw [decide_eq_false hz, Bool.false_or] at HIL
    go_wp2_with fail
    refine (IH.out r[k].unl _ _ _ w3 (by omega) (by omega) HO5.out (HL.out.ext HX3.out) HU3.out HUN.out).mono ?_
    rintro e w5 ⟨rfl, hx5⟩
    have HX5 := hI (HX3.out.trans hx5)
    clear hx5 c73
    cases hb : backsLarge l r[k].unl
    ·have HI2 := hI (HIL.out.trans hb)
     clear hb
     go_wp2_with fail
     go_roundw
     case rel =>
      refine ⟨k + 1, by go_num, by omega, fun j hj hjk => ?_, HX5.out⟩
      by_cases e' : j = k
      ·subst e'; exact HI2.out
      exact HNO.out j hj (by omega)
     case measure => simp [intOf]; omega
    have HF := hI (show R = true by
     rw [HR.out, List.any_eq_true]
     exact ⟨r[k], List.getElem_mem hkl, by rw [HIL.out, hb]⟩)
    go_wp2_with fail
    go_ret
    exact givesE_b (by rw [HF.out]) HX5.out
   have t1 : decide ((k : Int) < (rn : Int)) = false := decide_eq_false (by omega)
   have HF := hI (show R = false by
    rw [HR.out, List.any_eq_false]
    intro x hx
    obtain ⟨j, hj, rfl⟩ := List.mem_iff_getElem.1 hx
    have := HNO.out j hj (by have := HRN.out; omega)
    simp [this])
   go_wp2_with fail
   go_ret
   exact givesE_b (by rw [HF.out]) HXR.out
structure RInv (l : List Dfn) (o : ZN) : Prop where
 nodup : o.Nodup
 sub : ∀ i ∈ o, isDef l i = true
 after : After l o
theorem RInv.start (l : List Dfn) : RInv l [] := ⟨List.nodup_nil, by simp, fun p i h => by simp at h⟩
theorem RInv.snoc {l : List Dfn} {o : ZN} {p : Nat} (h : RInv l o) (hd : isDef l p = true) (hp : p ∉ o) (hm : missL l o p = []) : RInv l (o ++ [p]) where
 nodup := List.nodup_append.2 ⟨h.nodup, by simp, fun a ha b hb e => hp (by simp at hb; rw [<- hb, <- e]; exact ha)⟩
 sub i hi := by
  rcases List.mem_append.1 hi with h1 | h1
  ·exact h.sub i h1
  simp at h1; rw [h1]; exact hd
 after := h.after.snoc hm
theorem RInv.le {l : List Dfn} {o : ZN} (h : RInv l o) : o.length <= countOf l := nodup_le _ _ h.nodup fun i hi => mem_defs.2 (h.sub i hi)
theorem RInv.lt {l : List Dfn} {o : ZN} {p : Nat} (h : RInv l o) (hd : isDef l p = true) (hp : p ∉ o) : o.length < countOf l := by
 have := nodup_le (p :: o) ((List.range l.length).filter (isDef l)) (List.nodup_cons.2 ⟨hp, h.nodup⟩) (fun i hi => by
  rcases List.mem_cons.1 hi with rfl | hi
  ·exact mem_defs.2 hd
  exact mem_defs.2 (h.sub i hi))
 simp only [List.length_cons] at this
 unfold countOf
 omega
theorem RInv.done {l : List Dfn} {o : ZN} (h : RInv l o) (ha : ∀ i, isDef l i = true -> i ∈ o) : Topo l o := ⟨h.nodup, fun i => ⟨h.sub i, ha i⟩, h.after⟩
theorem RInv.stuck {l : List Dfn} {o : ZN} (hs : ∀ i, isDef l i = true -> i ∉ o -> missL l o i ≠ []) {p : Nat} (hd : isDef l p = true) (hp : p ∉ o) : ¬ Sorts l := by
 rintro ⟨q, hq⟩
 have key : ∀ (p i : Nat), q[p]? = some i -> i ∈ o := by
  intro p
  induction p using Nat.strongRecOn with
  | ind p ih =>
   intro i hi
   refine Classical.byContradiction fun hio => ?_
   refine hs i ((hq.all i).1 (List.mem_of_getElem? hi)) hio (miss_nil.2 fun s hs d hd => ?_)
   obtain ⟨k, hk⟩ := List.mem_iff_getElem?.1 (hq.after p i hi s hs d hd)
   have hkp : k < p := by
    rcases Nat.lt_or_ge k p with h' | h'
    ·exact h'
    rw [List.getElem?_eq_none (by simp; omega)] at hk; cases hk
   rw [List.getElem?_take, if_pos hkp] at hk
   exact ih k hkp d hk
 obtain ⟨k, hk⟩ := List.mem_iff_getElem?.1 ((hq.all p).2 hd)
 exact hp (key k p hk)
theorem elemBools : ElemT 191 4 (.bool false) 1 1 := ⟨by kernel_rfl, by kernel_rfl, rfl, by omega⟩
structure SeenAt (bs : Nat) (L : List Bool) (w : World) : Prop where
 row : ∃ cur : Array Value, w.heap[bs]? = some (.cells cur 4 (0, 0)) /\ cur.toList = L.map Value.bool
theorem SeenAt.cell {bs : Nat} {L : List Bool} {w : World} (h : SeenAt bs L w) {i : Nat} (hi : i < L.length) : w.cell? ⟨bs, i, none⟩ = some (.bool L[i]) := by
 obtain ⟨cur, h1, h2⟩ := h.row
 rw [blk_cell h1]
 have : cur.toList[i]? = some (.bool L[i]) := by rw [h2]; simp [hi]
 simpa using this
theorem SeenAt.free {bs : Nat} {L : List Bool} {w : World} (h : SeenAt bs L w) (i : Nat) : w.frozen? ⟨bs, i, none⟩ = false := by
 obtain ⟨cur, h1, h2⟩ := h.row
 exact blk_free h1 i
theorem SeenAt.lt {bs : Nat} {L : List Bool} {w : World} (h : SeenAt bs L w) : bs < w.heap.size := by
 obtain ⟨cur, h1, h2⟩ := h.row
 exact blk_lt h1
theorem SeenAt.ext {bs : Nat} {L : List Bool} {w w' : World} (h : SeenAt bs L w) (hx : Ext w w') : SeenAt bs L w' := by
 obtain ⟨cur, h1, h2⟩ := h.row
 exact ⟨cur, hx.blk h1, h2⟩
theorem SeenAt.set {bs : Nat} {L : List Bool} {w : World} (h : SeenAt bs L w) (i : Nat) (b : Bool) : SeenAt bs (L.set i b) (w.setCell ⟨bs, i, none⟩ (.bool b)) := by
 obtain ⟨cur, h1, h2⟩ := h.row
 refine ⟨_, heap_setCell_same w bs i _ _ (.bool b) h1, ?_⟩
 simp [h2, List.map_set]
theorem SeenAt.of_owns {w : World} {base bs n : Nat} (h : w.ownsRow base 4 1 (.slice (some ⟨bs, 0, none⟩) n n) n (madeCells #[Value.bool false] n).toList) : SeenAt bs (List.replicate n false) w := by
 rcases h.2 with ⟨h0, _⟩ | ⟨g, cap, cur, hv, _, hg, _, _, hs, ht⟩
 ·simp at h0
 simp only [Value.slice.injEq, Option.some.injEq, Addr.mk.injEq, and_true, true_and] at hv
 obtain ⟨rfl, rfl⟩ := hv
 refine ⟨cur, hg, ?_⟩
 have e1 : cur.toList.take (n * 1) = cur.toList := List.take_of_length_le (by simp; omega)
 rw [e1] at ht
 rw [ht]
 simp only [madeCells, List.map_replicate]
 apply List.ext_getElem
 ·simp
 intro i h1 h2
 simp [Nat.mod_one]
def marks (o : ZN) (n : Nat) : List Bool := (List.range n).map fun j => decide (j ∈ o)
theorem marks_nil (n : Nat) : marks [] n = List.replicate n false := by simp [marks, List.map_const']
theorem marks_len (o : ZN) (n : Nat) : (marks o n).length = n := by simp [marks]
theorem marks_at {o : ZN} {n j : Nat} (hj : j < n) : (marks o n)[j]'(by rw [marks_len]; exact hj) = decide (j ∈ o) := by simp [marks]
theorem marks_set (o : ZN) (n p : Nat) : (marks o n).set p true = marks (o ++ [p]) n := by
 apply List.ext_getElem
 ·simp [marks]
 intro j h1 h2
 have hj : j < n := by simpa [marks] using h2
 have e1 : (marks (o ++ [p]) n)[j] = decide (j ∈ o ++ [p]) := marks_at hj
 have e2 : (marks o n)[j]'(by rw [marks_len]; exact hj) = decide (j ∈ o) := marks_at hj
 rw [e1, List.getElem_set]
 by_cases e : p = j
 ·subst e; simp
 rw [if_neg e, e2]
 congr 1
 simp only [List.mem_append, List.mem_singleton]
 exact propext ⟨Or.inl, fun h => h.resolve_right fun h => e h.symm⟩
open Go.RowKit Go.Maps
theorem uStr2 : Tryz.prog.underlying 9 = some .string := by kernel_rfl
theorem keyedStr : Keyed Tryz.prog 9 := string_keyed uStr2
theorem uSet : Tryz.prog.underlying 174 = some (.map 9 176) := by kernel_rfl
def SetAt (w : World) (b n : Nat) (l : ZB) : Prop := ∃ D : DataW Unit, w.ownsMap Tryz.prog 9 unitElem b n D /\ SetIs D l
theorem SetAt.chg {w w' : World} {b n : Nat} {l : ZB} {N : ZN} (h : SetAt w b n l) (hc : Chg N w w') (hn : b ∉ N) : SetAt w' b n l := by
 obtain ⟨D, ⟨es, clock, hb, r⟩, hs⟩ := h
 exact ⟨D, ⟨es, clock, hc.blk hb hn, r⟩, hs⟩
theorem SetAt.lt {w : World} {b n : Nat} {l : ZB} (h : SetAt w b n l) : b < w.heap.size := by
 obtain ⟨D, h, _⟩ := h
 exact h.lt
theorem SetAt.mono {w : World} {b n n' : Nat} {l : ZB} (h : SetAt w b n l) (hn : n <= n') : SetAt w b n' l := by
 obtain ⟨D, h, hs⟩ := h
 exact ⟨D, h.mono hn, hs⟩
def CollectQ (b n : Nat) (l : ZB) (w : World) (e : Ending) (w' : World) : Prop := e = .returned (.tuple #[]) /\ SetAt w' b n l /\ Chg [b] w w'
theorem Chg.put_map {w w' : World} {b : Nat} (h : w.grownBy w' (some b)) : Chg [b] w w' := ⟨h.os, h.tape, h.output, h.size, fun k hk hn => h.block k hk (fun e => hn (by simp at e; simp [e]))⟩
theorem mask_in2 {w : World} {M : ZN} {p : Addr} {v : Value} (h : (mask w M).cell? p = some v) : w.cell? p = some v := by
 rw [mask_cell] at h
 split at h
 ·cases h
 exact h
theorem fitsAll_mem : (l : List Ex) -> fitsAll l -> ∀ x ∈ l, x.fits
 | [], _, x, hx => by simp at hx
 | a :: r, h, x, hx => by
  unfold fitsAll at h
  rcases List.mem_cons.1 hx with rfl | hx
  ·exact h.1
  exact fitsAll_mem r h.2 x hx
theorem fits_parts2 {e : Ex} (h : e.fits) : e.name.size <= 1000000000000000 /\ ∀ x ∈ e.args, x.fits := by
 cases e
 unfold Ex.fits at h
 exact ⟨h.1, fitsAll_mem _ h.2.2⟩
theorem collect_calls (m : Nat) : m <= 1000000 -> ∀ (e : Ex) (v : Value) (w : World) (b n : Nat) (l : ZB), e.size <= m -> e.fits -> IsEx (mask w [b]) e v -> SetAt w b n l -> n + e.size <= 1000000 ->
  Calls Tryz.prog 140 #[v, .map (some b)] w (CollectQ b (n + e.size) (l ++ namesE e) w) := by
 induction m with
 | zero => intro _ e v w b n l h; have := size_pos e; omega
 | succ m ih =>
  intro hMM e v w b n l hm hfit he hset hn
  obtain ⟨aw, nw, cw, aa, na, ca, rfl, hw, hna, hca, ha, hx⟩ := he.parts
  have hS : e.size = 1 + sizes e.args := e.size_eq
  have hla := length_le_sizes e.args
  obtain ⟨hnm, hfa⟩ := fits_parts2 hfit
  have HFA := hI hfa
  have hbw := hset.lt
  have HX := hI ((Ext.refl w).alloc (.cells #[.int .i64 e.op, .string e.name, .slice aw nw cw, .int .i64 e.lo, .int .i64 e.hi, .slice aa na ca] 45))
  have HBX := hI (alloc_new w (.cells #[.int .i64 e.op, .string e.name, .slice aw nw cw, .int .i64 e.lo, .int .i64 e.hi, .slice aa na ca] 45))
  have HXS := hI (ExsD.mono (mask_ext [b] HX.out) e.args aa hx)
  have HSET := hI (hset.chg (HX.out.chg []) (by simp))
  have HNA := hI hna
  have HNM := hI (namesE_eq e)
  have HSZ := hI hS
  have IH := hI (ih (by omega))
  have hna2 : na <= 1000000 := by omega
  have hsz : sizes e.args <= m := by omega
  have hn2 : n + 1 + sizes e.args <= 1000000 := by omega
  clear hw hna hca ha hx he hset hS hla hfit hfa ih hm hn
  generalize namesE e = NE at *
  generalize e.size = SE at *
  unfold exV
  go_enter Tryz.func140, Tryz.ntmps140
  go_upto_region 1 with fail
  generalize w.alloc (.cells #[.int .i64 e.op, .string e.name, .slice aw nw cw, .int .i64 e.lo, .int .i64 e.hi, .slice aa na ca] 45) = wb at *
  have hz0 := HX.out.size
  obtain ⟨b0, b1, b2, b3, b4, b5, bf⟩ := blk6 HBX.out
  have hlx := blk_lt HBX.out
  by_cases h3 : e.op = 3
  case' pos =>
   have t3 : (e.op == 3) = true := by simp [h3]
   obtain ⟨D, hown, hsi⟩ := HSET.out
   have HOW := hI hown
   have HNE := hI (show NE = [e.name] ++ namesL e.args by rw [HNM.out, if_pos h3])
   have HSI := hI (hsi.put e.name (.agg []))
   clear hown hsi h3
   go_wp2_with (at_mapUpdate; refine wpList_mapUpdate_own _ rfl _ _ _ 174 rfl 9 176 keyedStr uSet (unitElem (H := Unit)) b n D rfl HOW.out ?c0 _ _ _ rfl rfl (Go.WideMaps.keyOf_string_mk uStr2 ?c1) _ [] unitElem_mk ?_)
   case c0 => unfold maxLen; omega
   case c1 => unfold maxLen; omega
   intro w1 hown1 hgrow1
   have hc1 := Chg.put_map hgrow1
   have HC1 := hI hc1
   obtain ⟨L, hL⟩ : ∃ L, L = l ++ [e.name] := ⟨_, rfl⟩
   have HS1 := hI (show SetAt w1 b (n + 1) L by rw [hL]; exact ⟨_, hown1, HSI.out⟩)
   have HB1 := hI (hc1.blk HBX.out (by simp; omega))
   have HNE1 := hI (show L ++ namesL e.args = l ++ NE by rw [hL, HNE.out, List.append_assoc])
   have hz1 := hc1.size
   clear hown1 hgrow1 hc1 HOW HSI HNE hL b0 b1 b2 b3 b4 b5 bf hlx
   go_upto_region 3 with fail
  case' neg =>
   have t3 : (e.op == 3) = false := by simp [h3]
   have HNE := hI (show NE = namesL e.args by rw [HNM.out, if_neg h3]; simp)
   have HC1 := hI (Chg.refl [b] wb)
   obtain ⟨L, hL⟩ : ∃ L, L = l := ⟨_, rfl⟩
   have HS1 := hI (show SetAt wb b (n + 1) L by rw [hL]; exact HSET.out.mono (Nat.le_succ n))
   have HB1 := HBX
   have HNE1 := hI (show L ++ namesL e.args = l ++ NE by rw [hL, HNE.out])
   have hz1 := Nat.le_refl wb.heap.size
   clear h3 HNE hL
   go_upto_region 3 with fail
   clear b0 b1 b2 b3 b4 b5 bf hlx
  all_goals
   obtain ⟨b0, b1, b2, b3, b4, b5, bf⟩ := blk6 HB1.out
   have hlx := blk_lt HB1.out
   go_wp2_with fail
   clear b0 b1 b2 b3 b4 b5 bf hlx
   go_loopg [16] na (fun g i wr => ∃ j : Nat, j <= na /\ g = na - j /\ i = .int .i64 j /\ SetAt wr b (n + 1 + sizes (e.args.take j)) (L ++ namesL (e.args.take j)) /\ Chg [b] wb wr)
   case atStart => exact ⟨0, by omega, rfl, rfl, by simpa [sizes, namesL] using HS1.out, HC1.out⟩
   case round =>
    obtain ⟨j, hj, hgj, rfl, hs, hc⟩ := hrel
    have HGN := hI hgj
    have HSJ := hI hs
    have HCJ := hI hc
    have hzr := hc.size
    clear hs hc hgj
    by_cases hlt : j < na
    ·have hlt' : j < e.args.length := by have := HNA.out; omega
     have td : decide ((j : Int) < (na : Int)) = true := by simp; omega
     obtain ⟨bb, off, rfl, aw1, nw1, cw1, aa1, na1, ca1, c0, c1, c2, c3, c4, c5, c6⟩ := ExsD.at e.args _ (ExsD.mono HCJ.out.sub _ _ HXS.out) j hlt'
     have HC6 := hI c6
     replace c0 := mask_in2 c0
     replace c1 := mask_in2 c1
     replace c2 := mask_in2 c2
     replace c3 := mask_in2 c3
     replace c4 := mask_in2 c4
     replace c5 := mask_in2 c5
     have HST := hI (sizes_take_succ e.args j hlt')
     have HSL := hI (sizes_take_le e.args (j + 1))
     have HNT := hI (namesL_take e.args j hlt')
     have HFJ := hI (HFA.out _ (List.getElem_mem hlt'))
     clear c6
     generalize e.args[j] = a at *
     go_upto_region 6 with fail
     have HXA := hI ((Ext.refl wr).alloc (.cells #[.int .i64 a.op, .string a.name, .slice aw1 nw1 cw1, .int .i64 a.lo, .int .i64 a.hi, .slice aa1 na1 ca1] 45))
     have HBA := hI (alloc_new wr (.cells #[.int .i64 a.op, .string a.name, .slice aw1 nw1 cw1, .int .i64 a.lo, .int .i64 a.hi, .slice aa1 na1 ca1] 45))
     clear c0 c1 c2 c3 c4 c5
     generalize wr.alloc (.cells #[.int .i64 a.op, .string a.name, .slice aw1 nw1 cw1, .int .i64 a.lo, .int .i64 a.hi, .slice aa1 na1 ca1] 45) = wa at *
     obtain ⟨a0, a1, a2, a3, a4, a5, af⟩ := blk6 HBA.out
     have hla := blk_lt HBA.out
     go_wp2_with fail
     refine (IH.out a _ _ b _ _ (by have := HST.out; have := HSL.out; omega) HFJ.out (HC6.out.mono (mask_ext [b] HXA.out)) (HSJ.out.chg (HXA.out.chg []) (by simp)) (by have := HST.out; have := HSL.out; omega)).mono ?_
     rintro r w2 ⟨rfl, hs2, hc2⟩
     have HS2 := hI (show SetAt w2 b (n + 1 + sizes (e.args.take (j + 1))) (L ++ namesL (e.args.take (j + 1))) by
      rw [HST.out, HNT.out, <- List.append_assoc, <- Nat.add_assoc]; exact hs2)
     have HC2 := hI ((HCJ.out.then (HXA.out.chg _)).then hc2)
     clear hs2 hc2 a0 a1 a2 a3 a4 a5 af hla
     go_wp2_with fail
     go_roundg (na - (j + 1))
     case measure => have := HGN.out; omega
     case rel => exact ⟨j + 1, by omega, rfl, by go_num, HS2.out, HC2.out⟩
    have HE2 := hI (show e.args.take j = e.args from List.take_of_length_le (by have := HNA.out; omega))
    have td : decide ((j : Int) < (na : Int)) = false := by simp; omega
    rw [HE2.out] at HSJ
    go_wp2_with fail
    go_end0
    refine ⟨rfl, ?_, (HX.out.chg _).then HCJ.out⟩
    rw [HSZ.out, <- HNE1.out, <- Nat.add_assoc]
    exact HSJ.out
end Go.Proofs.YtefjomofjejklaaGreatDoor
