/-
  Texts of the claim, joined: Ck1, Ck2, Itms, IdxE, VldE, Rev.
-/
import Derived.Test.YtpkljcgihobaiaaGreatEf13
import Derived.Deep.CutBlock
import Derived.Shelf.SlicesQ.Reverse
namespace Go.Proofs.YtpkljcgihobaiaaGreat
set_option maxRecDepth 100000
set_option maxHeartbeats 32000000
open Go.RowKit
theorem cwithin_calls (lo hi n : Int) (w : World) : Calls Tryz.prog 31 #[.int .i64 n, .int .i64 lo, .int .i64 hi] w (GivesE (.bool (inB lo hi n)) w) := by
 obtain ⟨B, hB⟩ : ∃ B, B = inB lo hi n := ⟨_, rfl⟩
 rw [<- hB]
 have HB := hI hB
 clear hB
 by_cases h1 : lo <= n
 ·by_cases h2 : n <= hi
  ·have t1 : decide (lo <= n) = true := decide_eq_true h1
   have t2 : decide (n <= hi) = true := decide_eq_true h2
   have HQ := hI (show B = true by rw [HB.out]; simp [inB, h1, h2])
   clear h1 h2
   go_enter Tryz.func31, Tryz.ntmps31
   go_wp2_with fail
   go_ret
   exact givesE_bool (by rw [HQ.out]) (Ext.refl w)
  have t1 : decide (lo <= n) = true := decide_eq_true h1
  have t2 : decide (n <= hi) = false := decide_eq_false h2
  have HQ := hI (show B = false by rw [HB.out]; simp [inB, h2])
  clear h1 h2
  go_enter Tryz.func31, Tryz.ntmps31
  go_wp2_with fail
  go_ret
  exact givesE_bool (by rw [HQ.out]) (Ext.refl w)
 have t1 : decide (lo <= n) = false := decide_eq_false h1
 have HQ := hI (show B = false by rw [HB.out]; simp [inB, h1])
 clear h1
 go_enter Tryz.func31, Tryz.ntmps31
 go_wp2_with fail
 go_ret
 exact givesE_bool (by rw [HQ.out]) (Ext.refl w)
def kindV (v : EvV) : Value :=
 if v.x.kind = 1 then .iface 98 (.agg #[.slice v.a v.n v.c])
 else if v.x.kind = 2 then .iface 99 (.agg #[.slice v.a v.n v.c])
 else if v.x.kind = 3 then .iface 131 (.agg #[.int .i64 v.x.cur, .int .i64 v.x.amount])
 else if v.x.kind = 4 then .iface 132 (.agg #[.int .i64 v.x.cur, .int .i64 v.x.amount])
 else if v.x.kind = 5 then .iface 167 (.agg #[])
 else if v.x.kind = 6 then .iface 168 (.agg #[])
 else if v.x.kind = 7 then .iface 134 (.agg #[.int .i64 v.x.target])
 else .nilIface
theorem kindV_1 {v : EvV} (h : v.x.kind = 1) : kindV v = .iface 98 (.agg #[.slice v.a v.n v.c]) := by unfold kindV; simp [h]
theorem kindV_2 {v : EvV} (h : v.x.kind = 2) : kindV v = .iface 99 (.agg #[.slice v.a v.n v.c]) := by unfold kindV; simp [h]
theorem kindV_3 {v : EvV} (h : v.x.kind = 3) : kindV v = .iface 131 (.agg #[.int .i64 v.x.cur, .int .i64 v.x.amount]) := by unfold kindV; simp [h]
theorem kindV_4 {v : EvV} (h : v.x.kind = 4) : kindV v = .iface 132 (.agg #[.int .i64 v.x.cur, .int .i64 v.x.amount]) := by unfold kindV; simp [h]
theorem kindV_5 {v : EvV} (h : v.x.kind = 5) : kindV v = .iface 167 (.agg #[]) := by unfold kindV; simp [h]
theorem kindV_6 {v : EvV} (h : v.x.kind = 6) : kindV v = .iface 168 (.agg #[]) := by unfold kindV; simp [h]
theorem kindV_7 {v : EvV} (h : v.x.kind = 7) : kindV v = .iface 134 (.agg #[.int .i64 v.x.target]) := by unfold kindV; simp [h]
theorem kindV_0 {v : EvV} (h : v.x.kind < 1 \/ 7 < v.x.kind) : kindV v = .nilIface := by
 unfold kindV
 rw [if_neg (by omega), if_neg (by omega), if_neg (by omega), if_neg (by omega), if_neg (by omega), if_neg (by omega), if_neg (by omega)]
theorem kindOf_calls (v : EvV) (w : World) : Calls Tryz.prog 47 #[v.val] w (GivesE (kindV v) w) := by
 obtain ⟨R, hR⟩ : ∃ R, R = kindV v := ⟨_, rfl⟩
 rw [<- hR]
 have HR := hI hR
 clear hR
 unfold EvV.val
 obtain ⟨⟨number, known, kind, items, cur, amount, target⟩, a, n, c⟩ := v
 dsimp only
 obtain ⟨wa, hwa⟩ : ∃ wa, wa = w.alloc (.cells #[.int .i64 number, .int .i64 known, .int .i64 kind, .slice a n c, .int .i64 cur, .int .i64 amount, .int .i64 target] 30) := ⟨_, rfl⟩
 have hxa : Ext w wa := by rw [hwa]; exact (Ext.refl _).alloc _
 have HXA := hI hxa
 have hb0 : wa.heap[w.heap.size]? = some (.cells #[.int .i64 number, .int .i64 known, .int .i64 kind, .slice a n c, .int .i64 cur, .int .i64 amount, .int .i64 target] 30 (0, 0)) := by rw [hwa]; exact alloc_new w _
 obtain ⟨f0, f1, f2, f3, f4, f5, f6, ff⟩ := blk7 hb0
 clear hxa hb0
 rcases (by omega : kind = 1 \/ kind = 2 \/ kind = 3 \/ kind = 4 \/ kind = 5 \/ kind = 6 \/ kind = 7 \/ (kind < 1 \/ 7 < kind)) with rfl | rfl | rfl | rfl | rfl | rfl | rfl | hk
 case' inl => have HQ := hI (HR.out.trans (kindV_1 rfl))
 case' inr.inl => have HQ := hI (HR.out.trans (kindV_2 rfl))
 case' inr.inr.inl => have HQ := hI (HR.out.trans (kindV_3 rfl))
 case' inr.inr.inr.inl => have HQ := hI (HR.out.trans (kindV_4 rfl))
 case' inr.inr.inr.inr.inl => have HQ := hI (HR.out.trans (kindV_5 rfl))
 case' inr.inr.inr.inr.inr.inl => have HQ := hI (HR.out.trans (kindV_6 rfl))
 case' inr.inr.inr.inr.inr.inr.inl => have HQ := hI (HR.out.trans (kindV_7 rfl))
 case' inr.inr.inr.inr.inr.inr.inr =>
  have HQ := hI (HR.out.trans (kindV_0 hk))
  have k1 : (kind == 1) = false := by simp; omega
  have k2 : (kind == 2) = false := by simp; omega
  have k3 : (kind == 3) = false := by simp; omega
  have k4 : (kind == 4) = false := by simp; omega
  have k5 : (kind == 5) = false := by simp; omega
  have k6 : (kind == 6) = false := by simp; omega
  have k7 : (kind == 7) = false := by simp; omega
  clear hk
 all_goals
  clear HR
  go_enter Tryz.func47, Tryz.ntmps47
  go_upto_region 1 with fail
  rw [<- hwa]
  clear hwa
  go_wp2_with fail
  go_ret
  exact ⟨congrArg Ending.returned HQ.out.symm, HXA.out⟩
theorem cashErr_a {cur amount : Int} (h : inB 0 15 cur = false) : cashErr cur amount = 15 := by unfold cashErr; rw [if_pos h]
theorem cashErr_b {cur amount : Int} (h : inB 0 15 cur = true) (h2 : inB 1 1073741824 amount = false) : cashErr cur amount = 1 := by unfold cashErr; rw [if_neg (by simp [h]), if_pos h2]
theorem cashErr_c {cur amount : Int} (h : inB 0 15 cur = true) (h2 : inB 1 1073741824 amount = true) : cashErr cur amount = 0 := by unfold cashErr; rw [if_neg (by simp [h]), if_neg (by simp [h2])]
theorem cash_calls (cur amount : Int) (w : World) : Calls Tryz.prog 63 #[.agg #[.int .i64 cur, .int .i64 amount]] w (GivesE (.int .i64 (cashErr cur amount)) w) := by
 obtain ⟨R, hR⟩ : ∃ R, R = cashErr cur amount := ⟨_, rfl⟩
 rw [<- hR]
 have HR := hI hR
 clear hR
 obtain ⟨wa, hwa⟩ : ∃ wa, wa = w.alloc (.cells #[.int .i64 cur, .int .i64 amount] 94) := ⟨_, rfl⟩
 have hxa : Ext w wa := by rw [hwa]; exact (Ext.refl _).alloc _
 have HXA := hI hxa
 have HB0 := hI (show wa.heap[w.heap.size]? = some (.cells #[.int .i64 cur, .int .i64 amount] 94 (0, 0)) by rw [hwa]; exact alloc_new w _)
 obtain ⟨f0, f1, ff⟩ := blk2 HB0.out
 clear hxa
 have HW1 := hI (fun W => cwithin_calls 0 15 cur W)
 have HW2 := hI (fun W => cwithin_calls 1 1073741824 amount W)
 obtain ⟨B, hB⟩ : ∃ B, B = inB 0 15 cur := ⟨_, rfl⟩
 obtain ⟨C, hC⟩ : ∃ C, C = inB 1 1073741824 amount := ⟨_, rfl⟩
 rw [<- hB] at HW1
 rw [<- hC] at HW2
 cases B
 ·have HQ := hI (HR.out.trans (cashErr_a hB.symm))
  clear hB hC HR
  go_enter Tryz.func63, Tryz.ntmps63
  go_upto_region 1 with fail
  rw [<- hwa]
  clear hwa
  go_wp2_with fail
  refine (HW1.out wa).mono ?_
  rintro r w1 ⟨rfl, hx1⟩
  have HX1 := hI (HXA.out.trans hx1)
  clear hx1
  go_wp2_with fail
  go_ret
  exact givesE_of (by rw [HQ.out]) HX1.out
 cases C
 case' false => have HQ := hI (HR.out.trans (cashErr_b hB.symm hC.symm))
 case' true => have HQ := hI (HR.out.trans (cashErr_c hB.symm hC.symm))
 all_goals
  clear hB hC HR
  go_enter Tryz.func63, Tryz.ntmps63
  go_upto_region 1 with fail
  rw [<- hwa]
  clear hwa
  go_wp2_with fail
  refine (HW1.out wa).mono ?_
  rintro r w1 ⟨rfl, hx1⟩
  have HX1 := hI (HXA.out.trans hx1)
  obtain ⟨g0, g1, gf⟩ := blk2 (hx1.blk HB0.out)
  clear hx1 f0 f1 ff
  go_wp2_with fail
  refine (HW2.out w1).mono ?_
  rintro r w2 ⟨rfl, hx2⟩
  have HX2 := hI (HX1.out.trans hx2)
  clear hx2
  go_wp2_with fail
  go_ret
  exact givesE_of (by rw [HQ.out]) HX2.out
def itemsErr (s : List Attr) (l : List It) : Int := if 64 < l.length then 4 else itsErr s l
theorem itErr_at {s : List Attr} {l : List It} {k : Nat} (hk : k < l.length) : itErr s (l.getD k ⟨[], 0, 0, 0⟩) = itErr s l[k] := by rw [List.getD_eq_getElem?_getD, List.getElem?_eq_getElem hk]; rfl
theorem itsErr_hit {s : List Attr} {l : List It} {k : Nat} (hk : k < l.length) (h0 : ∀ j (h : j < l.length), j < k -> itErr s l[j] = 0) (h : itErr s l[k] ≠ 0) : itsErr s l = itErr s l[k] := by
 unfold itsErr
 rw [firstI_hit (k := k) (by rw [itErr_at hk]; exact h) (fun j hj => by rw [itErr_at (show j < l.length by omega)]; exact h0 j _ hj) l.length hk]
 exact itErr_at hk
theorem itsErr_zero {s : List Attr} {l : List It} (h0 : ∀ j (h : j < l.length), itErr s l[j] = 0) : itsErr s l = 0 := by
 unfold itsErr
 rw [firstI_zero l.length fun j hj => by rw [itErr_at hj]; exact h0 j hj]
def ItmQ (s : List Attr) (l : List It) (n bs : Nat) (sa : OA) (sn sc : Nat) (w : World) (i : Value) (wr : World) : Prop := ∃ k : Nat, i = .int .i64 k /\ k <= n /\ (∀ j (h : j < l.length), j < k -> itErr s l[j] = 0) /\ wr.heap[bs]? = some (.cells #[.slice sa sn sc] 24 (0, 0)) /\ Ext w wr
theorem itErr_bad {s : List Attr} {x : It} (h : factsB s x.facts = false) : itErr s x = 16 := by unfold itErr; rw [if_pos h]
theorem itErr_far {s : List Attr} {x : It} (h : factsB s x.facts = true) (h2 : (moneyB x.value && moneyB x.sum && moneyB x.gross) = false) : itErr s x = 1 := by unfold itErr; rw [if_neg (by simp [h]), if_pos h2]
theorem itErr_ok {s : List Attr} {x : It} (h : factsB s x.facts = true) (h2 : (moneyB x.value && moneyB x.sum && moneyB x.gross) = true) : itErr s x = 0 := by unfold itErr; rw [if_neg (by simp [h]), if_neg (by simp [h2])]
theorem citems_calls (s : List Attr) (v : Value) (l : List It) (a : OA) (n c : Nat) (w : World) (hs : IsSchema w s v) (hf : ∀ x ∈ s, x.fits) (hl : s.length <= 1000000000000000) (hi : IsIts w l a n c) (hn2 : n <= 1000000000000000) (hfl : ∀ x ∈ l, x.facts.length <= 1000000000000000) :
  Calls Tryz.prog 62 #[v, .slice a n c] w (GivesE (.int .i64 (itemsErr s l)) w) := by
 obtain ⟨sa, sn, sc, rfl, hq1, hq2, hq3, hq4⟩ := hs.parts
 have HS := hI hs
 have HF := hI hf
 have HL := hI hl
 have HI := hI hi
 have HN := hI hi.len
 have HFL := hI hfl
 obtain ⟨R, hR⟩ : ∃ R, R = itemsErr s l := ⟨_, rfl⟩
 rw [<- hR]
 have HR := hI hR
 clear hs hf hl hi hfl hR hq1 hq2 hq3 hq4
 by_cases h6 : 64 < n
 ·have t6 : decide ((64 : Int) < (n : Int)) = true := decide_eq_true (by omega)
  have HQ := hI (show R = 4 by rw [HR.out]; unfold itemsErr; rw [<- HN.out, if_pos h6])
  go_enter Tryz.func62, Tryz.ntmps62
  go_wp2_with fail
  go_ret
  exact givesE_of (by rw [HQ.out]) ((Ext.refl w).alloc _)
 have t6 : decide ((64 : Int) < (n : Int)) = false := decide_eq_false (by omega)
 have HR2 := hI (show R = itsErr s l by rw [HR.out]; unfold itemsErr; rw [<- HN.out, if_neg h6])
 clear HR
 go_enter Tryz.func62, Tryz.ntmps62
 go_wp2_with fail
 go_loopw [12] (ItmQ s l n w.heap.size sa sn sc w) (fun t _ => n - (intOf t).toNat)
 case atStart => exact ⟨0, rfl, by omega, fun j _ h => by omega, alloc_new w _, (Ext.refl w).alloc _⟩
 case round =>
  obtain ⟨k, rfl, hk, hno, hbx, hx⟩ := hrel
  obtain ⟨wo, rfl⟩ : ∃ wo : World, wo = wr := ⟨_, rfl⟩
  have HNO := hI hno
  have HBX := hI hbx
  have HX := hI hx
  obtain ⟨bb0, bbf⟩ := blk1 hbx
  have hlt0 := blk_lt hbx
  clear hno hbx hx
  by_cases hkn : k < n
  ·have hkl : k < l.length := by have := HN.out; omega
   have t1 : decide ((k : Int) < (n : Int)) = true := decide_eq_true (by omega)
   obtain ⟨b, off, xv, rfl, hxv, hF, c0, c1, c2, c3⟩ := (HI.out.ext HX.out).at hkl
   obtain ⟨fa, hfa⟩ : ∃ fa, fa = xv.a := ⟨_, rfl⟩
   obtain ⟨fn, hfn⟩ : ∃ fn, fn = xv.n := ⟨_, rfl⟩
   obtain ⟨fc, hfc⟩ : ∃ fc, fc = xv.c := ⟨_, rfl⟩
   rw [<- hfa, <- hfn] at hF
   rw [<- hfa, <- hfn, <- hfc] at c0
   have HSV := hI (fun W (hW : Ext wo W) => sValid_calls s _ l[k].facts fa fn fc W (HS.out.ext (HX.out.trans hW)) HF.out HL.out (hF.ext hW) (by have := HFL.out _ (List.getElem_mem hkl); have := hF.1; omega))
   clear hxv hF hfa hfn hfc
   obtain ⟨wa, hwa⟩ : ∃ wa, wa = wo.alloc (.cells #[.slice fa fn fc, .int .i64 l[k].value, .int .i64 l[k].sum, .int .i64 l[k].gross] 72) := ⟨_, rfl⟩
   have hxa : Ext wo wa := by rw [hwa]; exact (Ext.refl _).alloc _
   have hba : wa.heap[wo.heap.size]? = some (.cells #[.slice fa fn fc, .int .i64 l[k].value, .int .i64 l[k].sum, .int .i64 l[k].gross] 72 (0, 0)) := by rw [hwa]; exact alloc_new wo _
   have HXA := hI hxa
   have HBA := hI hba
   have HB2 := hI (hxa.blk HBX.out)
   clear hxa hba
   have HM1 := hI (fun W => cwithin_calls 0 1073741824 l[k].value W)
   have HM2 := hI (fun W => cwithin_calls 0 1073741824 l[k].sum W)
   have HM3 := hI (fun W => cwithin_calls 0 1073741824 l[k].gross W)
   obtain ⟨V, hV⟩ : ∃ V, V = factsB s l[k].facts := ⟨_, rfl⟩
   obtain ⟨M1, hM1⟩ : ∃ M1, M1 = inB 0 1073741824 l[k].value := ⟨_, rfl⟩
   obtain ⟨M2, hM2⟩ : ∃ M2, M2 = inB 0 1073741824 l[k].sum := ⟨_, rfl⟩
   obtain ⟨M3, hM3⟩ : ∃ M3, M3 = inB 0 1073741824 l[k].gross := ⟨_, rfl⟩
   have HE1 := hI (fun h : V = false => itErr_bad (s := s) (x := l[k]) (hV.symm.trans h))
   have HE2 := hI (fun (h : V = true) (h2 : (M1 && M2 && M3) = false) => itErr_far (s := s) (x := l[k]) (hV.symm.trans h) (by unfold moneyB; rw [<- hM1, <- hM2, <- hM3]; exact h2))
   have HE3 := hI (fun (h : V = true) (h2 : (M1 && M2 && M3) = true) => itErr_ok (s := s) (x := l[k]) (hV.symm.trans h) (by unfold moneyB; rw [<- hM1, <- hM2, <- hM3]; exact h2))
   rw [<- hV] at HSV
   rw [<- hM1] at HM1
   rw [<- hM2] at HM2
   rw [<- hM3] at HM3
   clear hV hM1 hM2 hM3
   go_wp2_with fail
   rw [<- hwa]
   clear hwa c0 c1 c2 c3 bb0 bbf
   obtain ⟨d0, df⟩ := blk1 HB2.out
   obtain ⟨a0, a1, a2, a3, af⟩ := blk4c HBA.out
   have hlta := blk_lt HBA.out
   go_wp2_with fail
   refine (HSV.out _ HXA.out).mono ?_
   rintro e w5 ⟨rfl, hx5⟩
   have HX5 := hI ((HX.out.trans HXA.out).trans hx5)
   have HB5 := hI (hx5.blk HB2.out)
   have HA5 := hI (hx5.blk HBA.out)
   obtain ⟨f0, f1, f2, f3, ff⟩ := blk4c HA5.out
   have hlt5 := blk_lt HA5.out
   clear hx5 d0 df a0 a1 a2 a3 af hlta
   cases V
   ·have HQ := hI (show R = 16 by rw [HR2.out, itsErr_hit hkl HNO.out (by rw [HE1.out (by simp)]; omega)]; exact HE1.out (by simp))
    go_wp2_with fail
    go_ret
    exact givesE_of (by rw [HQ.out]) HX5.out
   go_wp2_with fail
   refine (HM1.out _).mono ?_
   rintro e w6 ⟨rfl, hx6⟩
   have HX6 := hI (HX5.out.trans hx6)
   have HB6 := hI (hx6.blk HB5.out)
   have HA6 := hI (hx6.blk HA5.out)
   obtain ⟨g0, g1, g2, g3, gf⟩ := blk4c HA6.out
   have hlt6 := blk_lt HA6.out
   clear hx6 f0 f1 f2 f3 ff hlt5
   cases M1
   ·have HQ := hI (show R = 1 by rw [HR2.out, itsErr_hit hkl HNO.out (by rw [HE2.out (by simp) (by simp)]; omega)]; exact HE2.out (by simp) (by simp))
    go_wp2_with fail
    go_ret
    exact givesE_of (by rw [HQ.out]) HX6.out
   go_wp2_with fail
   refine (HM2.out _).mono ?_
   rintro e w7 ⟨rfl, hx7⟩
   have HX7 := hI (HX6.out.trans hx7)
   have HB7 := hI (hx7.blk HB6.out)
   have HA7 := hI (hx7.blk HA6.out)
   obtain ⟨f0, f1, f2, f3, ff⟩ := blk4c HA7.out
   have hlt7 := blk_lt HA7.out
   clear hx7 g0 g1 g2 g3 gf hlt6
   cases M2
   ·have HQ := hI (show R = 1 by rw [HR2.out, itsErr_hit hkl HNO.out (by rw [HE2.out (by simp) (by simp)]; omega)]; exact HE2.out (by simp) (by simp))
    go_wp2_with fail
    go_ret
    exact givesE_of (by rw [HQ.out]) HX7.out
   go_wp2_with fail
   refine (HM3.out _).mono ?_
   rintro e w8 ⟨rfl, hx8⟩
   have HX8 := hI (HX7.out.trans hx8)
   have HB8 := hI (hx8.blk HB7.out)
   clear hx8 f0 f1 f2 f3 ff hlt7
   cases M3
   ·have HQ := hI (show R = 1 by rw [HR2.out, itsErr_hit hkl HNO.out (by rw [HE2.out (by simp) (by simp)]; omega)]; exact HE2.out (by simp) (by simp))
    go_wp2_with fail
    go_ret
    exact givesE_of (by rw [HQ.out]) HX8.out
   have HZ := hI (HE3.out (by simp) (by simp))
   go_wp2_with fail
   go_roundw
   case rel =>
    refine ⟨k + 1, by go_num, by omega, fun j hj hjk => ?_, HB8.out, HX8.out⟩
    by_cases e : j = k
    ·subst e; exact HZ.out
    exact HNO.out j hj (by omega)
   case measure => simp [intOf]; omega
  have t1 : decide ((k : Int) < (n : Int)) = false := decide_eq_false (by omega)
  have HQ := hI (show R = 0 by rw [HR2.out]; exact itsErr_zero fun j hj => HNO.out j hj (by have := HN.out; omega))
  go_wp2_with fail
  go_ret
  exact givesE_of (by rw [HQ.out]) HX.out
theorem elemIt : ElemT 28 72 (.agg #[.slice none 0 0, .int .i64 0, .int .i64 0, .int .i64 0]) 4 48 := ⟨by kernel_rfl, by kernel_rfl, rfl, by decide⟩
def ItmOk (attrs : List Attr) (x : It) : Prop := itErr attrs x = 0 /\ x.facts.length <= 1000
theorem itmOk_of {attrs : List Attr} {f : ZI} {a b c : Int} (h : factsB attrs f = true) (hl : f.length <= 1000) (a0 : 0 <= a) (a1 : a < 1073741825) (b0 : 0 <= b) (b1 : b < 1073741825) (c0 : 0 <= c) (c1 : c < 1073741825) : ItmOk attrs ⟨f, a, b, c⟩ := by
 refine ⟨itErr_ok h ?_, hl⟩
 unfold moneyB inB
 simp only [Bool.and_eq_true, decide_eq_true_eq]
 omega
def ItsQ (attrs : List Attr) (w0 : World) (bd n : Nat) (M : ZN) (w : World) (e : Ending) (w' : World) : Prop := ∃ (l : List It) (a : OA) (c : Nat), e = .returned (.slice a l.length c) /\ (∀ x ∈ l, ItmOk attrs x) /\ l.length <= n /\ IsIts (mask w' M) l a l.length c /\ DeckAt w0 w' bd /\ Chg [bd] w w'
def ItsP (attrs : List Attr) (w0 w : World) (bd bs base n : Nat) (M : ZN) (o : Obj) (v : Value) (K : Int) (vs : List ItV) (wr : World) : Prop := 0 <= K /\ vs.length + K <= n /\ (∀ u ∈ vs, ItmOk attrs u.x /\ IsIntF (mask wr (bd :: rowOf v ++ M)) u.x.facts u.a u.n) /\ wr.ownsRow base 72 4 v vs.length (vs.flatMap ItV.cells) /\ wr.heap[bs]? = some o /\ DeckAt w0 wr bd /\ Chg [bd] w wr
def ItsL (attrs : List Attr) (w0 w : World) (bd bs base n : Nat) (M : ZN) (o : Obj) (v i : Value) (wr : World) : Prop := ∃ (K : Int) (vs : List ItV), i = .int .i64 K /\ ItsP attrs w0 w bd bs base n M o v K vs wr
theorem its_own {w : World} {M : ZN} {base : Nat} {v : Value} {vs : List ItV} (h : w.ownsRow base 72 4 v vs.length (vs.flatMap ItV.cells)) (hM : ∀ k, v.ownBlock = some k -> k ∉ M) (hi : ∀ u ∈ vs, IsIntF (mask w M) u.x.facts u.a u.n) : ∃ a c, v = .slice a vs.length c /\ IsIts (mask w M) (vs.map (·.x)) a (vs.map (·.x)).length c := by
 obtain ⟨a, c, rfl, hr⟩ := IsRows.of_owns (f := ItV.cells) (fun _ => rfl) h
 refine ⟨a, c, rfl, vs, ?_, rfl, hi⟩
 rw [List.length_map]
 refine ⟨rfl, hr.2.1, hr.2.2.1, fun i hi => ?_⟩
 obtain ⟨b, off, rfl, hc⟩ := hr.2.2.2 i hi
 refine ⟨b, off, rfl, fun j hj => ?_⟩
 rw [mask_cell, if_neg (hM _ rfl)]
 exact hc j hj
theorem own_snocIt {w : World} {base : Nat} {v : Value} {vs : List ItV} {k : Nat} {u : ItV} (hk : k = vs.length) (h : w.ownsRow base 72 4 v (k + 1) (vs.flatMap ItV.cells ++ (#[Value.slice u.a u.n u.c, .int .i64 u.x.value, .int .i64 u.x.sum, .int .i64 u.x.gross] : Array Value).toList)) : w.ownsRow base 72 4 v (vs ++ [u]).length ((vs ++ [u]).flatMap ItV.cells) := by
 have : (vs ++ [u]).length = k + 1 := by simp [hk]
 rw [this]
 simpa [ItV.cells] using h
theorem isIntF_mono {w w' : World} {f : ZI} {a : OA} {n : Nat} (h : IsIntF w f a n) (hs : Sub w w') : IsIntF w' f a n := h.mono hs
theorem items_calls {attrs : List Attr} (h0 : schemaErr attrs = 0) (hf : ∀ x ∈ attrs, x.fits) {w0 w : World} {bd : Nat} (hd : DeckAt w0 w bd) (sa : OA) (sn sc : Nat) (M : ZN) (hs : IsSchema (mask w [bd]) attrs (.agg #[.slice sa sn sc])) (hM : ∀ y ∈ M, y < w.heap.size) (n : Nat) (hn : n <= 1000) :
  Calls Tryz.prog 54 #[.pointer (some ⟨bd, 0, none⟩), .agg #[.slice sa sn sc], .int .i64 n] w (ItsQ attrs w0 bd n M w) := by
 have hbw := hd.lt
 have HD := hI hd
 have HM := hI hM
 have HFC := hI (fun (M' : ZN) W (hW : Chg [bd] w W) (hdW : DeckAt w0 W bd) (hM' : ∀ y ∈ M', y < W.heap.size) => dfacts_calls h0 hf hdW sa sn sc M' (hs.mono (mask_step hW (by simp))) hM')
 have HW0 := hI (show w0.heap.size <= w.heap.size by obtain ⟨_, _, _, _, _, _, _, _, hxw, _⟩ := hd; exact hxw.size)
 have HFB := hI (fun (f : ZI) (h : factsAll attrs f = true) => (show factsB attrs f = true by unfold factsB; rw [h0, h]; rfl))
 clear hs hM hf hd
 obtain ⟨wa, hwa⟩ : ∃ wa, wa = w.alloc (.cells #[.slice sa sn sc] 24) := ⟨_, rfl⟩
 have hxa : Ext w wa := by rw [hwa]; exact (Ext.refl _).alloc _
 have HB0 := hI (show wa.heap[w.heap.size]? = some (.cells #[.slice sa sn sc] 24 (0, 0)) by rw [hwa]; exact alloc_new w _)
 have HDA := hI (HD.out.ext hxa)
 have HCA := hI (hxa.chg [bd])
 clear hxa
 go_enter Tryz.func54, Tryz.ntmps54
 go_upto_region 1 with fail
 rw [<- hwa]
 clear hwa
 go_wp2_with fail
 refine (next_calls HDA.out ((n : Int) + 1) (by omega) (by omega)).mono ?_
 rintro r w1 ⟨q, rfl, hq0, hq1, hd1, hc1⟩
 have HD1 := hI hd1
 have HC1 := hI (HCA.out.then hc1)
 have HB1 := hI (hc1.blk HB0.out (by simp; omega))
 clear hd1 hc1
 go_wp2_with fail
 go_loopw [7, 8] (ItsL attrs w0 w bd w.heap.size (w.heap.size + 1) n M (.cells #[.slice sa sn sc] 24 (0, 0))) (fun _ i _ => (intOf i).toNat)
 case atStart => exact ⟨q, [], rfl, hq0, by simp; omega, fun u h => by simp at h, ⟨rfl, Or.inl ⟨rfl, rfl⟩⟩, HB1.out, HD1.out, HC1.out⟩
 case round =>
  obtain ⟨K, vs, rfl, hk0, hkn, hall, hown, hb0, hd, hc⟩ := hrel
  obtain ⟨wo, rfl⟩ : ∃ wo : World, wo = wr := ⟨_, rfl⟩
  obtain ⟨k, hkf⟩ : ∃ k, k = vs.length := ⟨_, rfl⟩
  rw [<- hkf] at hown hkn
  have HKF := hI hkf
  have HALL := hI hall
  have HOWN := hI hown
  have HBB := hI hb0
  have HDR := hI hd
  have HCR := hI hc
  obtain ⟨e0, ef⟩ := blk1 hb0
  have HRO := hI (show ∀ z ∈ rowOf u7, w.heap.size + 1 <= z /\ z < wo.heap.size from fun z hz => ⟨(hown.lt z (mem_rowOf.1 hz)).1, (hown.lt z (mem_rowOf.1 hz)).2⟩)
  clear hkf hall hown hb0 hd hc
  by_cases hkp : 0 < K
  ·have t1 : decide (0 < K) = true := decide_eq_true hkp
   have hMR : ∀ y ∈ bd :: rowOf u7 ++ M, y < wo.heap.size := by
    intro y hy
    simp only [List.cons_append, List.mem_cons, List.mem_append] at hy
    have := HCR.out.size
    rcases hy with h | h | h
    ·omega
    ·exact (HRO.out y h).2
    have := HM.out y h; omega
   have HF1 := hI (HFC.out (bd :: rowOf u7 ++ M) wo HCR.out HDR.out hMR)
   clear hMR
   go_wp2_with fail
   refine HF1.out.mono ?_
   rintro r w1 ⟨f, fa, fc, rfl, hfa, hfl, hfi, hd1, hc1⟩
   have HFA := hI hfa
   have HFI1 := hI hfi
   have HD1 := hI hd1
   have HC1 := hI hc1
   have HFL := hI hfl
   obtain ⟨fl, hfln⟩ : ∃ fl, fl = f.length := ⟨_, rfl⟩
   rw [<- hfln]
   have HFLN := hI hfln
   clear hfa hfi hd1 hc1 e0 ef hfl hfln
   go_wp2_with fail
   refine (money_calls HD1.out).mono ?_
   rintro r w2 ⟨m1, rfl, hm10, hm11, hd2, hc2⟩
   have HD2 := hI hd2
   have HC2 := hI (HC1.out.then hc2)
   have HC22 := hI hc2
   clear hd2 hc2
   go_wp2_with fail
   refine (money_calls HD2.out).mono ?_
   rintro r w3 ⟨m2, rfl, hm20, hm21, hd3, hc3⟩
   have HD3 := hI hd3
   have HC3 := hI (HC2.out.then hc3)
   have HC24 := hI (HC22.out.then hc3)
   clear hd3 hc3
   go_wp2_with fail
   refine (money_calls HD3.out).mono ?_
   rintro r w4 ⟨m3, rfl, hm30, hm31, hd4, hc4⟩
   have HD4 := hI hd4
   have HC4 := hI (HC3.out.then hc4)
   have HC14 := hI (HC24.out.then hc4)
   clear hd4 hc4
   have HOK := hI (itmOk_of (HFB.out f HFA.out) HFL.out hm10 hm11 hm20 hm21 hm30 hm31)
   have hsx := (HCR.out.then HC4.out).size
   have HO4 := hI (owns_chg HOWN.out HC4.out (fun q hq hm => by have := (HRO.out q (mem_rowOf.2 hq)).1; simp only [List.mem_singleton] at hm; omega))
   have HB4 := hI (HC4.out.blk HBB.out (by simp; omega))
   have hbl4 := blk_lt HB4.out
   go_wp2_with (at_builtin; refine wpList_append_at elemIt rfl _ _ rfl (w.heap.size + 1) _ k _ rfl HO4.out _ 1 1 rfl ?f0 rfl ?f1 ?f2 ?f3 ?f4 ?_)
   case f0 => simp
   case f1 => simp [Value.oneCell']
   case f2 => unfold maxLen; omega
   case f3 => omega
   case f4 => omega
   intro v8 w8 hown8 hc8 hw8
   have hnb : bd ∉ rowOf u7 := fun hm => by have := (HRO.out _ hm).1; omega
   have HO8 := hI (own_snocIt (u := ⟨⟨f, m1, m2, m3⟩, fa, fl, fc⟩) HKF.out hown8)
   have HB8 := hI (hc8.blk HB4.out (fun hm => by have := (HRO.out _ hm).1; omega))
   have HD8 := hI (HD4.out.chg hc8 hnb (fun y hy => by have := (HRO.out _ hy).1; have := HW0.out; omega))
   have HC8 := hI ((HCR.out.then HC4.out).trans hc8 (fun y hy => Or.inr (by have := (HRO.out _ hy).1; omega)))
   have HKP := hI (keep_rows (bd := bd) (M := M) hc8 hw8)
   have HI8 := hI (show ∀ u ∈ vs ++ [⟨⟨f, m1, m2, m3⟩, fa, fl, fc⟩], ItmOk attrs u.x /\ IsIntF (mask w8 (bd :: rowOf v8 ++ M)) u.x.facts u.a u.n by
    intro u hu
    rcases List.mem_append.1 hu with h | h
    ·obtain ⟨g1, g2⟩ := HALL.out u h
     exact ⟨g1, isIntF_mono g2 (((mask_step HC4.out (by simp))).trans HKP.out)⟩
    simp only [List.mem_singleton] at h
    subst h
    exact ⟨HOK.out, by rw [HFLN.out]; exact isIntF_mono HFI1.out ((mask_step HC14.out (by simp)).trans HKP.out)⟩)
   obtain ⟨a8, c8, hv8⟩ := owns_formG hown8
   subst hv8
   clear hown8 hc8 hw8
   go_wp2_with fail
   go_roundw
   case rel => exact ⟨K - 1, vs ++ [⟨⟨f, m1, m2, m3⟩, fa, fl, fc⟩], rfl, by omega, by rw [List.length_append, <- HKF.out]; simp; omega, HI8.out, HO8.out, HB8.out, HD8.out, HC8.out⟩
   case measure => simp [intOf]; omega
  have t1 : decide (0 < K) = false := decide_eq_false hkp
  have hos := HOWN.out
  rw [HKF.out] at hos
  obtain ⟨a', c', rfl, hii⟩ := its_own (M := M) hos (fun z hz hm => by have := (HRO.out z (mem_rowOf.2 hz)).1; have := HM.out z hm; omega) (fun u hu => isIntF_mono (HALL.out u hu).2 (mask_less _ (fun y hy => by simp [hy])))
  have HII := hI hii
  have HLN := hI (show (vs.map (·.x)).length = vs.length by simp)
  clear hos hii
  go_wp2_with fail
  go_ret
  refine ⟨vs.map (·.x), a', c', (by rw [HLN.out]; rfl), fun x hx => ?_, by rw [HLN.out, <- HKF.out]; omega, HII.out, HDR.out, HCR.out⟩
  obtain ⟨u, hu, rfl⟩ := List.mem_map.1 hx
  exact (HALL.out u hu).1
def idxE (o : Option Nat) : Int := match o with | some k => k | none => -1
theorem findE_hit {P : Ev -> Bool} {l : List Ev} {k : Nat} (hk : k < l.length) (h : P l[k] = true) (h0 : ∀ j (hj : j < l.length), j < k -> P l[j] = false) : l.findIdx? P = some k := by
 rw [List.findIdx?_eq_some_iff_getElem]
 exact ⟨hk, h, fun j hj => by rw [h0 j (by omega) hj]; simp⟩
theorem findE_miss {P : Ev -> Bool} {l : List Ev} (h0 : ∀ j (hj : j < l.length), P l[j] = false) : l.findIdx? P = none := by
 rw [List.findIdx?_eq_none_iff]
 intro x hx
 obtain ⟨j, hj, rfl⟩ := List.getElem_of_mem hx
 exact h0 j hj
def sameP (t : Int) (y : Ev) : Bool := y.number == t
def cloV (B : Nat) : Value := .func (.func 65) #[] #[.pointer (some ⟨B, 0, none⟩)]
theorem clo_calls (v : EvV) (t : Int) (B : Nat) (w : World) (hB : w.heap[B]? = some (.cells #[.int .i64 t] 134 (0, 0))) :
  Calls Tryz.prog 65 #[v.val, .pointer (some ⟨B, 0, none⟩)] w (GivesE (.bool (v.x.number == t)) w) := by
 unfold EvV.val
 obtain ⟨wa, hwa⟩ : ∃ wa, wa = w.alloc (.cells #[.int .i64 v.x.number, .int .i64 v.x.known, .int .i64 v.x.kind, .slice v.a v.n v.c, .int .i64 v.x.cur, .int .i64 v.x.amount, .int .i64 v.x.target] 30) := ⟨_, rfl⟩
 have HXA := hI (show Ext w wa by rw [hwa]; exact (Ext.refl _).alloc _)
 obtain ⟨f0, f1, f2, f3, f4, f5, f6, ff⟩ := blk7 (show wa.heap[w.heap.size]? = some (.cells #[.int .i64 v.x.number, .int .i64 v.x.known, .int .i64 v.x.kind, .slice v.a v.n v.c, .int .i64 v.x.cur, .int .i64 v.x.amount, .int .i64 v.x.target] 30 (0, 0)) by rw [hwa]; exact alloc_new w _)
 obtain ⟨g0, gf⟩ := blk1 (HXA.out.blk hB)
 clear hB
 go_enter Tryz.func65, Tryz.ntmps65
 go_upto_region 1 with fail
 rw [<- hwa]
 clear hwa
 go_wp2_with fail
 go_ret
 exact ⟨rfl, HXA.out⟩
theorem indexE_calls (l : List Ev) (a : OA) (n c : Nat) (t : Int) (B : Nat) (w : World) (hi : IsEvs w l a n c) (hn2 : n <= 1000000000000000) (hB : w.heap[B]? = some (.cells #[.int .i64 t] 134 (0, 0))) :
  Calls Tryz.prog 105 #[.slice a n c, cloV B] w (GivesE (.int .i64 (idxE (l.findIdx? (sameP t)))) w) := by
 have HI := hI hi
 have HN := hI hi.len
 have HB := hI hB
 obtain ⟨R, hR⟩ : ∃ R, R = idxE (l.findIdx? (sameP t)) := ⟨_, rfl⟩
 rw [<- hR]
 have HR := hI hR
 clear hi hB hR
 unfold cloV
 go_enter Tryz.func105, Tryz.ntmps105
 go_wp2_with fail
 go_loopw [8] (fun i wr => ∃ k : Nat, i = .int .i64 k /\ k <= n /\ (∀ j (h : j < l.length), j < k -> sameP t l[j] = false) /\ Ext w wr) (fun i _ => n - (intOf i).toNat)
 case atStart => exact ⟨0, rfl, by omega, fun j _ h => by omega, Ext.refl _⟩
 case round =>
  obtain ⟨k, rfl, hk, hno, hxr⟩ := hrel
  obtain ⟨wo, rfl⟩ : ∃ wo : World, wo = wr := ⟨_, rfl⟩
  have HNO := hI hno
  have HXR := hI hxr
  clear hno hxr
  by_cases hkn : k < n
  ·have hkl : k < l.length := by have := HN.out; omega
   have t1 : decide ((k : Int) < (n : Int)) = true := decide_eq_true (by omega)
   obtain ⟨b, off, v, rfl, hvx, hits, hrow⟩ := (HI.out.ext HXR.out).at hkl
   obtain ⟨c0, c1, c2, c3, c4, c5, c6⟩ := hrow.seven
   have HC := hI (clo_calls v t B wo (HXR.out.blk HB.out))
   unfold EvV.val at HC
   obtain ⟨E, hE⟩ : ∃ E, E = (v.x.number == t) := ⟨_, rfl⟩
   rw [<- hE] at HC
   have HEQ := hI (show sameP t l[k] = E by rw [hE, <- hvx]; rfl)
   clear hE hvx hits hrow
   go_wp2_with fail
   refine HC.out.mono ?_
   rintro r w3 ⟨rfl, hx3⟩
   have HX3 := hI (HXR.out.trans hx3)
   clear hx3 c0 c1 c2 c3 c4 c5 c6
   cases E
   ·go_wp2_with fail
    go_roundw
    case rel =>
     refine ⟨k + 1, by go_num, by omega, fun j hj hjk => ?_, HX3.out⟩
     by_cases e : j = k
     ·subst e; exact HEQ.out
     exact HNO.out j hj (by omega)
    case measure => simp [intOf]; omega
   have HF := hI (show R = (k : Int) by rw [HR.out, findE_hit hkl HEQ.out fun j hj hjk => HNO.out j hj hjk]; rfl)
   go_wp2_with fail
   go_ret
   exact givesE_of (by rw [HF.out]) HX3.out
  have t1 : decide ((k : Int) < (n : Int)) = false := decide_eq_false (by omega)
  have HF := hI (show R = -1 by rw [HR.out, findE_miss fun j hj => HNO.out j hj (by have := HN.out; omega)]; rfl)
  go_wp2_with fail
  go_ret
  exact givesE_of (by rw [HF.out]) HXR.out
theorem containsE_calls (l : List Ev) (a : OA) (n c : Nat) (t : Int) (B : Nat) (w : World) (hi : IsEvs w l a n c) (hn2 : n <= 1000000000000000) (hB : w.heap[B]? = some (.cells #[.int .i64 t] 134 (0, 0))) :
  Calls Tryz.prog 64 #[.slice a n c, cloV B] w (GivesE (.bool (l.any (fun y => y.number == t))) w) := by
 have HI := hI (indexE_calls l a n c t B w hi hn2 hB)
 obtain ⟨R, hR⟩ : ∃ R, R = l.any (fun y => y.number == t) := ⟨_, rfl⟩
 rw [<- hR]
 have HR := hI hR
 clear hi hR hB
 unfold cloV at *
 cases hf : l.findIdx? (sameP t) with
 | none =>
  rw [hf] at HI
  have HF := hI (show R = false by
   rw [HR.out, List.any_eq_false]
   intro x hx
   rw [List.findIdx?_eq_none_iff] at hf
   have := hf x hx
   simpa [sameP] using this)
  unfold idxE at HI
  go_enter Tryz.func64, Tryz.ntmps64
  go_wp2_with fail
  refine HI.out.mono ?_
  rintro r w3 ⟨rfl, hx3⟩
  have HX3 := hI hx3
  clear hx3
  go_wp2_with fail
  go_ret
  exact givesE_bool (by rw [HF.out]) HX3.out
 | some k =>
  rw [hf] at HI
  have HF := hI (show R = true by
   rw [HR.out, List.any_eq_true]
   rw [List.findIdx?_eq_some_iff_getElem] at hf
   obtain ⟨hk, h1, _⟩ := hf
   exact ⟨_, List.getElem_mem hk, h1⟩)
  have t1 : decide ((0 : Int) <= (k : Int)) = true := decide_eq_true (by omega)
  unfold idxE at HI
  go_enter Tryz.func64, Tryz.ntmps64
  go_wp2_with fail
  refine HI.out.mono ?_
  rintro r w3 ⟨rfl, hx3⟩
  have HX3 := hI hx3
  clear hx3
  go_wp2_with fail
  go_ret
  exact givesE_bool (by rw [HF.out]) HX3.out
theorem ta_rep_rep (v : Value) (W : World) : (Instr.typeAssert (.iface 98 v) 20 98 true).run Tryz.prog W = .ok (.tuple #[v, .bool true]) W := by kernel_rfl
theorem ta_rep_ass (v : Value) (W : World) : (Instr.typeAssert (.iface 98 v) 20 99 true).run Tryz.prog W = .ok (.tuple #[.agg #[.slice none 0 0], .bool false]) W := by kernel_rfl
theorem ta_rep_pay (v : Value) (W : World) : (Instr.typeAssert (.iface 98 v) 20 131 true).run Tryz.prog W = .ok (.tuple #[.agg #[.int .i64 0, .int .i64 0], .bool false]) W := by kernel_rfl
theorem ta_rep_rec (v : Value) (W : World) : (Instr.typeAssert (.iface 98 v) 20 132 true).run Tryz.prog W = .ok (.tuple #[.agg #[.int .i64 0, .int .i64 0], .bool false]) W := by kernel_rfl
theorem ta_rep_voi (v : Value) (W : World) : (Instr.typeAssert (.iface 98 v) 20 134 true).run Tryz.prog W = .ok (.tuple #[.agg #[.int .i64 0], .bool false]) W := by kernel_rfl
theorem ta_ass_rep (v : Value) (W : World) : (Instr.typeAssert (.iface 99 v) 20 98 true).run Tryz.prog W = .ok (.tuple #[.agg #[.slice none 0 0], .bool false]) W := by kernel_rfl
theorem ta_ass_ass (v : Value) (W : World) : (Instr.typeAssert (.iface 99 v) 20 99 true).run Tryz.prog W = .ok (.tuple #[v, .bool true]) W := by kernel_rfl
theorem ta_ass_pay (v : Value) (W : World) : (Instr.typeAssert (.iface 99 v) 20 131 true).run Tryz.prog W = .ok (.tuple #[.agg #[.int .i64 0, .int .i64 0], .bool false]) W := by kernel_rfl
theorem ta_ass_rec (v : Value) (W : World) : (Instr.typeAssert (.iface 99 v) 20 132 true).run Tryz.prog W = .ok (.tuple #[.agg #[.int .i64 0, .int .i64 0], .bool false]) W := by kernel_rfl
theorem ta_ass_voi (v : Value) (W : World) : (Instr.typeAssert (.iface 99 v) 20 134 true).run Tryz.prog W = .ok (.tuple #[.agg #[.int .i64 0], .bool false]) W := by kernel_rfl
theorem ta_pay_rep (v : Value) (W : World) : (Instr.typeAssert (.iface 131 v) 20 98 true).run Tryz.prog W = .ok (.tuple #[.agg #[.slice none 0 0], .bool false]) W := by kernel_rfl
theorem ta_pay_ass (v : Value) (W : World) : (Instr.typeAssert (.iface 131 v) 20 99 true).run Tryz.prog W = .ok (.tuple #[.agg #[.slice none 0 0], .bool false]) W := by kernel_rfl
theorem ta_pay_pay (v : Value) (W : World) : (Instr.typeAssert (.iface 131 v) 20 131 true).run Tryz.prog W = .ok (.tuple #[v, .bool true]) W := by kernel_rfl
theorem ta_pay_rec (v : Value) (W : World) : (Instr.typeAssert (.iface 131 v) 20 132 true).run Tryz.prog W = .ok (.tuple #[.agg #[.int .i64 0, .int .i64 0], .bool false]) W := by kernel_rfl
theorem ta_pay_voi (v : Value) (W : World) : (Instr.typeAssert (.iface 131 v) 20 134 true).run Tryz.prog W = .ok (.tuple #[.agg #[.int .i64 0], .bool false]) W := by kernel_rfl
theorem ta_rec_rep (v : Value) (W : World) : (Instr.typeAssert (.iface 132 v) 20 98 true).run Tryz.prog W = .ok (.tuple #[.agg #[.slice none 0 0], .bool false]) W := by kernel_rfl
theorem ta_rec_ass (v : Value) (W : World) : (Instr.typeAssert (.iface 132 v) 20 99 true).run Tryz.prog W = .ok (.tuple #[.agg #[.slice none 0 0], .bool false]) W := by kernel_rfl
theorem ta_rec_pay (v : Value) (W : World) : (Instr.typeAssert (.iface 132 v) 20 131 true).run Tryz.prog W = .ok (.tuple #[.agg #[.int .i64 0, .int .i64 0], .bool false]) W := by kernel_rfl
theorem ta_rec_rec (v : Value) (W : World) : (Instr.typeAssert (.iface 132 v) 20 132 true).run Tryz.prog W = .ok (.tuple #[v, .bool true]) W := by kernel_rfl
theorem ta_rec_voi (v : Value) (W : World) : (Instr.typeAssert (.iface 132 v) 20 134 true).run Tryz.prog W = .ok (.tuple #[.agg #[.int .i64 0], .bool false]) W := by kernel_rfl
theorem ta_clo_rep (v : Value) (W : World) : (Instr.typeAssert (.iface 167 v) 20 98 true).run Tryz.prog W = .ok (.tuple #[.agg #[.slice none 0 0], .bool false]) W := by kernel_rfl
theorem ta_clo_ass (v : Value) (W : World) : (Instr.typeAssert (.iface 167 v) 20 99 true).run Tryz.prog W = .ok (.tuple #[.agg #[.slice none 0 0], .bool false]) W := by kernel_rfl
theorem ta_clo_pay (v : Value) (W : World) : (Instr.typeAssert (.iface 167 v) 20 131 true).run Tryz.prog W = .ok (.tuple #[.agg #[.int .i64 0, .int .i64 0], .bool false]) W := by kernel_rfl
theorem ta_clo_rec (v : Value) (W : World) : (Instr.typeAssert (.iface 167 v) 20 132 true).run Tryz.prog W = .ok (.tuple #[.agg #[.int .i64 0, .int .i64 0], .bool false]) W := by kernel_rfl
theorem ta_clo_voi (v : Value) (W : World) : (Instr.typeAssert (.iface 167 v) 20 134 true).run Tryz.prog W = .ok (.tuple #[.agg #[.int .i64 0], .bool false]) W := by kernel_rfl
theorem ta_reo_rep (v : Value) (W : World) : (Instr.typeAssert (.iface 168 v) 20 98 true).run Tryz.prog W = .ok (.tuple #[.agg #[.slice none 0 0], .bool false]) W := by kernel_rfl
theorem ta_reo_ass (v : Value) (W : World) : (Instr.typeAssert (.iface 168 v) 20 99 true).run Tryz.prog W = .ok (.tuple #[.agg #[.slice none 0 0], .bool false]) W := by kernel_rfl
theorem ta_reo_pay (v : Value) (W : World) : (Instr.typeAssert (.iface 168 v) 20 131 true).run Tryz.prog W = .ok (.tuple #[.agg #[.int .i64 0, .int .i64 0], .bool false]) W := by kernel_rfl
theorem ta_reo_rec (v : Value) (W : World) : (Instr.typeAssert (.iface 168 v) 20 132 true).run Tryz.prog W = .ok (.tuple #[.agg #[.int .i64 0, .int .i64 0], .bool false]) W := by kernel_rfl
theorem ta_reo_voi (v : Value) (W : World) : (Instr.typeAssert (.iface 168 v) 20 134 true).run Tryz.prog W = .ok (.tuple #[.agg #[.int .i64 0], .bool false]) W := by kernel_rfl
theorem ta_voi_rep (v : Value) (W : World) : (Instr.typeAssert (.iface 134 v) 20 98 true).run Tryz.prog W = .ok (.tuple #[.agg #[.slice none 0 0], .bool false]) W := by kernel_rfl
theorem ta_voi_ass (v : Value) (W : World) : (Instr.typeAssert (.iface 134 v) 20 99 true).run Tryz.prog W = .ok (.tuple #[.agg #[.slice none 0 0], .bool false]) W := by kernel_rfl
theorem ta_voi_pay (v : Value) (W : World) : (Instr.typeAssert (.iface 134 v) 20 131 true).run Tryz.prog W = .ok (.tuple #[.agg #[.int .i64 0, .int .i64 0], .bool false]) W := by kernel_rfl
theorem ta_voi_rec (v : Value) (W : World) : (Instr.typeAssert (.iface 134 v) 20 132 true).run Tryz.prog W = .ok (.tuple #[.agg #[.int .i64 0, .int .i64 0], .bool false]) W := by kernel_rfl
theorem ta_voi_voi (v : Value) (W : World) : (Instr.typeAssert (.iface 134 v) 20 134 true).run Tryz.prog W = .ok (.tuple #[v, .bool true]) W := by kernel_rfl
theorem evErr_range {s : List Attr} {l : List Ev} {x : Ev} (h : inB 1 1048576 x.number = false \/ inB 0 876599 x.known = false) : evErr s l x = 1 := by unfold evErr; rw [if_pos h]
theorem evErr_order {s : List Attr} {l : List Ev} {x : Ev} (h1 : inB 1 1048576 x.number = true) (h2 : inB 0 876599 x.known = true) (h : orderB l x = true) : evErr s l x = 13 := by
 unfold evErr; rw [if_neg (by simp [h1, h2]), if_pos h]
theorem evErr_kind {s : List Attr} {l : List Ev} {x : Ev} (h1 : inB 1 1048576 x.number = true) (h2 : inB 0 876599 x.known = true) (h3 : orderB l x = false) (h : inB 1 7 x.kind = false) : evErr s l x = 11 := by
 unfold evErr; rw [if_neg (by simp [h1, h2]), if_neg (by simp [h3]), if_pos h]
theorem evErr_field {s : List Attr} {l : List Ev} {x : Ev} (h1 : inB 1 1048576 x.number = true) (h2 : inB 0 876599 x.known = true) (h3 : orderB l x = false) (h4 : inB 1 7 x.kind = true) (h : fieldB x = true) : evErr s l x = 20 := by
 unfold evErr; rw [if_neg (by simp [h1, h2]), if_neg (by simp [h3]), if_neg (by simp [h4]), if_pos h]
theorem evErr_part {s : List Attr} {l : List Ev} {x : Ev} (h1 : inB 1 1048576 x.number = true) (h2 : inB 0 876599 x.known = true) (h3 : orderB l x = false) (h4 : inB 1 7 x.kind = true) (h : fieldB x = false) : evErr s l x = partErr s l x := by
 unfold evErr; rw [if_neg (by simp [h1, h2]), if_neg (by simp [h3]), if_neg (by simp [h4]), if_neg (by simp [h])]
theorem order_at {l : List Ev} {x : Ev} {m : Nat} (hm : l.length = m + 1) (hk : m < l.length) : orderB l x = (decide (x.number <= l[m].number) || decide (x.known < l[m].known)) := by
 unfold orderB
 have e : l.getLast? = some l[m] := by
  rw [List.getLast?_eq_getElem?, hm, Nat.add_sub_cancel, List.getElem?_eq_getElem hk]
 rw [e]
theorem validate_calls (s : List Attr) (v : Value) (l : List Ev) (a : OA) (n c : Nat) (ev : EvV) (w : World) (hs : IsSchema w s v) (hf : ∀ x ∈ s, x.fits) (hl : s.length <= 1000000000000000) (hi : IsEvs w l a n c) (hn2 : n <= 1000000000000000) (hit : IsIts w ev.x.items ev.a ev.n ev.c) (hin : ev.n <= 1000000000000000) (hfl : ∀ x ∈ ev.x.items, x.facts.length <= 1000000000000000) :
  Calls Tryz.prog 32 #[v, .slice a n c, ev.val] w (GivesE (.int .i64 (evErr s l ev.x)) w) := by
 obtain ⟨sa, sn, sc, rfl, hq1, hq2, hq3, hq4⟩ := hs.parts
 have HI := hI hi
 have HN := hI hi.len
 have HC := hI (fun W (hW : Ext w W) => citems_calls s (.agg #[.slice sa sn sc]) ev.x.items ev.a ev.n ev.c W (hs.ext hW) hf hl (hit.ext hW) hin hfl)
 have HIN := hI hit.len
 obtain ⟨R, hR⟩ : ∃ R, R = evErr s l ev.x := ⟨_, rfl⟩
 rw [<- hR]
 have HR := hI hR
 have HK := hI (fun W => kindOf_calls ev W)
 unfold EvV.val at HK ⊢
 obtain ⟨KV, hKV⟩ : ∃ KV, KV = kindV ev := ⟨_, rfl⟩
 rw [<- hKV] at HK
 have HKV := hI hKV
 have hinn := hin
 clear hs hf hl hi hit hin hfl hR hKV hq1 hq2 hq3 hq4
 obtain ⟨wa, hwa⟩ : ∃ wa, wa = (w.alloc (.cells #[.slice sa sn sc] 24)).alloc (.cells #[.int .i64 ev.x.number, .int .i64 ev.x.known, .int .i64 ev.x.kind, .slice ev.a ev.n ev.c, .int .i64 ev.x.cur, .int .i64 ev.x.amount, .int .i64 ev.x.target] 30) := ⟨_, rfl⟩
 have HXA := hI (show Ext w wa by rw [hwa]; exact ((Ext.refl _).alloc _).alloc _)
 have HS0 := hI (show wa.heap[w.heap.size]? = some (.cells #[.slice sa sn sc] 24 (0, 0)) by rw [hwa]; exact blk_alloc (alloc_new w _))
 have HB0 := hI (show wa.heap[w.heap.size + 1]? = some (.cells #[.int .i64 ev.x.number, .int .i64 ev.x.known, .int .i64 ev.x.kind, .slice ev.a ev.n ev.c, .int .i64 ev.x.cur, .int .i64 ev.x.amount, .int .i64 ev.x.target] 30 (0, 0)) by
  rw [hwa]; have := alloc_new (w.alloc (.cells #[.slice sa sn sc] 24)) (.cells #[.int .i64 ev.x.number, .int .i64 ev.x.known, .int .i64 ev.x.kind, .slice ev.a ev.n ev.c, .int .i64 ev.x.cur, .int .i64 ev.x.amount, .int .i64 ev.x.target] 30); rwa [World.size_alloc] at this)
 have HW1 := hI (fun W => cwithin_calls 1 1048576 ev.x.number W)
 have HW2 := hI (fun W => cwithin_calls 0 876599 ev.x.known W)
 obtain ⟨N1, hN1⟩ : ∃ N1, N1 = inB 1 1048576 ev.x.number := ⟨_, rfl⟩
 obtain ⟨N2, hN2⟩ : ∃ N2, N2 = inB 0 876599 ev.x.known := ⟨_, rfl⟩
 rw [<- hN1] at HW1
 rw [<- hN2] at HW2
 have HN1 := hI hN1
 have HN2 := hI hN2
 clear hN1 hN2
 obtain ⟨f0, f1, f2, f3, f4, f5, f6, ff⟩ := blk7 HB0.out
 go_enter Tryz.func32, Tryz.ntmps32
 go_upto_region 1 with fail
 rw [<- hwa]
 clear hwa
 go_wp2_with fail
 refine (HW1.out wa).mono ?_
 rintro r w1 ⟨rfl, hx1⟩
 have HX1 := hI (HXA.out.trans hx1)
 have HS1 := hI (hx1.blk HS0.out)
 have HB1 := hI (hx1.blk HB0.out)
 obtain ⟨g0, g1, g2, g3, g4, g5, g6, gf⟩ := blk7 HB1.out
 have hlt1 := blk_lt HB1.out
 clear hx1 f0 f1 f2 f3 f4 f5 f6 ff HS0 HB0 HXA HW1
 cases N1
 ·have HQ := hI (HR.out.trans (evErr_range (Or.inl HN1.out.symm)))
  go_wp2_with fail
  go_ret
  exact givesE_of (by rw [HQ.out]) HX1.out
 go_wp2_with fail
 refine (HW2.out w1).mono ?_
 rintro r w2 ⟨rfl, hx2⟩
 have HX2 := hI (HX1.out.trans hx2)
 have HS2 := hI (hx2.blk HS1.out)
 have HB2 := hI (hx2.blk HB1.out)
 obtain ⟨f0, f1, f2, f3, f4, f5, f6, ff⟩ := blk7 HB2.out
 have hlt2 := blk_lt HB2.out
 clear hx2 g0 g1 g2 g3 g4 g5 g6 gf hlt1 HS1 HB1 HX1 HW2
 cases N2
 ·have HQ := hI (HR.out.trans (evErr_range (Or.inr HN2.out.symm)))
  go_wp2_with fail
  go_ret
  exact givesE_of (by rw [HQ.out]) HX2.out
 obtain ⟨O, hO⟩ : ∃ O, O = orderB l ev.x := ⟨_, rfl⟩
 have HOO := hI hO
 clear hO
 go_upto_region 4 with fail
 go_cut [52] (fun s52 wx => s52 = .bool O /\ ∃ q, wx = w2.drewN q)
 case first =>
  rcases (show n = 0 \/ ∃ m, n = m + 1 by cases n with | zero => exact Or.inl rfl | succ m => exact Or.inr ⟨m, rfl⟩) with hn0 | ⟨m, hnm⟩
  ·have t1 : decide (0 < n) = false := decide_eq_false (by omega)
   have HO := hI (show O = false by have e := List.eq_nil_of_length_eq_zero (HN.out.symm.trans hn0); rw [HOO.out, e]; rfl)
   clear hn0
   go_quiet (fail)
   go_wp2_with fail
   go_meet
   case rel => exact ⟨by rw [HO.out], _, rfl⟩
  have hml : m < l.length := by have := HN.out; omega
  have t1 : decide (0 < n) = true := decide_eq_true (by omega)
  have e1 : ((n : Int) - 1) = (m : Int) := by omega
  have e2 : m < n := by omega
  obtain ⟨b, off, u, hab, hux, hits, hrow⟩ := (HI.out.ext HX2.out).at hml
  obtain ⟨c0, c1, c2, c3, c4, c5, c6⟩ := hrow.seven
  have HO1 := hI (order_at (x := ev.x) (HN.out.symm.trans hnm) hml)
  rw [<- hux] at HO1
  subst hab
  clear hux hits hrow hml hnm
  by_cases o1 : ev.x.number <= u.x.number
  ·have t2 : decide (ev.x.number <= u.x.number) = true := decide_eq_true o1
   have HO := hI (show O = true by rw [HOO.out, HO1.out, t2]; rfl)
   clear o1
   go_quiet (fail)
   go_wp2_with fail
   go_meet
   case rel => exact ⟨by rw [HO.out], _, rfl⟩
  obtain ⟨D, hD⟩ : ∃ D, decide (ev.x.known < u.x.known) = D := ⟨_, rfl⟩
  have t2 : decide (ev.x.number <= u.x.number) = false := decide_eq_false o1
  have HO := hI (show O = D by rw [HOO.out, HO1.out, t2, hD]; rfl)
  clear o1
  cases D
  all_goals
   go_quiet (fail)
   go_wp2_with fail
   go_meet
   case rel => exact ⟨by rw [HO.out], _, rfl⟩
 obtain ⟨rfl, q, rfl⟩ := hcut
 cases O
 case true =>
  have HQ := hI (HR.out.trans (evErr_order HN1.out.symm HN2.out.symm HOO.out.symm))
  go_wp2_with fail
  go_ret
  exact givesE_of (by rw [HQ.out]) (HX2.out.drewN _)
 have HO := hI (show orderB l ev.x = false from HOO.out.symm)
 obtain ⟨w3, hw3⟩ : ∃ w3, w3 = w2.drewN q := ⟨_, rfl⟩
 have HX3 := hI (show Ext w w3 by rw [hw3]; exact HX2.out.drewN _)
 have HS3 := hI (show w3.heap[w.heap.size]? = some (.cells #[.slice sa sn sc] 24 (0, 0)) by rw [hw3]; exact HS2.out)
 have HB3 := hI (show w3.heap[w.heap.size + 1]? = some (.cells #[.int .i64 ev.x.number, .int .i64 ev.x.known, .int .i64 ev.x.kind, .slice ev.a ev.n ev.c, .int .i64 ev.x.cur, .int .i64 ev.x.amount, .int .i64 ev.x.target] 30 (0, 0)) by rw [hw3]; exact HB2.out)
 rw [<- hw3]
 clear hw3 f0 f1 f2 f3 f4 f5 f6 ff hlt2 HS2 HB2 HX2
 obtain ⟨f0, f1, f2, f3, f4, f5, f6, ff⟩ := blk7 HB3.out
 have hlt3 := blk_lt HB3.out
 go_wp2_with fail
 refine (HK.out w3).mono ?_
 rintro r w4 ⟨rfl, hx4⟩
 have HX4 := hI (HX3.out.trans hx4)
 have HS4 := hI (hx4.blk HS3.out)
 have HB4 := hI (hx4.blk HB3.out)
 obtain ⟨g0, g1, g2, g3, g4, g5, g6, gf⟩ := blk7 HB4.out
 have hlt4 := blk_lt HB4.out
 obtain ⟨FB, hFB⟩ : ∃ FB, FB = fieldB ev.x := ⟨_, rfl⟩
 have HFB := hI hFB
 clear hFB hx4 f0 f1 f2 f3 f4 f5 f6 ff hlt3 HS3 HB3 HX3 HK
 obtain ⟨A8, hA8⟩ : ∃ A8, A8 = (ev.x.kind == 1 || ev.x.kind == 2) := ⟨_, rfl⟩
 obtain ⟨A9, hA9⟩ : ∃ A9, A9 = (ev.x.kind == 3 || ev.x.kind == 4) := ⟨_, rfl⟩
 obtain ⟨A10, hA10⟩ : ∃ A10, A10 = (ev.x.kind == 7) := ⟨_, rfl⟩
 have HA8 := hI hA8
 have HA9 := hI hA9
 have HA10 := hI hA10
 clear hA8 hA9 hA10
 go_upto_block 0 with fail
 go_cut [8, 9, 10] (fun s8 s9 s10 wx => s8 = .bool A8 /\ s9 = .bool A9 /\ s10 = .bool A10 /\ inB 1 7 ev.x.kind = true /\ wx = w4)
 case first =>
  rcases (by omega : ev.x.kind = 1 \/ ev.x.kind = 2 \/ ev.x.kind = 3 \/ ev.x.kind = 4 \/ ev.x.kind = 5 \/ ev.x.kind = 6 \/ ev.x.kind = 7 \/ (ev.x.kind < 1 \/ 7 < ev.x.kind)) with hk | hk | hk | hk | hk | hk | hk | hk
  ·have e := HKV.out.trans (kindV_1 hk)
   have H1 := hI (show A8 = true /\ A9 = false /\ A10 = false by rw [HA8.out, HA9.out, HA10.out, hk]; exact ⟨rfl, rfl, rfl⟩)
   have HIB := hI (show inB 1 7 ev.x.kind = true by rw [hk]; decide)
   clear HKV hk HA8 HA9 HA10
   subst e
   have q0 := ta_rep_rep
   have q1 := ta_rep_ass
   have q2 := ta_rep_pay
   have q3 := ta_rep_rec
   have q4 := ta_rep_voi
   go_wp2_with fail
   go_meet
   case rel => exact ⟨by rw [H1.out.1], by rw [H1.out.2.1], by rw [H1.out.2.2], HIB.out, rfl⟩
  ·have e := HKV.out.trans (kindV_2 hk)
   have H1 := hI (show A8 = true /\ A9 = false /\ A10 = false by rw [HA8.out, HA9.out, HA10.out, hk]; exact ⟨rfl, rfl, rfl⟩)
   have HIB := hI (show inB 1 7 ev.x.kind = true by rw [hk]; decide)
   clear HKV hk HA8 HA9 HA10
   subst e
   have q0 := ta_ass_rep
   have q1 := ta_ass_ass
   have q2 := ta_ass_pay
   have q3 := ta_ass_rec
   have q4 := ta_ass_voi
   go_wp2_with fail
   go_meet
   case rel => exact ⟨by rw [H1.out.1], by rw [H1.out.2.1], by rw [H1.out.2.2], HIB.out, rfl⟩
  ·have e := HKV.out.trans (kindV_3 hk)
   have H1 := hI (show A8 = false /\ A9 = true /\ A10 = false by rw [HA8.out, HA9.out, HA10.out, hk]; exact ⟨rfl, rfl, rfl⟩)
   have HIB := hI (show inB 1 7 ev.x.kind = true by rw [hk]; decide)
   clear HKV hk HA8 HA9 HA10
   subst e
   have q0 := ta_pay_rep
   have q1 := ta_pay_ass
   have q2 := ta_pay_pay
   have q3 := ta_pay_rec
   have q4 := ta_pay_voi
   go_wp2_with fail
   go_meet
   case rel => exact ⟨by rw [H1.out.1], by rw [H1.out.2.1], by rw [H1.out.2.2], HIB.out, rfl⟩
  ·have e := HKV.out.trans (kindV_4 hk)
   have H1 := hI (show A8 = false /\ A9 = true /\ A10 = false by rw [HA8.out, HA9.out, HA10.out, hk]; exact ⟨rfl, rfl, rfl⟩)
   have HIB := hI (show inB 1 7 ev.x.kind = true by rw [hk]; decide)
   clear HKV hk HA8 HA9 HA10
   subst e
   have q0 := ta_rec_rep
   have q1 := ta_rec_ass
   have q2 := ta_rec_pay
   have q3 := ta_rec_rec
   have q4 := ta_rec_voi
   go_wp2_with fail
   go_meet
   case rel => exact ⟨by rw [H1.out.1], by rw [H1.out.2.1], by rw [H1.out.2.2], HIB.out, rfl⟩
  ·have e := HKV.out.trans (kindV_5 hk)
   have H1 := hI (show A8 = false /\ A9 = false /\ A10 = false by rw [HA8.out, HA9.out, HA10.out, hk]; exact ⟨rfl, rfl, rfl⟩)
   have HIB := hI (show inB 1 7 ev.x.kind = true by rw [hk]; decide)
   clear HKV hk HA8 HA9 HA10
   subst e
   have q0 := ta_clo_rep
   have q1 := ta_clo_ass
   have q2 := ta_clo_pay
   have q3 := ta_clo_rec
   have q4 := ta_clo_voi
   go_wp2_with fail
   go_meet
   case rel => exact ⟨by rw [H1.out.1], by rw [H1.out.2.1], by rw [H1.out.2.2], HIB.out, rfl⟩
  ·have e := HKV.out.trans (kindV_6 hk)
   have H1 := hI (show A8 = false /\ A9 = false /\ A10 = false by rw [HA8.out, HA9.out, HA10.out, hk]; exact ⟨rfl, rfl, rfl⟩)
   have HIB := hI (show inB 1 7 ev.x.kind = true by rw [hk]; decide)
   clear HKV hk HA8 HA9 HA10
   subst e
   have q0 := ta_reo_rep
   have q1 := ta_reo_ass
   have q2 := ta_reo_pay
   have q3 := ta_reo_rec
   have q4 := ta_reo_voi
   go_wp2_with fail
   go_meet
   case rel => exact ⟨by rw [H1.out.1], by rw [H1.out.2.1], by rw [H1.out.2.2], HIB.out, rfl⟩
  ·have e := HKV.out.trans (kindV_7 hk)
   have H1 := hI (show A8 = false /\ A9 = false /\ A10 = true by rw [HA8.out, HA9.out, HA10.out, hk]; exact ⟨rfl, rfl, rfl⟩)
   have HIB := hI (show inB 1 7 ev.x.kind = true by rw [hk]; decide)
   clear HKV hk HA8 HA9 HA10
   subst e
   have q0 := ta_voi_rep
   have q1 := ta_voi_ass
   have q2 := ta_voi_pay
   have q3 := ta_voi_rec
   have q4 := ta_voi_voi
   go_wp2_with fail
   go_meet
   case rel => exact ⟨by rw [H1.out.1], by rw [H1.out.2.1], by rw [H1.out.2.2], HIB.out, rfl⟩
  have e := HKV.out.trans (kindV_0 hk)
  have HQ := hI (HR.out.trans (evErr_kind HN1.out.symm HN2.out.symm HO.out (by unfold inB; rcases hk with h | h <;> simp <;> omega)))
  clear HKV hk HA8 HA9 HA10
  subst e
  go_wp2_with fail
  go_ret
  exact givesE_of (by rw [HQ.out]) HX4.out
 case rest =>
 obtain ⟨rfl, rfl, rfl, hib, rfl⟩ := hcut
 have HIB := hI hib
 clear hib
 obtain ⟨I0, hI0⟩ : ∃ I0, decide (0 < ev.n) = I0 := ⟨_, rfl⟩
 obtain ⟨C1, hC1⟩ : ∃ C1, (ev.x.cur != 0) = C1 := ⟨_, rfl⟩
 obtain ⟨C2, hC2⟩ : ∃ C2, (ev.x.amount != 0) = C2 := ⟨_, rfl⟩
 obtain ⟨T1, hT1⟩ : ∃ T1, (ev.x.target != 0) = T1 := ⟨_, rfl⟩
 have HFE := hI (show FB = ((I0 && !A8) || ((C1 || C2) && !A9) || (T1 && !A10)) by
  rw [HFB.out, HA8.out, HA9.out, HA10.out, <- hI0, <- hC1, <- hC2, <- hT1, HIN.out]; rfl)
 clear HA8 HA9 HA10
 go_upto_region 17 with fail
 go_cut [104] (fun s104 wx => s104 = .bool FB /\ wx = wc)
 case first =>
  have HXC := hI (show (I0 = true /\ A8 = false) \/ ((I0 = false \/ (I0 = true /\ A8 = true)) /\ (((C1 = true \/ (C1 = false /\ C2 = true)) /\ A9 = false) \/ ((C1 = false /\ C2 = false) \/ (C1 = true /\ A9 = true) \/ (C1 = false /\ C2 = true /\ A9 = true)) /\ (T1 = false \/ (T1 = true /\ A10 = true) \/ (T1 = true /\ A10 = false)))) by
   cases I0 <;> cases A8 <;> cases C1 <;> cases C2 <;> cases A9 <;> cases T1 <;> cases A10 <;> simp)
  have hxc := HXC.out
  clear HXC
  rcases hxc with ⟨rfl, rfl⟩ | ⟨rfl | ⟨rfl, rfl⟩, ⟨rfl | ⟨rfl, rfl⟩, rfl⟩ | ⟨⟨rfl, rfl⟩ | ⟨rfl, rfl⟩ | ⟨rfl, rfl, rfl⟩, rfl | ⟨rfl, rfl⟩ | ⟨rfl, rfl⟩⟩⟩
  all_goals
   go_wp2_with fail
   go_meet
   case rel => exact ⟨by rw [HFE.out]; simp, rfl⟩
 case rest =>
 obtain ⟨rfl, rfl⟩ := hcut
 clear HFE hI0 hC1 hC2 hT1
 cases FB
 case true =>
  have HQ := hI (HR.out.trans (evErr_field HN1.out.symm HN2.out.symm HO.out HIB.out HFB.out.symm))
  go_wp2_with fail
  go_ret
  exact givesE_of (by rw [HQ.out]) HX4.out
 have HP := hI (HR.out.trans (evErr_part HN1.out.symm HN2.out.symm HO.out HIB.out HFB.out.symm))
 clear HR
 rcases (by omega : ev.x.kind = 1 \/ ev.x.kind = 2 \/ ev.x.kind = 3 \/ ev.x.kind = 4 \/ ev.x.kind = 5 \/ ev.x.kind = 6 \/ ev.x.kind = 7 \/ (ev.x.kind < 1 \/ 7 < ev.x.kind)) with hk | hk | hk | hk | hk | hk | hk | hk
 ·have e := HKV.out.trans (kindV_1 hk)
  have HQ := hI (show R = itemsErr s ev.x.items by rw [HP.out]; unfold partErr; simp [hk, itemsErr])
  clear HKV hk HP
  subst e
  have q0 := ta_rep_rep
  have q1 := ta_rep_ass
  have q2 := ta_rep_pay
  have q3 := ta_rep_rec
  have q4 := ta_rep_voi
  obtain ⟨w5, hw5⟩ : ∃ w5, w5 = wc.alloc (.cells #[.slice ev.a ev.n ev.c] 98) := ⟨_, rfl⟩
  have HX5 := hI (show Ext w w5 by rw [hw5]; exact HX4.out.alloc _)
  obtain ⟨y0, yf⟩ := blk1 (show w5.heap[wc.heap.size]? = some (.cells #[.slice ev.a ev.n ev.c] 98 (0, 0)) by rw [hw5]; exact alloc_new wc _)
  obtain ⟨z0, zf⟩ := blk1 (show w5.heap[w.heap.size]? = some (.cells #[.slice sa sn sc] 24 (0, 0)) by rw [hw5]; exact blk_alloc HS4.out)
  go_upto_region 22 with fail
  rw [<- hw5]
  clear hw5
  go_wp2_with fail
  refine (HC.out w5 HX5.out).mono ?_
  rintro r w6 ⟨rfl, hx6⟩
  have HX6 := hI (HX5.out.trans hx6)
  clear hx6
  go_wp2_with fail
  go_ret
  exact givesE_of (by rw [HQ.out]) HX6.out
 ·have e := HKV.out.trans (kindV_2 hk)
  have HQ := hI (show R = itemsErr s ev.x.items by rw [HP.out]; unfold partErr; simp [hk, itemsErr])
  clear HKV hk HP
  subst e
  have q0 := ta_ass_rep
  have q1 := ta_ass_ass
  have q2 := ta_ass_pay
  have q3 := ta_ass_rec
  have q4 := ta_ass_voi
  obtain ⟨w5, hw5⟩ : ∃ w5, w5 = wc.alloc (.cells #[.slice ev.a ev.n ev.c] 99) := ⟨_, rfl⟩
  have HX5 := hI (show Ext w w5 by rw [hw5]; exact HX4.out.alloc _)
  obtain ⟨y0, yf⟩ := blk1 (show w5.heap[wc.heap.size]? = some (.cells #[.slice ev.a ev.n ev.c] 99 (0, 0)) by rw [hw5]; exact alloc_new wc _)
  obtain ⟨z0, zf⟩ := blk1 (show w5.heap[w.heap.size]? = some (.cells #[.slice sa sn sc] 24 (0, 0)) by rw [hw5]; exact blk_alloc HS4.out)
  go_upto_region 25 with fail
  rw [<- hw5]
  clear hw5
  go_wp2_with fail
  refine (HC.out w5 HX5.out).mono ?_
  rintro r w6 ⟨rfl, hx6⟩
  have HX6 := hI (HX5.out.trans hx6)
  clear hx6
  go_wp2_with fail
  go_ret
  exact givesE_of (by rw [HQ.out]) HX6.out
 ·have e := HKV.out.trans (kindV_3 hk)
  have HQ := hI (show R = cashErr ev.x.cur ev.x.amount by rw [HP.out]; unfold partErr; simp [hk])
  clear HKV hk HP
  subst e
  have q0 := ta_pay_rep
  have q1 := ta_pay_ass
  have q2 := ta_pay_pay
  have q3 := ta_pay_rec
  have q4 := ta_pay_voi
  obtain ⟨w5, hw5⟩ : ∃ w5, w5 = wc.alloc (.cells #[.int .i64 ev.x.cur, .int .i64 ev.x.amount] 131) := ⟨_, rfl⟩
  have HX5 := hI (show Ext w w5 by rw [hw5]; exact HX4.out.alloc _)
  obtain ⟨y0, y1, yf⟩ := blk2 (show w5.heap[wc.heap.size]? = some (.cells #[.int .i64 ev.x.cur, .int .i64 ev.x.amount] 131 (0, 0)) by rw [hw5]; exact alloc_new wc _)
  go_upto_region 28 with fail
  rw [<- hw5]
  clear hw5
  go_wp2_with fail
  refine (cash_calls ev.x.cur ev.x.amount w5).mono ?_
  rintro r w6 ⟨rfl, hx6⟩
  have HX6 := hI (HX5.out.trans hx6)
  clear hx6
  go_wp2_with fail
  go_ret
  exact givesE_of (by rw [HQ.out]) HX6.out
 ·have e := HKV.out.trans (kindV_4 hk)
  have HQ := hI (show R = cashErr ev.x.cur ev.x.amount by rw [HP.out]; unfold partErr; simp [hk])
  clear HKV hk HP
  subst e
  have q0 := ta_rec_rep
  have q1 := ta_rec_ass
  have q2 := ta_rec_pay
  have q3 := ta_rec_rec
  have q4 := ta_rec_voi
  obtain ⟨w5, hw5⟩ : ∃ w5, w5 = wc.alloc (.cells #[.int .i64 ev.x.cur, .int .i64 ev.x.amount] 132) := ⟨_, rfl⟩
  have HX5 := hI (show Ext w w5 by rw [hw5]; exact HX4.out.alloc _)
  obtain ⟨y0, y1, yf⟩ := blk2 (show w5.heap[wc.heap.size]? = some (.cells #[.int .i64 ev.x.cur, .int .i64 ev.x.amount] 132 (0, 0)) by rw [hw5]; exact alloc_new wc _)
  go_upto_region 31 with fail
  rw [<- hw5]
  clear hw5
  go_wp2_with fail
  refine (cash_calls ev.x.cur ev.x.amount w5).mono ?_
  rintro r w6 ⟨rfl, hx6⟩
  have HX6 := hI (HX5.out.trans hx6)
  clear hx6
  go_wp2_with fail
  go_ret
  exact givesE_of (by rw [HQ.out]) HX6.out
 ·have e := HKV.out.trans (kindV_5 hk)
  have HQ := hI (show R = 0 by rw [HP.out]; unfold partErr; simp [hk])
  clear HKV hk HP
  subst e
  have q0 := ta_clo_rep
  have q1 := ta_clo_ass
  have q2 := ta_clo_pay
  have q3 := ta_clo_rec
  have q4 := ta_clo_voi
  go_wp2_with fail
  go_ret
  exact givesE_of (by rw [HQ.out]) HX4.out
 ·have e := HKV.out.trans (kindV_6 hk)
  have HQ := hI (show R = 0 by rw [HP.out]; unfold partErr; simp [hk])
  clear HKV hk HP
  subst e
  have q0 := ta_reo_rep
  have q1 := ta_reo_ass
  have q2 := ta_reo_pay
  have q3 := ta_reo_rec
  have q4 := ta_reo_voi
  go_wp2_with fail
  go_ret
  exact givesE_of (by rw [HQ.out]) HX4.out
 ·have e := HKV.out.trans (kindV_7 hk)
  have HQ := hI (show R = (if l.any (fun y => y.number == ev.x.target) = true then 0 else 7) by rw [HP.out]; unfold partErr; simp [hk])
  clear HKV hk HP
  subst e
  have q0 := ta_voi_rep
  have q1 := ta_voi_ass
  have q2 := ta_voi_pay
  have q3 := ta_voi_rec
  have q4 := ta_voi_voi
  obtain ⟨w5, hw5⟩ : ∃ w5, w5 = wc.alloc (.cells #[.int .i64 ev.x.target] 134) := ⟨_, rfl⟩
  have HX5 := hI (show Ext w w5 by rw [hw5]; exact HX4.out.alloc _)
  have HT5 := hI (show w5.heap[wc.heap.size]? = some (.cells #[.int .i64 ev.x.target] 134 (0, 0)) by rw [hw5]; exact alloc_new wc _)
  have HCN := hI (containsE_calls l a n c ev.x.target wc.heap.size w5 (HI.out.ext HX5.out) hn2 HT5.out)
  unfold cloV at HCN
  obtain ⟨E, hE⟩ : ∃ E, E = l.any (fun y => y.number == ev.x.target) := ⟨_, rfl⟩
  rw [<- hE] at HCN HQ
  clear hE
  go_upto_region 34 with fail
  rw [<- hw5]
  clear hw5
  go_wp2_with fail
  refine HCN.out.mono ?_
  rintro r w6 ⟨rfl, hx6⟩
  have HX6 := hI (HX5.out.trans hx6)
  clear hx6
  cases E
  ·go_wp2_with fail
   go_ret
   exact givesE_of (by rw [HQ.out]; rfl) HX6.out
  go_wp2_with fail
  go_ret
  exact givesE_of (by rw [HQ.out]; rfl) HX6.out
 exact absurd HIB.out (by unfold inB; rcases hk with h | h <;> simp <;> omega)
end Go.Proofs.YtpkljcgihobaiaaGreat

namespace Go.Proofs
set_option maxRecDepth 100000
set_option maxHeartbeats 32000000
open Go.Shelf
def Tryz.revEv_ren : Go.Shelf.Ren := ⟨fun | 35 => 90 | n => n, fun | 0 => 0 | 3 => 3 | 4 => 4 | 22 => 25 | 23 => 30 | n => n, fun | n => n⟩
theorem Tryz.revEv : SlLaysE0.n35 Tryz.prog Tryz.revEv_ren := {
 mixed := by kernel_rfl
 f35 := ⟨Tryz.f90.name, by decide, Tryz.func90.trans (congrArg some (by kernel_rfl))⟩
 t0 := Tryz.underlying0
 a0 := Tryz.isAgg0
 z0 := Tryz.sizeOf0
 v0 := Tryz.zeroValue0
 t3 := Tryz.underlying3
 a3 := Tryz.isAgg3
 z3 := Tryz.sizeOf3
 v3 := Tryz.zeroValue3
 t4 := Tryz.underlying4
 a4 := Tryz.isAgg4
 z4 := Tryz.sizeOf4
 v4 := Tryz.zeroValue4
 t22 := Tryz.underlying25
 a22 := Tryz.isAgg25
 z22 := Tryz.sizeOf25
 v22 := Tryz.zeroValue25 }
end Go.Proofs
namespace Go.Proofs.YtpkljcgihobaiaaGreat
set_option maxRecDepth 100000
set_option maxHeartbeats 32000000
open Go.RowKit Go.Sort
instance : Inhabited EvV := ⟨⟨ev0, none, 0, 0⟩⟩
theorem cells_oneE (x : EvV) : ∀ v ∈ x.cells, v.oneCell' = true := by
 intro v hv
 simp only [EvV.cells, List.mem_cons, List.not_mem_nil, or_false] at hv
 rcases hv with rfl | rfl | rfl | rfl | rfl | rfl | rfl <;> rfl
theorem holdsK_owns {w : World} {base : Nat} {e : TypeId} {g n c : Nat} {vs : List EvV} (h : w.ownsRow base e 7 (.slice (some ⟨g, 0, none⟩) n c) vs.length (vs.flatMap EvV.cells)) : HoldsK EvV.cells 7 w g 0 vs.toArray := by
 intro t ht
 rw [size_flatK] at ht
 have ht' : t < vs.length * 7 := by simpa using ht
 have hb : t / 7 < vs.length := by omega
 rw [get_flatK _ _ _ _ (by simpa using ht')]
 have hf := flatMap_at EvV.cells 7 (fun x => EvV.len x) vs (t / 7) hb (t % 7) (by rw [EvV.len]; omega)
 rw [show t / 7 * 7 + t % 7 = t by omega] at hf
 obtain ⟨a, c, e1, hr⟩ := IsRows.of_owns (f := EvV.cells) (fun x => EvV.len x) h
 cases e1
 obtain ⟨b, off, e2, hc⟩ := hr.2.2.2 (t / 7) hb
 cases e2
 have h3 := hc (t % 7) (by rw [EvV.len]; omega)
 rw [show 0 + t / 7 * 7 + t % 7 = 0 + t by omega] at h3
 refine ⟨?_, World.ownsRow.frozenAt h _⟩
 rw [h3]
 have e4 : (vs.toArray)[t / 7]! = vs[t / 7] := by simp [hb]
 rw [e4]
 have e5 : t % 7 < (vs[t / 7].cells).length := by rw [EvV.len]; omega
 simp [e5]
def RevQ (vs : List EvV) (g n c : Nat) (w : World) (e : Ending) (w' : World) : Prop := e = .returned (.tuple #[]) /\ IsRows w' 7 EvV.cells vs.reverse (some ⟨g, 0, none⟩) n c /\ Chg [g] w w' /\ w'.heap.size = w.heap.size
theorem rev_calls {w : World} {base : Nat} {e : TypeId} {g n c : Nat} {vs : List EvV} (hn : n = vs.length) (hnc : n <= c) (hsz : n <= 1000000000000000) (h : w.ownsRow base e 7 (.slice (some ⟨g, 0, none⟩) n c) vs.length (vs.flatMap EvV.cells)) :
  Calls Tryz.prog 90 #[.slice (some ⟨g, 0, none⟩) n c] w (RevQ vs g n c w) := by
 subst hn
 have hH := holdsK_owns h
 have hR := AnyQ.slices_Reverse Tryz.revEv 7 Tryz.isAgg30 Tryz.sizeOf30 EvV.cells (fun x => EvV.len x) (fun x v hv => cells_oneE x v hv) g 0 c vs.toArray w hH (by simp; omega)
 have e0 : (vs.toArray).size = vs.length := by simp
 rw [e0] at hR
 refine hR.mono ?_
 rintro r w' ⟨rfl, q, rfl⟩
 have hH2 : HoldsK EvV.cells 7 (putRowK EvV.cells 7 (Sort.ahead w q) g 0 vs.toArray.reverse) g 0 vs.toArray.reverse := holdsK_putRowK EvV.cells 7 _ g 0 vs.toArray _ hH (by simp)
 refine ⟨rfl, ⟨by simp, hnc, Or.inr ⟨g, 0, rfl⟩, fun i hi => ⟨g, 0, rfl, fun j hj => ?_⟩⟩, ⟨rfl, rfl, rfl, by simp [putRowK, putRow, mapBlock, Sort.ahead], fun k hk hne => ?_⟩, by simp [putRowK, putRow, mapBlock, Sort.ahead]⟩
 ·rw [EvV.len] at hj
  have := (HoldsK.cell hH2 (i := i) (c := j) (by simpa using hi) hj).1
  rw [this]
  have hi' : i < vs.reverse.length := hi
  have e4 : (vs.toArray.reverse)[i]! = vs.reverse[i] := by
   have e5 : vs.toArray.reverse = vs.reverse.toArray := by simp
   rw [e5]; simp only [List.getElem!_toArray]; rw [getElem!_pos vs.reverse i hi']
  rw [e4, getElem!_pos _ j (by rw [EvV.len]; exact hj)]
 have : g ≠ k := fun e => hne (by rw [e]; simp)
 simp [putRowK, putRow, mapBlock, Sort.ahead, Array.getElem?_modify, this]
end Go.Proofs.YtpkljcgihobaiaaGreat
