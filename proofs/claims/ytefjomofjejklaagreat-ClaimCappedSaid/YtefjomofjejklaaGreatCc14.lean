/-
  Texts of the claim, joined: Ck2, VldE, MapAt, Rev, Backw, VoidP, EffP, Eff1.
-/
import Derived.Test.YtefjomofjejklaaGreatCc13
import Derived.Deep.CutBlock
import Derived.Maps.Range
import Derived.Shelf.SlicesQ.Reverse
import Derived.RangeFuncNested
import Derived.RangeFuncBound
import Derived.RangeFuncCalls
import Derived.RangeFuncLeaves
import Derived.RangeFuncBox
import Derived.Shelf.Abstract
import Derived.Shelf.RegionOpen
import Derived.OwnWalkIn
import Derived.TacticsInMore
import Derived.LoopNIn
import Derived.LoopIn
import Derived.Maps.OwnIn
namespace Go.Proofs.YtefjomofjejklaaGreat
set_option maxRecDepth 100000
set_option maxHeartbeats 32000000
open Go.RowKit
def itemsErr (s : List Attr) (l : List It) : Int := if 64 < l.length then 4 else itsErr s l
theorem itErr_at {s : List Attr} {l : List It} {k : Nat} (hk : k < l.length) : itErr s (l.getD k ⟨[], 0, 0, 0⟩) = itErr s l[k] := by rw [List.getD_eq_getElem?_getD, List.getElem?_eq_getElem hk]; rfl
theorem itsErr_hit {s : List Attr} {l : List It} {k : Nat} (hk : k < l.length) (h0 : ∀ j (h : j < l.length), j < k -> itErr s l[j] = 0) (h : itErr s l[k] ≠ 0) : itsErr s l = itErr s l[k] := by
 unfold itsErr
 rw [firstI_hit (k := k) (by rw [itErr_at hk]; exact h) (fun j hj => by rw [itErr_at (show j < l.length by omega)]; exact h0 j _ hj) l.length hk]
 exact itErr_at hk
theorem itsErr_zero {s : List Attr} {l : List It} (h0 : ∀ j (h : j < l.length), itErr s l[j] = 0) : itsErr s l = 0 := by
 unfold itsErr
 rw [firstI_zero l.length fun j hj => by rw [itErr_at hj]; exact h0 j hj]
def ItmQ (s : List Attr) (l : List It) (n bs : Nat) (sa : OA) (sn sc : Nat) (w : World) (i : Value) (wr : World) : Prop := ∃ k : Nat, i = .int .i64 k /\ k <= n /\ (∀ j (h : j < l.length), j < k -> itErr s l[j] = 0) /\ wr.heap[bs]? = some (.cells #[.slice sa sn sc] 25 (0, 0)) /\ Ext w wr
theorem itErr_bad {s : List Attr} {x : It} (h : factsB s x.facts = false) : itErr s x = 16 := by unfold itErr; rw [if_pos h]
theorem itErr_far {s : List Attr} {x : It} (h : factsB s x.facts = true) (h2 : (moneyB x.value && moneyB x.sum && moneyB x.gross) = false) : itErr s x = 1 := by unfold itErr; rw [if_neg (by simp [h]), if_pos h2]
theorem itErr_ok {s : List Attr} {x : It} (h : factsB s x.facts = true) (h2 : (moneyB x.value && moneyB x.sum && moneyB x.gross) = true) : itErr s x = 0 := by unfold itErr; rw [if_neg (by simp [h]), if_neg (by simp [h2])]
theorem citems_calls (s : List Attr) (v : Value) (l : List It) (a : OA) (n c : Nat) (w : World) (hs : IsSchema w s v) (hf : ∀ x ∈ s, x.fits) (hl : s.length <= 1000000000000000) (hi : IsIts w l a n c) (hn2 : n <= 1000000000000000) (hfl : ∀ x ∈ l, x.facts.length <= 1000000000000000) :
  Calls Tryz.prog 104 #[v, .slice a n c] w (GivesE (.int .i64 (itemsErr s l)) w) := by
 obtain ⟨sa, sn, sc, rfl, hq1, hq2, hq3, hq4⟩ := hs.parts
 have HS := hI hs
 have HF := hI hf
 have HL := hI hl
 have HI := hI hi
 have HN := hI hi.len
 have HFL := hI hfl
 obtain ⟨R, hR⟩ : ∃ R, R = itemsErr s l := ⟨_, rfl⟩
 rw [<- hR]
 have HR := hI hR
 clear hs hf hl hi hfl hR hq1 hq2 hq3 hq4
 by_cases h6 : 64 < n
 ·have t6 : decide ((64 : Int) < (n : Int)) = true := decide_eq_true (by omega)
  have HQ := hI (show R = 4 by rw [HR.out]; unfold itemsErr; rw [<- HN.out, if_pos h6])
  go_enter Tryz.func104, Tryz.ntmps104
  go_wp2_with fail
  go_ret
  exact givesE_of (by rw [HQ.out]) ((Ext.refl w).alloc _)
 have t6 : decide ((64 : Int) < (n : Int)) = false := decide_eq_false (by omega)
 have HR2 := hI (show R = itsErr s l by rw [HR.out]; unfold itemsErr; rw [<- HN.out, if_neg h6])
 clear HR
 go_enter Tryz.func104, Tryz.ntmps104
 go_wp2_with fail
 go_loopw [12] (ItmQ s l n w.heap.size sa sn sc w) (fun t _ => n - (intOf t).toNat)
 case atStart => exact ⟨0, rfl, by omega, fun j _ h => by omega, alloc_new w _, (Ext.refl w).alloc _⟩
 case round =>
  obtain ⟨k, rfl, hk, hno, hbx, hx⟩ := hrel
  obtain ⟨wo, rfl⟩ : ∃ wo : World, wo = wr := ⟨_, rfl⟩
  have HNO := hI hno
  have HBX := hI hbx
  have HX := hI hx
  obtain ⟨bb0, bbf⟩ := blk1 hbx
  have hlt0 := blk_lt hbx
  clear hno hbx hx
  by_cases hkn : k < n
  ·have hkl : k < l.length := by have := HN.out; omega
   have t1 : decide ((k : Int) < (n : Int)) = true := decide_eq_true (by omega)
   obtain ⟨b, off, xv, rfl, hxv, hF, c0, c1, c2, c3⟩ := (HI.out.ext HX.out).at hkl
   obtain ⟨fa, hfa⟩ : ∃ fa, fa = xv.a := ⟨_, rfl⟩
   obtain ⟨fn, hfn⟩ : ∃ fn, fn = xv.n := ⟨_, rfl⟩
   obtain ⟨fc, hfc⟩ : ∃ fc, fc = xv.c := ⟨_, rfl⟩
   rw [<- hfa, <- hfn] at hF
   rw [<- hfa, <- hfn, <- hfc] at c0
   have HSV := hI (fun W (hW : Ext wo W) => sValid_calls s _ l[k].facts fa fn fc W (HS.out.ext (HX.out.trans hW)) HF.out HL.out (hF.ext hW) (by have := HFL.out _ (List.getElem_mem hkl); have := hF.1; omega))
   clear hxv hF hfa hfn hfc
   obtain ⟨wa, hwa⟩ : ∃ wa, wa = wo.alloc (.cells #[.slice fa fn fc, .int .i64 l[k].value, .int .i64 l[k].sum, .int .i64 l[k].gross] 120) := ⟨_, rfl⟩
   have hxa : Ext wo wa := by rw [hwa]; exact (Ext.refl _).alloc _
   have hba : wa.heap[wo.heap.size]? = some (.cells #[.slice fa fn fc, .int .i64 l[k].value, .int .i64 l[k].sum, .int .i64 l[k].gross] 120 (0, 0)) := by rw [hwa]; exact alloc_new wo _
   have HXA := hI hxa
   have HBA := hI hba
   have HB2 := hI (hxa.blk HBX.out)
   clear hxa hba
   have HM1 := hI (fun W => cwithin_calls 0 1073741824 l[k].value W)
   have HM2 := hI (fun W => cwithin_calls 0 1073741824 l[k].sum W)
   have HM3 := hI (fun W => cwithin_calls 0 1073741824 l[k].gross W)
   obtain ⟨V, hV⟩ : ∃ V, V = factsB s l[k].facts := ⟨_, rfl⟩
   obtain ⟨M1, hM1⟩ : ∃ M1, M1 = inB 0 1073741824 l[k].value := ⟨_, rfl⟩
   obtain ⟨M2, hM2⟩ : ∃ M2, M2 = inB 0 1073741824 l[k].sum := ⟨_, rfl⟩
   obtain ⟨M3, hM3⟩ : ∃ M3, M3 = inB 0 1073741824 l[k].gross := ⟨_, rfl⟩
   have HE1 := hI (fun h : V = false => itErr_bad (s := s) (x := l[k]) (hV.symm.trans h))
   have HE2 := hI (fun (h : V = true) (h2 : (M1 && M2 && M3) = false) => itErr_far (s := s) (x := l[k]) (hV.symm.trans h) (by unfold moneyB; rw [<- hM1, <- hM2, <- hM3]; exact h2))
   have HE3 := hI (fun (h : V = true) (h2 : (M1 && M2 && M3) = true) => itErr_ok (s := s) (x := l[k]) (hV.symm.trans h) (by unfold moneyB; rw [<- hM1, <- hM2, <- hM3]; exact h2))
   rw [<- hV] at HSV
   rw [<- hM1] at HM1
   rw [<- hM2] at HM2
   rw [<- hM3] at HM3
   clear hV hM1 hM2 hM3
   go_wp2_with fail
   rw [<- hwa]
   clear hwa c0 c1 c2 c3 bb0 bbf
   obtain ⟨d0, df⟩ := blk1 HB2.out
   obtain ⟨a0, a1, a2, a3, af⟩ := blk4c HBA.out
   have hlta := blk_lt HBA.out
   go_wp2_with fail
   refine (HSV.out _ HXA.out).mono ?_
   rintro e w5 ⟨rfl, hx5⟩
   have HX5 := hI ((HX.out.trans HXA.out).trans hx5)
   have HB5 := hI (hx5.blk HB2.out)
   have HA5 := hI (hx5.blk HBA.out)
   obtain ⟨f0, f1, f2, f3, ff⟩ := blk4c HA5.out
   have hlt5 := blk_lt HA5.out
   clear hx5 d0 df a0 a1 a2 a3 af hlta
   cases V
   ·have HQ := hI (show R = 16 by rw [HR2.out, itsErr_hit hkl HNO.out (by rw [HE1.out (by simp)]; omega)]; exact HE1.out (by simp))
    go_wp2_with fail
    go_ret
    exact givesE_of (by rw [HQ.out]) HX5.out
   go_wp2_with fail
   refine (HM1.out _).mono ?_
   rintro e w6 ⟨rfl, hx6⟩
   have HX6 := hI (HX5.out.trans hx6)
   have HB6 := hI (hx6.blk HB5.out)
   have HA6 := hI (hx6.blk HA5.out)
   obtain ⟨g0, g1, g2, g3, gf⟩ := blk4c HA6.out
   have hlt6 := blk_lt HA6.out
   clear hx6 f0 f1 f2 f3 ff hlt5
   cases M1
   ·have HQ := hI (show R = 1 by rw [HR2.out, itsErr_hit hkl HNO.out (by rw [HE2.out (by simp) (by simp)]; omega)]; exact HE2.out (by simp) (by simp))
    go_wp2_with fail
    go_ret
    exact givesE_of (by rw [HQ.out]) HX6.out
   go_wp2_with fail
   refine (HM2.out _).mono ?_
   rintro e w7 ⟨rfl, hx7⟩
   have HX7 := hI (HX6.out.trans hx7)
   have HB7 := hI (hx7.blk HB6.out)
   have HA7 := hI (hx7.blk HA6.out)
   obtain ⟨f0, f1, f2, f3, ff⟩ := blk4c HA7.out
   have hlt7 := blk_lt HA7.out
   clear hx7 g0 g1 g2 g3 gf hlt6
   cases M2
   ·have HQ := hI (show R = 1 by rw [HR2.out, itsErr_hit hkl HNO.out (by rw [HE2.out (by simp) (by simp)]; omega)]; exact HE2.out (by simp) (by simp))
    go_wp2_with fail
    go_ret
    exact givesE_of (by rw [HQ.out]) HX7.out
   go_wp2_with fail
   refine (HM3.out _).mono ?_
   rintro e w8 ⟨rfl, hx8⟩
   have HX8 := hI (HX7.out.trans hx8)
   have HB8 := hI (hx8.blk HB7.out)
   clear hx8 f0 f1 f2 f3 ff hlt7
   cases M3
   ·have HQ := hI (show R = 1 by rw [HR2.out, itsErr_hit hkl HNO.out (by rw [HE2.out (by simp) (by simp)]; omega)]; exact HE2.out (by simp) (by simp))
    go_wp2_with fail
    go_ret
    exact givesE_of (by rw [HQ.out]) HX8.out
   have HZ := hI (HE3.out (by simp) (by simp))
   go_wp2_with fail
   go_roundw
   case rel =>
    refine ⟨k + 1, by go_num, by omega, fun j hj hjk => ?_, HB8.out, HX8.out⟩
    by_cases e : j = k
    ·subst e; exact HZ.out
    exact HNO.out j hj (by omega)
   case measure => simp [intOf]; omega
  have t1 : decide ((k : Int) < (n : Int)) = false := decide_eq_false (by omega)
  have HQ := hI (show R = 0 by rw [HR2.out]; exact itsErr_zero fun j hj => HNO.out j hj (by have := HN.out; omega))
  go_wp2_with fail
  go_ret
  exact givesE_of (by rw [HQ.out]) HX.out
theorem ta_rep_rep (v : Value) (W : World) : (Instr.typeAssert (.iface 173 v) 20 173 true).run Tryz.prog W = .ok (.tuple #[v, .bool true]) W := by kernel_rfl
theorem ta_rep_ass (v : Value) (W : World) : (Instr.typeAssert (.iface 173 v) 20 174 true).run Tryz.prog W = .ok (.tuple #[.agg #[.slice none 0 0], .bool false]) W := by kernel_rfl
theorem ta_rep_pay (v : Value) (W : World) : (Instr.typeAssert (.iface 173 v) 20 176 true).run Tryz.prog W = .ok (.tuple #[.agg #[.int .i64 0, .int .i64 0], .bool false]) W := by kernel_rfl
theorem ta_rep_rec (v : Value) (W : World) : (Instr.typeAssert (.iface 173 v) 20 177 true).run Tryz.prog W = .ok (.tuple #[.agg #[.int .i64 0, .int .i64 0], .bool false]) W := by kernel_rfl
theorem ta_rep_voi (v : Value) (W : World) : (Instr.typeAssert (.iface 173 v) 20 165 true).run Tryz.prog W = .ok (.tuple #[.agg #[.int .i64 0], .bool false]) W := by kernel_rfl
theorem ta_ass_rep (v : Value) (W : World) : (Instr.typeAssert (.iface 174 v) 20 173 true).run Tryz.prog W = .ok (.tuple #[.agg #[.slice none 0 0], .bool false]) W := by kernel_rfl
theorem ta_ass_ass (v : Value) (W : World) : (Instr.typeAssert (.iface 174 v) 20 174 true).run Tryz.prog W = .ok (.tuple #[v, .bool true]) W := by kernel_rfl
theorem ta_ass_pay (v : Value) (W : World) : (Instr.typeAssert (.iface 174 v) 20 176 true).run Tryz.prog W = .ok (.tuple #[.agg #[.int .i64 0, .int .i64 0], .bool false]) W := by kernel_rfl
theorem ta_ass_rec (v : Value) (W : World) : (Instr.typeAssert (.iface 174 v) 20 177 true).run Tryz.prog W = .ok (.tuple #[.agg #[.int .i64 0, .int .i64 0], .bool false]) W := by kernel_rfl
theorem ta_ass_voi (v : Value) (W : World) : (Instr.typeAssert (.iface 174 v) 20 165 true).run Tryz.prog W = .ok (.tuple #[.agg #[.int .i64 0], .bool false]) W := by kernel_rfl
theorem ta_pay_rep (v : Value) (W : World) : (Instr.typeAssert (.iface 176 v) 20 173 true).run Tryz.prog W = .ok (.tuple #[.agg #[.slice none 0 0], .bool false]) W := by kernel_rfl
theorem ta_pay_ass (v : Value) (W : World) : (Instr.typeAssert (.iface 176 v) 20 174 true).run Tryz.prog W = .ok (.tuple #[.agg #[.slice none 0 0], .bool false]) W := by kernel_rfl
theorem ta_pay_pay (v : Value) (W : World) : (Instr.typeAssert (.iface 176 v) 20 176 true).run Tryz.prog W = .ok (.tuple #[v, .bool true]) W := by kernel_rfl
theorem ta_pay_rec (v : Value) (W : World) : (Instr.typeAssert (.iface 176 v) 20 177 true).run Tryz.prog W = .ok (.tuple #[.agg #[.int .i64 0, .int .i64 0], .bool false]) W := by kernel_rfl
theorem ta_pay_voi (v : Value) (W : World) : (Instr.typeAssert (.iface 176 v) 20 165 true).run Tryz.prog W = .ok (.tuple #[.agg #[.int .i64 0], .bool false]) W := by kernel_rfl
theorem ta_rec_rep (v : Value) (W : World) : (Instr.typeAssert (.iface 177 v) 20 173 true).run Tryz.prog W = .ok (.tuple #[.agg #[.slice none 0 0], .bool false]) W := by kernel_rfl
theorem ta_rec_ass (v : Value) (W : World) : (Instr.typeAssert (.iface 177 v) 20 174 true).run Tryz.prog W = .ok (.tuple #[.agg #[.slice none 0 0], .bool false]) W := by kernel_rfl
theorem ta_rec_pay (v : Value) (W : World) : (Instr.typeAssert (.iface 177 v) 20 176 true).run Tryz.prog W = .ok (.tuple #[.agg #[.int .i64 0, .int .i64 0], .bool false]) W := by kernel_rfl
theorem ta_rec_rec (v : Value) (W : World) : (Instr.typeAssert (.iface 177 v) 20 177 true).run Tryz.prog W = .ok (.tuple #[v, .bool true]) W := by kernel_rfl
theorem ta_rec_voi (v : Value) (W : World) : (Instr.typeAssert (.iface 177 v) 20 165 true).run Tryz.prog W = .ok (.tuple #[.agg #[.int .i64 0], .bool false]) W := by kernel_rfl
theorem ta_clo_rep (v : Value) (W : World) : (Instr.typeAssert (.iface 191 v) 20 173 true).run Tryz.prog W = .ok (.tuple #[.agg #[.slice none 0 0], .bool false]) W := by kernel_rfl
theorem ta_clo_ass (v : Value) (W : World) : (Instr.typeAssert (.iface 191 v) 20 174 true).run Tryz.prog W = .ok (.tuple #[.agg #[.slice none 0 0], .bool false]) W := by kernel_rfl
theorem ta_clo_pay (v : Value) (W : World) : (Instr.typeAssert (.iface 191 v) 20 176 true).run Tryz.prog W = .ok (.tuple #[.agg #[.int .i64 0, .int .i64 0], .bool false]) W := by kernel_rfl
theorem ta_clo_rec (v : Value) (W : World) : (Instr.typeAssert (.iface 191 v) 20 177 true).run Tryz.prog W = .ok (.tuple #[.agg #[.int .i64 0, .int .i64 0], .bool false]) W := by kernel_rfl
theorem ta_clo_voi (v : Value) (W : World) : (Instr.typeAssert (.iface 191 v) 20 165 true).run Tryz.prog W = .ok (.tuple #[.agg #[.int .i64 0], .bool false]) W := by kernel_rfl
theorem ta_reo_rep (v : Value) (W : World) : (Instr.typeAssert (.iface 192 v) 20 173 true).run Tryz.prog W = .ok (.tuple #[.agg #[.slice none 0 0], .bool false]) W := by kernel_rfl
theorem ta_reo_ass (v : Value) (W : World) : (Instr.typeAssert (.iface 192 v) 20 174 true).run Tryz.prog W = .ok (.tuple #[.agg #[.slice none 0 0], .bool false]) W := by kernel_rfl
theorem ta_reo_pay (v : Value) (W : World) : (Instr.typeAssert (.iface 192 v) 20 176 true).run Tryz.prog W = .ok (.tuple #[.agg #[.int .i64 0, .int .i64 0], .bool false]) W := by kernel_rfl
theorem ta_reo_rec (v : Value) (W : World) : (Instr.typeAssert (.iface 192 v) 20 177 true).run Tryz.prog W = .ok (.tuple #[.agg #[.int .i64 0, .int .i64 0], .bool false]) W := by kernel_rfl
theorem ta_reo_voi (v : Value) (W : World) : (Instr.typeAssert (.iface 192 v) 20 165 true).run Tryz.prog W = .ok (.tuple #[.agg #[.int .i64 0], .bool false]) W := by kernel_rfl
theorem ta_voi_rep (v : Value) (W : World) : (Instr.typeAssert (.iface 165 v) 20 173 true).run Tryz.prog W = .ok (.tuple #[.agg #[.slice none 0 0], .bool false]) W := by kernel_rfl
theorem ta_voi_ass (v : Value) (W : World) : (Instr.typeAssert (.iface 165 v) 20 174 true).run Tryz.prog W = .ok (.tuple #[.agg #[.slice none 0 0], .bool false]) W := by kernel_rfl
theorem ta_voi_pay (v : Value) (W : World) : (Instr.typeAssert (.iface 165 v) 20 176 true).run Tryz.prog W = .ok (.tuple #[.agg #[.int .i64 0, .int .i64 0], .bool false]) W := by kernel_rfl
theorem ta_voi_rec (v : Value) (W : World) : (Instr.typeAssert (.iface 165 v) 20 177 true).run Tryz.prog W = .ok (.tuple #[.agg #[.int .i64 0, .int .i64 0], .bool false]) W := by kernel_rfl
theorem ta_voi_voi (v : Value) (W : World) : (Instr.typeAssert (.iface 165 v) 20 165 true).run Tryz.prog W = .ok (.tuple #[v, .bool true]) W := by kernel_rfl
theorem evErr_range {s : List Attr} {l : List Ev} {x : Ev} (h : inB 1 1048576 x.number = false \/ inB 0 876599 x.known = false) : evErr s l x = 1 := by unfold evErr; rw [if_pos h]
theorem evErr_order {s : List Attr} {l : List Ev} {x : Ev} (h1 : inB 1 1048576 x.number = true) (h2 : inB 0 876599 x.known = true) (h : orderB l x = true) : evErr s l x = 13 := by
 unfold evErr; rw [if_neg (by simp [h1, h2]), if_pos h]
theorem evErr_kind {s : List Attr} {l : List Ev} {x : Ev} (h1 : inB 1 1048576 x.number = true) (h2 : inB 0 876599 x.known = true) (h3 : orderB l x = false) (h : inB 1 7 x.kind = false) : evErr s l x = 11 := by
 unfold evErr; rw [if_neg (by simp [h1, h2]), if_neg (by simp [h3]), if_pos h]
theorem evErr_field {s : List Attr} {l : List Ev} {x : Ev} (h1 : inB 1 1048576 x.number = true) (h2 : inB 0 876599 x.known = true) (h3 : orderB l x = false) (h4 : inB 1 7 x.kind = true) (h : fieldB x = true) : evErr s l x = 20 := by
 unfold evErr; rw [if_neg (by simp [h1, h2]), if_neg (by simp [h3]), if_neg (by simp [h4]), if_pos h]
theorem evErr_part {s : List Attr} {l : List Ev} {x : Ev} (h1 : inB 1 1048576 x.number = true) (h2 : inB 0 876599 x.known = true) (h3 : orderB l x = false) (h4 : inB 1 7 x.kind = true) (h : fieldB x = false) : evErr s l x = partErr s l x := by
 unfold evErr; rw [if_neg (by simp [h1, h2]), if_neg (by simp [h3]), if_neg (by simp [h4]), if_neg (by simp [h])]
theorem order_at {l : List Ev} {x : Ev} {m : Nat} (hm : l.length = m + 1) (hk : m < l.length) : orderB l x = (decide (x.number <= l[m].number) || decide (x.known < l[m].known)) := by
 unfold orderB
 have e : l.getLast? = some l[m] := by
  rw [List.getLast?_eq_getElem?, hm, Nat.add_sub_cancel, List.getElem?_eq_getElem hk]
 rw [e]
theorem validate_calls (s : List Attr) (v : Value) (l : List Ev) (a : OA) (n c : Nat) (ev : EvV) (w : World) (hs : IsSchema w s v) (hf : ∀ x ∈ s, x.fits) (hl : s.length <= 1000000000000000) (hi : IsEvs w l a n c) (hn2 : n <= 1000000000000000) (hit : IsIts w ev.x.items ev.a ev.n ev.c) (hin : ev.n <= 1000000000000000) (hfl : ∀ x ∈ ev.x.items, x.facts.length <= 1000000000000000) :
  Calls Tryz.prog 64 #[v, .slice a n c, ev.val] w (GivesE (.int .i64 (evErr s l ev.x)) w) := by
 obtain ⟨sa, sn, sc, rfl, hq1, hq2, hq3, hq4⟩ := hs.parts
 have HI := hI hi
 have HN := hI hi.len
 have HC := hI (fun W (hW : Ext w W) => citems_calls s (.agg #[.slice sa sn sc]) ev.x.items ev.a ev.n ev.c W (hs.ext hW) hf hl (hit.ext hW) hin hfl)
 have HIN := hI hit.len
 obtain ⟨R, hR⟩ : ∃ R, R = evErr s l ev.x := ⟨_, rfl⟩
 rw [<- hR]
 have HR := hI hR
 have HK := hI (fun W => kindOf_calls ev W)
 unfold EvV.val at HK ⊢
 obtain ⟨KV, hKV⟩ : ∃ KV, KV = kindV ev := ⟨_, rfl⟩
 rw [<- hKV] at HK
 have HKV := hI hKV
 have hinn := hin
 clear hs hf hl hi hit hin hfl hR hKV hq1 hq2 hq3 hq4
 obtain ⟨wa, hwa⟩ : ∃ wa, wa = (w.alloc (.cells #[.slice sa sn sc] 25)).alloc (.cells #[.int .i64 ev.x.number, .int .i64 ev.x.known, .int .i64 ev.x.kind, .slice ev.a ev.n ev.c, .int .i64 ev.x.cur, .int .i64 ev.x.amount, .int .i64 ev.x.target] 71) := ⟨_, rfl⟩
 have HXA := hI (show Ext w wa by rw [hwa]; exact ((Ext.refl _).alloc _).alloc _)
 have HS0 := hI (show wa.heap[w.heap.size]? = some (.cells #[.slice sa sn sc] 25 (0, 0)) by rw [hwa]; exact blk_alloc (alloc_new w _))
 have HB0 := hI (show wa.heap[w.heap.size + 1]? = some (.cells #[.int .i64 ev.x.number, .int .i64 ev.x.known, .int .i64 ev.x.kind, .slice ev.a ev.n ev.c, .int .i64 ev.x.cur, .int .i64 ev.x.amount, .int .i64 ev.x.target] 71 (0, 0)) by
  rw [hwa]; have := alloc_new (w.alloc (.cells #[.slice sa sn sc] 25)) (.cells #[.int .i64 ev.x.number, .int .i64 ev.x.known, .int .i64 ev.x.kind, .slice ev.a ev.n ev.c, .int .i64 ev.x.cur, .int .i64 ev.x.amount, .int .i64 ev.x.target] 71); rwa [World.size_alloc] at this)
 have HW1 := hI (fun W => cwithin_calls 1 1048576 ev.x.number W)
 have HW2 := hI (fun W => cwithin_calls 0 876599 ev.x.known W)
 obtain ⟨N1, hN1⟩ : ∃ N1, N1 = inB 1 1048576 ev.x.number := ⟨_, rfl⟩
 obtain ⟨N2, hN2⟩ : ∃ N2, N2 = inB 0 876599 ev.x.known := ⟨_, rfl⟩
 rw [<- hN1] at HW1
 rw [<- hN2] at HW2
 have HN1 := hI hN1
 have HN2 := hI hN2
 clear hN1 hN2
 obtain ⟨f0, f1, f2, f3, f4, f5, f6, ff⟩ := blk7 HB0.out
 go_enter Tryz.func64, Tryz.ntmps64
 go_upto_region 1 with fail
 rw [<- hwa]
 clear hwa
 go_wp2_with fail
 refine (HW1.out wa).mono ?_
 rintro r w1 ⟨rfl, hx1⟩
 have HX1 := hI (HXA.out.trans hx1)
 have HS1 := hI (hx1.blk HS0.out)
 have HB1 := hI (hx1.blk HB0.out)
 obtain ⟨g0, g1, g2, g3, g4, g5, g6, gf⟩ := blk7 HB1.out
 have hlt1 := blk_lt HB1.out
 clear hx1 f0 f1 f2 f3 f4 f5 f6 ff HS0 HB0 HXA HW1
 cases N1
 ·have HQ := hI (HR.out.trans (evErr_range (Or.inl HN1.out.symm)))
  go_wp2_with fail
  go_ret
  exact givesE_of (by rw [HQ.out]) HX1.out
 go_wp2_with fail
 refine (HW2.out w1).mono ?_
 rintro r w2 ⟨rfl, hx2⟩
 have HX2 := hI (HX1.out.trans hx2)
 have HS2 := hI (hx2.blk HS1.out)
 have HB2 := hI (hx2.blk HB1.out)
 obtain ⟨f0, f1, f2, f3, f4, f5, f6, ff⟩ := blk7 HB2.out
 have hlt2 := blk_lt HB2.out
 clear hx2 g0 g1 g2 g3 g4 g5 g6 gf hlt1 HS1 HB1 HX1 HW2
 cases N2
 ·have HQ := hI (HR.out.trans (evErr_range (Or.inr HN2.out.symm)))
  go_wp2_with fail
  go_ret
  exact givesE_of (by rw [HQ.out]) HX2.out
 obtain ⟨O, hO⟩ : ∃ O, O = orderB l ev.x := ⟨_, rfl⟩
 have HOO := hI hO
 clear hO
 go_upto_region 4 with fail
 go_cut [52] (fun s52 wx => s52 = .bool O /\ ∃ q, wx = w2.drewN q)
 case first =>
  rcases (show n = 0 \/ ∃ m, n = m + 1 by cases n with | zero => exact Or.inl rfl | succ m => exact Or.inr ⟨m, rfl⟩) with hn0 | ⟨m, hnm⟩
  ·have t1 : decide (0 < n) = false := decide_eq_false (by omega)
   have HO := hI (show O = false by have e := List.eq_nil_of_length_eq_zero (HN.out.symm.trans hn0); rw [HOO.out, e]; rfl)
   clear hn0
   go_quiet (fail)
   go_wp2_with fail
   go_meet
   case rel => exact ⟨by rw [HO.out], _, rfl⟩
  have hml : m < l.length := by have := HN.out; omega
  have t1 : decide (0 < n) = true := decide_eq_true (by omega)
  have e1 : ((n : Int) - 1) = (m : Int) := by omega
  have e2 : m < n := by omega
  obtain ⟨b, off, u, hab, hux, hits, hrow⟩ := (HI.out.ext HX2.out).at hml
  obtain ⟨c0, c1, c2, c3, c4, c5, c6⟩ := hrow.seven
  have HO1 := hI (order_at (x := ev.x) (HN.out.symm.trans hnm) hml)
  rw [<- hux] at HO1
  subst hab
  clear hux hits hrow hml hnm
  by_cases o1 : ev.x.number <= u.x.number
  ·have t2 : decide (ev.x.number <= u.x.number) = true := decide_eq_true o1
   have HO := hI (show O = true by rw [HOO.out, HO1.out, t2]; rfl)
   clear o1
   go_quiet (fail)
   go_wp2_with fail
   go_meet
   case rel => exact ⟨by rw [HO.out], _, rfl⟩
  obtain ⟨D, hD⟩ : ∃ D, decide (ev.x.known < u.x.known) = D := ⟨_, rfl⟩
  have t2 : decide (ev.x.number <= u.x.number) = false := decide_eq_false o1
  have HO := hI (show O = D by rw [HOO.out, HO1.out, t2, hD]; rfl)
  clear o1
  cases D
  all_goals
   go_quiet (fail)
   go_wp2_with fail
   go_meet
   case rel => exact ⟨by rw [HO.out], _, rfl⟩
 obtain ⟨rfl, q, rfl⟩ := hcut
 cases O
 case true =>
  have HQ := hI (HR.out.trans (evErr_order HN1.out.symm HN2.out.symm HOO.out.symm))
  go_wp2_with fail
  go_ret
  exact givesE_of (by rw [HQ.out]) (HX2.out.drewN _)
 have HO := hI (show orderB l ev.x = false from HOO.out.symm)
 obtain ⟨w3, hw3⟩ : ∃ w3, w3 = w2.drewN q := ⟨_, rfl⟩
 have HX3 := hI (show Ext w w3 by rw [hw3]; exact HX2.out.drewN _)
 have HS3 := hI (show w3.heap[w.heap.size]? = some (.cells #[.slice sa sn sc] 25 (0, 0)) by rw [hw3]; exact HS2.out)
 have HB3 := hI (show w3.heap[w.heap.size + 1]? = some (.cells #[.int .i64 ev.x.number, .int .i64 ev.x.known, .int .i64 ev.x.kind, .slice ev.a ev.n ev.c, .int .i64 ev.x.cur, .int .i64 ev.x.amount, .int .i64 ev.x.target] 71 (0, 0)) by rw [hw3]; exact HB2.out)
 rw [<- hw3]
 clear hw3 f0 f1 f2 f3 f4 f5 f6 ff hlt2 HS2 HB2 HX2
 obtain ⟨f0, f1, f2, f3, f4, f5, f6, ff⟩ := blk7 HB3.out
 have hlt3 := blk_lt HB3.out
 go_wp2_with fail
 refine (HK.out w3).mono ?_
 rintro r w4 ⟨rfl, hx4⟩
 have HX4 := hI (HX3.out.trans hx4)
 have HS4 := hI (hx4.blk HS3.out)
 have HB4 := hI (hx4.blk HB3.out)
 obtain ⟨g0, g1, g2, g3, g4, g5, g6, gf⟩ := blk7 HB4.out
 have hlt4 := blk_lt HB4.out
 obtain ⟨FB, hFB⟩ : ∃ FB, FB = fieldB ev.x := ⟨_, rfl⟩
 have HFB := hI hFB
 clear hFB hx4 f0 f1 f2 f3 f4 f5 f6 ff hlt3 HS3 HB3 HX3 HK
 obtain ⟨A8, hA8⟩ : ∃ A8, A8 = (ev.x.kind == 1 || ev.x.kind == 2) := ⟨_, rfl⟩
 obtain ⟨A9, hA9⟩ : ∃ A9, A9 = (ev.x.kind == 3 || ev.x.kind == 4) := ⟨_, rfl⟩
 obtain ⟨A10, hA10⟩ : ∃ A10, A10 = (ev.x.kind == 7) := ⟨_, rfl⟩
 have HA8 := hI hA8
 have HA9 := hI hA9
 have HA10 := hI hA10
 clear hA8 hA9 hA10
 go_upto_block 0 with fail
 go_cut [8, 9, 10] (fun s8 s9 s10 wx => s8 = .bool A8 /\ s9 = .bool A9 /\ s10 = .bool A10 /\ inB 1 7 ev.x.kind = true /\ wx = w4)
 case first =>
  rcases (by omega : ev.x.kind = 1 \/ ev.x.kind = 2 \/ ev.x.kind = 3 \/ ev.x.kind = 4 \/ ev.x.kind = 5 \/ ev.x.kind = 6 \/ ev.x.kind = 7 \/ (ev.x.kind < 1 \/ 7 < ev.x.kind)) with hk | hk | hk | hk | hk | hk | hk | hk
  ·have e := HKV.out.trans (kindV_1 hk)
   have H1 := hI (show A8 = true /\ A9 = false /\ A10 = false by rw [HA8.out, HA9.out, HA10.out, hk]; exact ⟨rfl, rfl, rfl⟩)
   have HIB := hI (show inB 1 7 ev.x.kind = true by rw [hk]; decide)
   clear HKV hk HA8 HA9 HA10
   subst e
   have q0 := ta_rep_rep
   have q1 := ta_rep_ass
   have q2 := ta_rep_pay
   have q3 := ta_rep_rec
   have q4 := ta_rep_voi
   go_wp2_with fail
   go_meet
   case rel => exact ⟨by rw [H1.out.1], by rw [H1.out.2.1], by rw [H1.out.2.2], HIB.out, rfl⟩
  ·have e := HKV.out.trans (kindV_2 hk)
   have H1 := hI (show A8 = true /\ A9 = false /\ A10 = false by rw [HA8.out, HA9.out, HA10.out, hk]; exact ⟨rfl, rfl, rfl⟩)
   have HIB := hI (show inB 1 7 ev.x.kind = true by rw [hk]; decide)
   clear HKV hk HA8 HA9 HA10
   subst e
   have q0 := ta_ass_rep
   have q1 := ta_ass_ass
   have q2 := ta_ass_pay
   have q3 := ta_ass_rec
   have q4 := ta_ass_voi
   go_wp2_with fail
   go_meet
   case rel => exact ⟨by rw [H1.out.1], by rw [H1.out.2.1], by rw [H1.out.2.2], HIB.out, rfl⟩
  ·have e := HKV.out.trans (kindV_3 hk)
   have H1 := hI (show A8 = false /\ A9 = true /\ A10 = false by rw [HA8.out, HA9.out, HA10.out, hk]; exact ⟨rfl, rfl, rfl⟩)
   have HIB := hI (show inB 1 7 ev.x.kind = true by rw [hk]; decide)
   clear HKV hk HA8 HA9 HA10
   subst e
   have q0 := ta_pay_rep
   have q1 := ta_pay_ass
   have q2 := ta_pay_pay
   have q3 := ta_pay_rec
   have q4 := ta_pay_voi
   go_wp2_with fail
   go_meet
   case rel => exact ⟨by rw [H1.out.1], by rw [H1.out.2.1], by rw [H1.out.2.2], HIB.out, rfl⟩
  ·have e := HKV.out.trans (kindV_4 hk)
   have H1 := hI (show A8 = false /\ A9 = true /\ A10 = false by rw [HA8.out, HA9.out, HA10.out, hk]; exact ⟨rfl, rfl, rfl⟩)
   have HIB := hI (show inB 1 7 ev.x.kind = true by rw [hk]; decide)
   clear HKV hk HA8 HA9 HA10
   subst e
   have q0 := ta_rec_rep
   have q1 := ta_rec_ass
   have q2 := ta_rec_pay
   have q3 := ta_rec_rec
   have q4 := ta_rec_voi
   go_wp2_with fail
   go_meet
   case rel => exact ⟨by rw [H1.out.1], by rw [H1.out.2.1], by rw [H1.out.2.2], HIB.out, rfl⟩
  ·have e := HKV.out.trans (kindV_5 hk)
   have H1 := hI (show A8 = false /\ A9 = false /\ A10 = false by rw [HA8.out, HA9.out, HA10.out, hk]; exact ⟨rfl, rfl, rfl⟩)
   have HIB := hI (show inB 1 7 ev.x.kind = true by rw [hk]; decide)
   clear HKV hk HA8 HA9 HA10
   subst e
   have q0 := ta_clo_rep
   have q1 := ta_clo_ass
   have q2 := ta_clo_pay
   have q3 := ta_clo_rec
   have q4 := ta_clo_voi
   go_wp2_with fail
   go_meet
   case rel => exact ⟨by rw [H1.out.1], by rw [H1.out.2.1], by rw [H1.out.2.2], HIB.out, rfl⟩
  ·have e := HKV.out.trans (kindV_6 hk)
   have H1 := hI (show A8 = false /\ A9 = false /\ A10 = false by rw [HA8.out, HA9.out, HA10.out, hk]; exact ⟨rfl, rfl, rfl⟩)
   have HIB := hI (show inB 1 7 ev.x.kind = true by rw [hk]; decide)
   clear HKV hk HA8 HA9 HA10
   subst e
   have q0 := ta_reo_rep
   have q1 := ta_reo_ass
   have q2 := ta_reo_pay
   have q3 := ta_reo_rec
   have q4 := ta_reo_voi
   go_wp2_with fail
   go_meet
   case rel => exact ⟨by rw [H1.out.1], by rw [H1.out.2.1], by rw [H1.out.2.2], HIB.out, rfl⟩
  ·have e := HKV.out.trans (kindV_7 hk)
   have H1 := hI (show A8 = false /\ A9 = false /\ A10 = true by rw [HA8.out, HA9.out, HA10.out, hk]; exact ⟨rfl, rfl, rfl⟩)
   have HIB := hI (show inB 1 7 ev.x.kind = true by rw [hk]; decide)
   clear HKV hk HA8 HA9 HA10
   subst e
   have q0 := ta_voi_rep
   have q1 := ta_voi_ass
   have q2 := ta_voi_pay
   have q3 := ta_voi_rec
   have q4 := ta_voi_voi
   go_wp2_with fail
   go_meet
   case rel => exact ⟨by rw [H1.out.1], by rw [H1.out.2.1], by rw [H1.out.2.2], HIB.out, rfl⟩
  have e := HKV.out.trans (kindV_0 hk)
  have HQ := hI (HR.out.trans (evErr_kind HN1.out.symm HN2.out.symm HO.out (by unfold inB; rcases hk with h | h <;> simp <;> omega)))
  clear HKV hk HA8 HA9 HA10
  subst e
  go_wp2_with fail
  go_ret
  exact givesE_of (by rw [HQ.out]) HX4.out
 case rest =>
 obtain ⟨rfl, rfl, rfl, hib, rfl⟩ := hcut
 have HIB := hI hib
 clear hib
 obtain ⟨I0, hI0⟩ : ∃ I0, decide (0 < ev.n) = I0 := ⟨_, rfl⟩
 obtain ⟨C1, hC1⟩ : ∃ C1, (ev.x.cur != 0) = C1 := ⟨_, rfl⟩
 obtain ⟨C2, hC2⟩ : ∃ C2, (ev.x.amount != 0) = C2 := ⟨_, rfl⟩
 obtain ⟨T1, hT1⟩ : ∃ T1, (ev.x.target != 0) = T1 := ⟨_, rfl⟩
 have HFE := hI (show FB = ((I0 && !A8) || ((C1 || C2) && !A9) || (T1 && !A10)) by
  rw [HFB.out, HA8.out, HA9.out, HA10.out, <- hI0, <- hC1, <- hC2, <- hT1, HIN.out]; rfl)
 clear HA8 HA9 HA10
 go_upto_region 17 with fail
 go_cut [104] (fun s104 wx => s104 = .bool FB /\ wx = wc)
 case first =>
  have HXC := hI (show (I0 = true /\ A8 = false) \/ ((I0 = false \/ (I0 = true /\ A8 = true)) /\ (((C1 = true \/ (C1 = false /\ C2 = true)) /\ A9 = false) \/ ((C1 = false /\ C2 = false) \/ (C1 = true /\ A9 = true) \/ (C1 = false /\ C2 = true /\ A9 = true)) /\ (T1 = false \/ (T1 = true /\ A10 = true) \/ (T1 = true /\ A10 = false)))) by
   cases I0 <;> cases A8 <;> cases C1 <;> cases C2 <;> cases A9 <;> cases T1 <;> cases A10 <;> simp)
  have hxc := HXC.out
  clear HXC
  rcases hxc with ⟨rfl, rfl⟩ | ⟨rfl | ⟨rfl, rfl⟩, ⟨rfl | ⟨rfl, rfl⟩, rfl⟩ | ⟨⟨rfl, rfl⟩ | ⟨rfl, rfl⟩ | ⟨rfl, rfl, rfl⟩, rfl | ⟨rfl, rfl⟩ | ⟨rfl, rfl⟩⟩⟩
  all_goals
   go_wp2_with fail
   go_meet
   case rel => exact ⟨by rw [HFE.out]; simp, rfl⟩
 case rest =>
 obtain ⟨rfl, rfl⟩ := hcut
 clear HFE hI0 hC1 hC2 hT1
 cases FB
 case true =>
  have HQ := hI (HR.out.trans (evErr_field HN1.out.symm HN2.out.symm HO.out HIB.out HFB.out.symm))
  go_wp2_with fail
  go_ret
  exact givesE_of (by rw [HQ.out]) HX4.out
 have HP := hI (HR.out.trans (evErr_part HN1.out.symm HN2.out.symm HO.out HIB.out HFB.out.symm))
 clear HR
 rcases (by omega : ev.x.kind = 1 \/ ev.x.kind = 2 \/ ev.x.kind = 3 \/ ev.x.kind = 4 \/ ev.x.kind = 5 \/ ev.x.kind = 6 \/ ev.x.kind = 7 \/ (ev.x.kind < 1 \/ 7 < ev.x.kind)) with hk | hk | hk | hk | hk | hk | hk | hk
 ·have e := HKV.out.trans (kindV_1 hk)
  have HQ := hI (show R = itemsErr s ev.x.items by rw [HP.out]; unfold partErr; simp [hk, itemsErr])
  clear HKV hk HP
  subst e
  have q0 := ta_rep_rep
  have q1 := ta_rep_ass
  have q2 := ta_rep_pay
  have q3 := ta_rep_rec
  have q4 := ta_rep_voi
  obtain ⟨w5, hw5⟩ : ∃ w5, w5 = wc.alloc (.cells #[.slice ev.a ev.n ev.c] 173) := ⟨_, rfl⟩
  have HX5 := hI (show Ext w w5 by rw [hw5]; exact HX4.out.alloc _)
  obtain ⟨y0, yf⟩ := blk1 (show w5.heap[wc.heap.size]? = some (.cells #[.slice ev.a ev.n ev.c] 173 (0, 0)) by rw [hw5]; exact alloc_new wc _)
  obtain ⟨z0, zf⟩ := blk1 (show w5.heap[w.heap.size]? = some (.cells #[.slice sa sn sc] 25 (0, 0)) by rw [hw5]; exact blk_alloc HS4.out)
  go_upto_region 22 with fail
  rw [<- hw5]
  clear hw5
  go_wp2_with fail
  refine (HC.out w5 HX5.out).mono ?_
  rintro r w6 ⟨rfl, hx6⟩
  have HX6 := hI (HX5.out.trans hx6)
  clear hx6
  go_wp2_with fail
  go_ret
  exact givesE_of (by rw [HQ.out]) HX6.out
 ·have e := HKV.out.trans (kindV_2 hk)
  have HQ := hI (show R = itemsErr s ev.x.items by rw [HP.out]; unfold partErr; simp [hk, itemsErr])
  clear HKV hk HP
  subst e
  have q0 := ta_ass_rep
  have q1 := ta_ass_ass
  have q2 := ta_ass_pay
  have q3 := ta_ass_rec
  have q4 := ta_ass_voi
  obtain ⟨w5, hw5⟩ : ∃ w5, w5 = wc.alloc (.cells #[.slice ev.a ev.n ev.c] 174) := ⟨_, rfl⟩
  have HX5 := hI (show Ext w w5 by rw [hw5]; exact HX4.out.alloc _)
  obtain ⟨y0, yf⟩ := blk1 (show w5.heap[wc.heap.size]? = some (.cells #[.slice ev.a ev.n ev.c] 174 (0, 0)) by rw [hw5]; exact alloc_new wc _)
  obtain ⟨z0, zf⟩ := blk1 (show w5.heap[w.heap.size]? = some (.cells #[.slice sa sn sc] 25 (0, 0)) by rw [hw5]; exact blk_alloc HS4.out)
  go_upto_region 25 with fail
  rw [<- hw5]
  clear hw5
  go_wp2_with fail
  refine (HC.out w5 HX5.out).mono ?_
  rintro r w6 ⟨rfl, hx6⟩
  have HX6 := hI (HX5.out.trans hx6)
  clear hx6
  go_wp2_with fail
  go_ret
  exact givesE_of (by rw [HQ.out]) HX6.out
 ·have e := HKV.out.trans (kindV_3 hk)
  have HQ := hI (show R = cashErr ev.x.cur ev.x.amount by rw [HP.out]; unfold partErr; simp [hk])
  clear HKV hk HP
  subst e
  have q0 := ta_pay_rep
  have q1 := ta_pay_ass
  have q2 := ta_pay_pay
  have q3 := ta_pay_rec
  have q4 := ta_pay_voi
  obtain ⟨w5, hw5⟩ : ∃ w5, w5 = wc.alloc (.cells #[.int .i64 ev.x.cur, .int .i64 ev.x.amount] 176) := ⟨_, rfl⟩
  have HX5 := hI (show Ext w w5 by rw [hw5]; exact HX4.out.alloc _)
  obtain ⟨y0, y1, yf⟩ := blk2 (show w5.heap[wc.heap.size]? = some (.cells #[.int .i64 ev.x.cur, .int .i64 ev.x.amount] 176 (0, 0)) by rw [hw5]; exact alloc_new wc _)
  go_upto_region 28 with fail
  rw [<- hw5]
  clear hw5
  go_wp2_with fail
  refine (cash_calls ev.x.cur ev.x.amount w5).mono ?_
  rintro r w6 ⟨rfl, hx6⟩
  have HX6 := hI (HX5.out.trans hx6)
  clear hx6
  go_wp2_with fail
  go_ret
  exact givesE_of (by rw [HQ.out]) HX6.out
 ·have e := HKV.out.trans (kindV_4 hk)
  have HQ := hI (show R = cashErr ev.x.cur ev.x.amount by rw [HP.out]; unfold partErr; simp [hk])
  clear HKV hk HP
  subst e
  have q0 := ta_rec_rep
  have q1 := ta_rec_ass
  have q2 := ta_rec_pay
  have q3 := ta_rec_rec
  have q4 := ta_rec_voi
  obtain ⟨w5, hw5⟩ : ∃ w5, w5 = wc.alloc (.cells #[.int .i64 ev.x.cur, .int .i64 ev.x.amount] 177) := ⟨_, rfl⟩
  have HX5 := hI (show Ext w w5 by rw [hw5]; exact HX4.out.alloc _)
  obtain ⟨y0, y1, yf⟩ := blk2 (show w5.heap[wc.heap.size]? = some (.cells #[.int .i64 ev.x.cur, .int .i64 ev.x.amount] 177 (0, 0)) by rw [hw5]; exact alloc_new wc _)
  go_upto_region 31 with fail
  rw [<- hw5]
  clear hw5
  go_wp2_with fail
  refine (cash_calls ev.x.cur ev.x.amount w5).mono ?_
  rintro r w6 ⟨rfl, hx6⟩
  have HX6 := hI (HX5.out.trans hx6)
  clear hx6
  go_wp2_with fail
  go_ret
  exact givesE_of (by rw [HQ.out]) HX6.out
 ·have e := HKV.out.trans (kindV_5 hk)
  have HQ := hI (show R = 0 by rw [HP.out]; unfold partErr; simp [hk])
  clear HKV hk HP
  subst e
  have q0 := ta_clo_rep
  have q1 := ta_clo_ass
  have q2 := ta_clo_pay
  have q3 := ta_clo_rec
  have q4 := ta_clo_voi
  go_wp2_with fail
  go_ret
  exact givesE_of (by rw [HQ.out]) HX4.out
 ·have e := HKV.out.trans (kindV_6 hk)
  have HQ := hI (show R = 0 by rw [HP.out]; unfold partErr; simp [hk])
  clear HKV hk HP
  subst e
  have q0 := ta_reo_rep
  have q1 := ta_reo_ass
  have q2 := ta_reo_pay
  have q3 := ta_reo_rec
  have q4 := ta_reo_voi
  go_wp2_with fail
  go_ret
  exact givesE_of (by rw [HQ.out]) HX4.out
 ·have e := HKV.out.trans (kindV_7 hk)
  have HQ := hI (show R = (if l.any (fun y => y.number == ev.x.target) = true then 0 else 7) by rw [HP.out]; unfold partErr; simp [hk])
  clear HKV hk HP
  subst e
  have q0 := ta_voi_rep
  have q1 := ta_voi_ass
  have q2 := ta_voi_pay
  have q3 := ta_voi_rec
  have q4 := ta_voi_voi
  obtain ⟨w5, hw5⟩ : ∃ w5, w5 = wc.alloc (.cells #[.int .i64 ev.x.target] 165) := ⟨_, rfl⟩
  have HX5 := hI (show Ext w w5 by rw [hw5]; exact HX4.out.alloc _)
  have HT5 := hI (show w5.heap[wc.heap.size]? = some (.cells #[.int .i64 ev.x.target] 165 (0, 0)) by rw [hw5]; exact alloc_new wc _)
  have HCN := hI (containsE_calls l a n c ev.x.target wc.heap.size w5 (HI.out.ext HX5.out) hn2 HT5.out)
  unfold cloV at HCN
  obtain ⟨E, hE⟩ : ∃ E, E = l.any (fun y => y.number == ev.x.target) := ⟨_, rfl⟩
  rw [<- hE] at HCN HQ
  clear hE
  go_upto_region 34 with fail
  rw [<- hw5]
  clear hw5
  go_wp2_with fail
  refine HCN.out.mono ?_
  rintro r w6 ⟨rfl, hx6⟩
  have HX6 := hI (HX5.out.trans hx6)
  clear hx6
  cases E
  ·go_wp2_with fail
   go_ret
   exact givesE_of (by rw [HQ.out]; rfl) HX6.out
  go_wp2_with fail
  go_ret
  exact givesE_of (by rw [HQ.out]; rfl) HX6.out
 exact absurd HIB.out (by unfold inB; rcases hk with h | h <;> simp <;> omega)
open Go.RowKit Go.Maps
def heldE (v : Value) : Option (DataW Value × List MemPlace) := some (.held v, [])
def HoldsF (D : DataW Value) (f : Lit -> Option Value) : Prop := ∀ x, WideAt.IsKeyLit x -> Maps.has D x = (f x).isSome /\ ∀ v, f x = some v -> ∀ z, D.atKey x z = .held v
def MapAt (w : World) (k : TypeId) (b n : Nat) (f : Lit -> Option Value) : Prop := ∃ D : DataW Value, w.ownsMap Tryz.prog k heldE b n D /\ HoldsF D f
open Classical in
noncomputable def setF (f : Lit -> Option Value) (x : Lit) (v : Option Value) : Lit -> Option Value := fun y => if y = x then v else f y
theorem setF_same (f : Lit -> Option Value) (x : Lit) (v : Option Value) : setF f x v x = v := by simp [setF]
theorem setF_other (f : Lit -> Option Value) {x y : Lit} (v : Option Value) (h : y ≠ x) : setF f x v y = f y := by simp [setF, h]
theorem MapAt.made (w : World) (k : TypeId) : MapAt (w.alloc (.map #[] 0)) k w.heap.size 0 (fun _ => none) :=
 ⟨.map [], World.ownsMap_made w _ k heldE, fun x _ => ⟨rfl, fun v h => by cases h⟩⟩
theorem MapAt.lt {w : World} {k : TypeId} {b n : Nat} {f : Lit -> Option Value} (h : MapAt w k b n f) : b < w.heap.size := by obtain ⟨D, h, _⟩ := h; exact h.lt
theorem MapAt.more {w : World} {k : TypeId} {b n n' : Nat} {f : Lit -> Option Value} (h : MapAt w k b n f) (hn : n <= n') : MapAt w k b n' f := by obtain ⟨D, h, hs⟩ := h; exact ⟨D, h.mono hn, hs⟩
theorem MapAt.chg {w w' : World} {k : TypeId} {b n : Nat} {f : Lit -> Option Value} {N : ZN} (h : MapAt w k b n f) (hc : Chg N w w') (hn : b ∉ N) : MapAt w' k b n f := by
 have hlt := h.lt
 obtain ⟨D, ⟨es, clock, hb, r⟩, hs⟩ := h
 exact ⟨D, ⟨es, clock, (hc.block b hlt hn).trans hb, r⟩, hs⟩
theorem MapAt.ext {w w' : World} {k : TypeId} {b n : Nat} {f : Lit -> Option Value} (h : MapAt w k b n f) (he : Ext w w') : MapAt w' k b n f := h.chg (he.chg []) (by simp)
theorem MapAt.congr {w : World} {k : TypeId} {b n : Nat} {f g : Lit -> Option Value} (h : MapAt w k b n f) (e : ∀ x, f x = g x) : MapAt w k b n g := by rw [show g = f from funext fun x => (e x).symm]; exact h
theorem grown_one {w w' : World} {b : Nat} (h : w.grownBy w' (some b)) : Chg [b] w w' := ⟨h.os, h.tape, h.output, h.size, fun k hk hn => h.block k hk (fun e => hn (by simp at e; simp [e]))⟩
theorem HoldsF.at {D : DataW Value} {f : Lit -> Option Value} (h : HoldsF D f) {x : Lit} (hx : WideAt.IsKeyLit x) {v z : Value} (hv : DataW.held v = D.atKey x (.held z)) : v = (f x).getD z := by
 obtain ⟨h1, h2⟩ := h x hx
 cases hf : f x with
 | none =>
  rw [hf] at h1
  rw [atKey_of_not_has h1] at hv
  simpa using hv
 | some u =>
  rw [h2 u hf] at hv
  simpa using hv
theorem HoldsF.put {D : DataW Value} {f : Lit -> Option Value} (h : HoldsF D f) (hD : IsMap D) {x : Lit} (hx : WideAt.IsKeyLit x) (v : Value) : HoldsF (D.put x (.held v)) (setF f x (some v)) := by
 intro y hy
 by_cases e : y = x
 ·subst e
  rw [setF_same]
  refine ⟨by rw [has_put_same hD hx]; rfl, fun u hu z => ?_⟩
  rw [atKey_put_same hD hx]
  cases hu; rfl
 rw [setF_other _ _ e]
 refine ⟨by rw [has_put_other e]; exact (h y hy).1, fun u hu z => ?_⟩
 rw [atKey_put_other e]
 exact (h y hy).2 u hu z
section
variable (w : World) {ops : Array Oper} {rest : List Oper} {o : Oper} {a : Act} {Q : Exit -> Act -> World -> Prop}
theorem wpList_map_put (hg : o.guard = none) (m x v : Operand) (t : TypeId) (hop : o.op = Op.mapUpdate t m x v) (k e : TypeId) (K : Keyed Tryz.prog k) (ht : Tryz.prog.underlying t = some (.map k e)) (b n : Nat) (f : Lit -> Option Value)
  (hm : a.eval m = .map (some b)) (hmap : MapAt w k b n f) (hn : n < maxLen) (key val : Value) (kl : Lit) (hx : a.eval x = key) (hv : a.eval v = val) (hkey : keyOf Tryz.prog k key = some kl) (hkl : WideAt.IsKeyLit kl)
  (hK : ∀ w', MapAt w' k b (n + 1) (setF f kl (some val)) -> Chg [b] w w' -> wpList Tryz.prog ops Q rest (a.put o.dst undef) w') : wpList Tryz.prog ops Q (o :: rest) a w := by
 obtain ⟨D, hown, hf⟩ := hmap
 refine wpList_mapUpdate_own w hg m x v t hop k e K ht heldE b n D hm hown hn key val kl hx hv hkey (.held val) [] rfl fun w' h1 h2 => ?_
 exact hK w' ⟨_, h1, hf.put hown.isMap hkl val⟩ (grown_one h2)
end
end Go.Proofs.YtefjomofjejklaaGreat

namespace Go.Proofs
set_option maxRecDepth 100000
set_option maxHeartbeats 32000000
open Go.Shelf
def Tryz.revEv_ren : Go.Shelf.Ren := ⟨fun | 35 => 100 | n => n, fun | 0 => 0 | 3 => 3 | 4 => 4 | 22 => 31 | 23 => 71 | n => n, fun | n => n⟩
theorem Tryz.revEv : SlLaysE0.n35 Tryz.prog Tryz.revEv_ren := {
 mixed := by kernel_rfl
 f35 := ⟨Tryz.f100.name, by decide, Tryz.func100.trans (congrArg some (by kernel_rfl))⟩
 t0 := Tryz.underlying0
 a0 := Tryz.isAgg0
 z0 := Tryz.sizeOf0
 v0 := Tryz.zeroValue0
 t3 := Tryz.underlying3
 a3 := Tryz.isAgg3
 z3 := Tryz.sizeOf3
 v3 := Tryz.zeroValue3
 t4 := Tryz.underlying4
 a4 := Tryz.isAgg4
 z4 := Tryz.sizeOf4
 v4 := Tryz.zeroValue4
 t22 := Tryz.underlying31
 a22 := Tryz.isAgg31
 z22 := Tryz.sizeOf31
 v22 := Tryz.zeroValue31 }
end Go.Proofs
namespace Go.Proofs.YtefjomofjejklaaGreat
set_option maxRecDepth 100000
set_option maxHeartbeats 32000000
open Go.RowKit Go.Sort
instance : Inhabited EvV := ⟨⟨ev0, none, 0, 0⟩⟩
theorem cells_oneE (x : EvV) : ∀ v ∈ x.cells, v.oneCell' = true := by
 intro v hv
 simp only [EvV.cells, List.mem_cons, List.not_mem_nil, or_false] at hv
 rcases hv with rfl | rfl | rfl | rfl | rfl | rfl | rfl <;> rfl
theorem holdsK_owns {w : World} {base : Nat} {e : TypeId} {g n c : Nat} {vs : List EvV} (h : w.ownsRow base e 7 (.slice (some ⟨g, 0, none⟩) n c) vs.length (vs.flatMap EvV.cells)) : HoldsK EvV.cells 7 w g 0 vs.toArray := by
 intro t ht
 rw [size_flatK] at ht
 have ht' : t < vs.length * 7 := by simpa using ht
 have hb : t / 7 < vs.length := by omega
 rw [get_flatK _ _ _ _ (by simpa using ht')]
 have hf := flatMap_at EvV.cells 7 (fun x => EvV.len x) vs (t / 7) hb (t % 7) (by rw [EvV.len]; omega)
 rw [show t / 7 * 7 + t % 7 = t by omega] at hf
 obtain ⟨a, c, e1, hr⟩ := IsRows.of_owns (f := EvV.cells) (fun x => EvV.len x) h
 cases e1
 obtain ⟨b, off, e2, hc⟩ := hr.2.2.2 (t / 7) hb
 cases e2
 have h3 := hc (t % 7) (by rw [EvV.len]; omega)
 rw [show 0 + t / 7 * 7 + t % 7 = 0 + t by omega] at h3
 refine ⟨?_, World.ownsRow.frozenAt h _⟩
 rw [h3]
 have e4 : (vs.toArray)[t / 7]! = vs[t / 7] := by simp [hb]
 rw [e4]
 have e5 : t % 7 < (vs[t / 7].cells).length := by rw [EvV.len]; omega
 simp [e5]
def RevQ (vs : List EvV) (g n c : Nat) (w : World) (e : Ending) (w' : World) : Prop := e = .returned (.tuple #[]) /\ IsRows w' 7 EvV.cells vs.reverse (some ⟨g, 0, none⟩) n c /\ Chg [g] w w' /\ w'.heap.size = w.heap.size
theorem rev_calls {w : World} {base : Nat} {e : TypeId} {g n c : Nat} {vs : List EvV} (hn : n = vs.length) (hnc : n <= c) (hsz : n <= 1000000000000000) (h : w.ownsRow base e 7 (.slice (some ⟨g, 0, none⟩) n c) vs.length (vs.flatMap EvV.cells)) :
  Calls Tryz.prog 100 #[.slice (some ⟨g, 0, none⟩) n c] w (RevQ vs g n c w) := by
 subst hn
 have hH := holdsK_owns h
 have hR := AnyQ.slices_Reverse Tryz.revEv 7 Tryz.isAgg71 Tryz.sizeOf71 EvV.cells (fun x => EvV.len x) (fun x v hv => cells_oneE x v hv) g 0 c vs.toArray w hH (by simp; omega)
 have e0 : (vs.toArray).size = vs.length := by simp
 rw [e0] at hR
 refine hR.mono ?_
 rintro r w' ⟨rfl, q, rfl⟩
 have hH2 : HoldsK EvV.cells 7 (putRowK EvV.cells 7 (Sort.ahead w q) g 0 vs.toArray.reverse) g 0 vs.toArray.reverse := holdsK_putRowK EvV.cells 7 _ g 0 vs.toArray _ hH (by simp)
 refine ⟨rfl, ⟨by simp, hnc, Or.inr ⟨g, 0, rfl⟩, fun i hi => ⟨g, 0, rfl, fun j hj => ?_⟩⟩, ⟨rfl, rfl, rfl, by simp [putRowK, putRow, mapBlock, Sort.ahead], fun k hk hne => ?_⟩, by simp [putRowK, putRow, mapBlock, Sort.ahead]⟩
 ·rw [EvV.len] at hj
  have := (HoldsK.cell hH2 (i := i) (c := j) (by simpa using hi) hj).1
  rw [this]
  have hi' : i < vs.reverse.length := hi
  have e4 : (vs.toArray.reverse)[i]! = vs.reverse[i] := by
   have e5 : vs.toArray.reverse = vs.reverse.toArray := by simp
   rw [e5]; simp only [List.getElem!_toArray]; rw [getElem!_pos vs.reverse i hi']
  rw [e4, getElem!_pos _ j (by rw [EvV.len]; exact hj)]
 have : g ≠ k := fun e => hne (by rw [e]; simp)
 simp [putRowK, putRow, mapBlock, Sort.ahead, Array.getElem?_modify, this]
open Go.RowKit Go.Shelf
attribute [local go_sem] Oper.semAt_some
def goodV (v : EvV) : Prop := (Lit.int .i64 v.x.number).wf = true /\ (Lit.int .i64 v.x.target).wf = true
abbrev EvW := { x : Nat × EvV // goodV x.2 }
def encW (x : EvW) : Array Value := #[.int .i64 (x.1.1 : Int), x.1.2.val]
def uptoL {α : Type} (f : Nat -> α) (k : Nat) : List α := (List.range k).map f
theorem uptoL_succ {α : Type} (f : Nat -> α) (k : Nat) : uptoL f (k + 1) = uptoL f k ++ [f k] := by simp [uptoL, List.range_succ]
theorem uptoL_length {α : Type} (f : Nat -> α) (k : Nat) : (uptoL f k).length = k := by simp [uptoL]
def evV0 : EvV := ⟨ev0, none, 0, 0⟩
theorem good0 : goodV evV0 := ⟨by decide, by decide⟩
theorem good_at {vs : List EvV} (hg : ∀ v ∈ vs, goodV v) (i : Nat) : goodV (vs.getD i evV0) := by
 rw [List.getD_eq_getElem?_getD]
 by_cases h : i < vs.length
 ·rw [List.getElem?_eq_getElem h]; exact hg _ (List.getElem_mem h)
 rw [List.getElem?_eq_none (by omega)]; exact good0
def bwd (vs : List EvV) (hg : ∀ v ∈ vs, goodV v) (j : Nat) : EvW := ⟨(vs.length - 1 - j, vs.getD (vs.length - 1 - j) evV0), good_at hg _⟩
def KpB (n₀ Bs : Nat) (A B : World) : Prop := Below n₀ A B /\ B.heap[Bs]? = A.heap[Bs]?
theorem KpB.t {n₀ Bs : Nat} {A B C : World} (h : KpB n₀ Bs A B) (k : KpB n₀ Bs B C) : KpB n₀ Bs A C := ⟨h.1.trans k.1, k.2.trans h.2⟩
theorem KpB.refl (n₀ Bs : Nat) (A : World) : KpB n₀ Bs A A := ⟨Below.refl _ _, rfl⟩
theorem KpB.b {n₀ Bs : Nat} {w : World} (hn : n₀ <= w.heap.size) (hB : Bs < w.heap.size) (W : World) (l : Nat) (o o' : Obj) (hl : w.heap.size <= l) (h : W.heap[l]? = some o) (h1 : o.isCells = false) (h2 : o.isWalk = false) : KpB n₀ Bs W (W.putObj l o') :=
 ⟨belowK_b hn W l o o' hl h h1 h2, World.putObj_heap_other (by omega)⟩
def EvRows (n₀ : Nat) (W : World) (vs : List EvV) (a : OA) : Prop := ∀ i (h : i < vs.length), ∃ b off, a = some ⟨b, off, none⟩ /\ b < n₀ /\ ∀ j (hj : j < vs[i].cells.length), W.cell? ⟨b, off + i * 7 + j, none⟩ = some vs[i].cells[j]
theorem EvRows.below {n₀ : Nat} {A B : World} {vs : List EvV} {a : OA} (h : EvRows n₀ A vs a) (hb : Below n₀ A B) : EvRows n₀ B vs a := fun i hi => by
 obtain ⟨b, off, e, hlt, hc⟩ := h i hi
 exact ⟨b, off, e, hlt, fun j hj => (hb.cell (p := ⟨b, off + i * 7 + j, none⟩) hlt).trans (hc j hj)⟩
theorem EvRows.seven {n₀ : Nat} {W : World} {vs : List EvV} {a : OA} (h : EvRows n₀ W vs a) {i : Nat} (hi : i < vs.length) : ∃ b off, a = some ⟨b, off, none⟩ /\ b < n₀ /\ W.cell? ⟨b, off + i * 7, none⟩ = some (.int .i64 vs[i].x.number) /\ W.cell? ⟨b, off + i * 7 + 1, none⟩ = some (.int .i64 vs[i].x.known) /\ W.cell? ⟨b, off + i * 7 + 2, none⟩ = some (.int .i64 vs[i].x.kind) /\
  W.cell? ⟨b, off + i * 7 + 3, none⟩ = some (.slice vs[i].a vs[i].n vs[i].c) /\ W.cell? ⟨b, off + i * 7 + 4, none⟩ = some (.int .i64 vs[i].x.cur) /\ W.cell? ⟨b, off + i * 7 + 5, none⟩ = some (.int .i64 vs[i].x.amount) /\ W.cell? ⟨b, off + i * 7 + 6, none⟩ = some (.int .i64 vs[i].x.target) := by
 obtain ⟨b, off, e, hlt, hc⟩ := h i hi
 exact ⟨b, off, e, hlt, hc 0 (by simp [EvV.len]), hc 1 (by simp [EvV.len]), hc 2 (by simp [EvV.len]), hc 3 (by simp [EvV.len]), hc 4 (by simp [EvV.len]), hc 5 (by simp [EvV.len]), hc 6 (by simp [EvV.len])⟩
theorem back_calls (a : OA) (n c : Nat) (w : World) :
  Calls Tryz.prog 99 #[.slice a n c] w fun e w' => e = .returned (.func (.func 119) #[] #[.pointer (some ⟨w.heap.size, 0, none⟩)]) /\ w' = w.alloc (.cells #[.slice a n c] 31) := by
 go_enter Tryz.func99, Tryz.ntmps99
 go_wp2_with fail
 go_ret
 exact ⟨rfl, rfl⟩
theorem back1_in (F : Fence) (n : Nat) (h7 : F.fn 119) (hro : F.round = none) (hn : 1 <= n) (l Bs n₀ : Nat) (a : OA) (cap N : Nat) (vs : List EvV) (hN : N = vs.length) (hN2 : N <= 1000000000000000) (hg : ∀ v ∈ vs, goodV v) (J Jx : List EvW -> World -> Prop)
  (hY : ∀ pre x W, J pre W -> pre.length < N -> YieldAt F (n - 1) Tryz.prog l (encW x) W fun e W' =>
   (e = .returned (.bool true) /\ J (pre ++ [x]) W' /\ KpB n₀ Bs W W') \/ (e = .returned (.bool false) /\ Jx (pre ++ [x]) W'))
  (W : World) (hBs : W.heap[Bs]? = some (.cells #[.slice a N cap] 31 (0, 0))) (hc : EvRows n₀ W vs a) (h0 : J [] W) :
  CallsIn F n Tryz.prog 119 #[.func (.yield l) #[] #[], .pointer (some ⟨Bs, 0, none⟩)] W fun e W' => (∃ v, e = .returned v) /\
   ((∃ ys, ys = uptoL (bwd vs hg) N /\ J ys W') \/ (∃ pre, True /\ Jx pre W')) := by
 have HBS := hI hBs
 have HC := hI hc
 have HN := hI hN
 obtain ⟨b0, bf⟩ := blk1 hBs
 clear hBs hc hN
 refine callsIn_of_wp Tryz.func119 rfl h7 ?_ hro
 simp only [Tryz.ntmps119, List.size_toArray, List.length_cons, List.length_nil, Nat.reduceAdd, Nat.reduceSub, Array.replicate_succ, Array.replicate_zero, List.push_toArray, List.append_toArray, List.nil_append, List.cons_append]
 gi_wp2
 gi_loopw [3] (fun i wr => ∃ m : Nat, m <= N /\ i = .int .i64 ((m : Int) - 1) /\ J (uptoL (bwd vs hg) (N - m)) wr /\ KpB n₀ Bs W wr)
  (fun i _ => (intOf i + 1).toNat)
 case atStart => exact ⟨N, Nat.le_refl _, rfl, by rw [Nat.sub_self]; exact h0, KpB.refl _ _ _⟩
 case round =>
  obtain ⟨m, hm, rfl, hJs, hnx⟩ := hrel
  have HNX := hI hnx
  obtain ⟨d0, df⟩ := blk1 (hnx.2.trans HBS.out)
  clear hnx b0 bf
  cases m with
  | zero =>
   rw [Nat.sub_zero] at hJs
   have HJ := hI hJs
   clear hJs
   gi_wp2
   go_end0
   exact ⟨⟨_, rfl⟩, .inl ⟨_, rfl, HJ.out⟩⟩
  | succ m =>
   have hms : m < vs.length := by have := HN.out; omega
   obtain ⟨b, off, rfl, hb, c0, c1, c2, c3, c4, c5, c6⟩ := (HC.out.below HNX.out.1).seven hms
   have e1 : bwd vs hg (N - (m + 1)) = ⟨(m, vs[m]), hg _ (List.getElem_mem hms)⟩ := by
    have e2 : vs.length - 1 - (N - (m + 1)) = m := by have := HN.out; omega
    apply Subtype.ext
    show (vs.length - 1 - (N - (m + 1)), vs.getD (vs.length - 1 - (N - (m + 1))) evV0) = (m, vs[m])
    rw [e2, List.getD_eq_getElem?_getD, List.getElem?_eq_getElem hms]; rfl
   obtain ⟨fn, tmps, assign, body, hy, hR⟩ := hY _ (bwd vs hg (N - (m + 1))) wr hJs (by rw [uptoL_length]; omega)
   have HR := hI hR
   rw [e1] at hy
   unfold encW EvV.val at hy
   dsimp only at hy
   have e3 : (((m + 1 : Nat) : Int) - 1) = (m : Int) := by omega
   rw [e3]
   have t1 : decide ((0 : Int) <= (m : Int)) = true := decide_eq_true (by omega)
   clear hJs hR e1 e3
   gi_wp2
   refine HR.out.mono ?_
   rintro e W3 (⟨rfl, hJ3, hk3⟩ | ⟨rfl, hJx3⟩)
   ·have HJ3 := hI hJ3
    have HK3 := hI hk3
    clear hJ3 hk3
    gi_wp2
    go_roundw
    case rel =>
     refine ⟨m, by omega, by simp, ?_, HNX.out.t HK3.out⟩
     have e4 : N - m = (N - (m + 1)) + 1 := by omega
     rw [e4, uptoL_succ]
     exact HJ3.out
    case measure => simp [intOf]
   have HJ3 := hI hJx3
   clear hJx3
   gi_wp2
   refine bodyPost_ret (results_none rfl _ _ _) rfl ?_
   exact ⟨⟨_, rfl⟩, .inr ⟨_, trivial, HJ3.out⟩⟩
theorem back_stops (F : Fence) (n : Nat) (h7 : F.fn 119) (hro : F.round = none) (hn : 1 <= n) (Bs n₀ : Nat) (a : OA) (cap N : Nat) (vs : List EvV) (hN : N = vs.length) (hN2 : N <= 1000000000000000) (hg : ∀ v ∈ vs, goodV v) (w : World)
  (hn₀ : n₀ <= w.heap.size) (hBs : w.heap[Bs]? = some (.cells #[.slice a N cap] 31 (0, 0))) (hc : EvRows n₀ w vs a) :
  SeqStopsK F n Tryz.prog 119 #[.pointer (some ⟨Bs, 0, none⟩)] encW (KpB n₀ Bs) (fun ys => ys = uptoL (bwd vs hg) N) (fun _ => True) N w := fun l J Jx W hW _ _ hY h0 =>
 back1_in F n h7 hro hn l Bs n₀ a cap N vs hN hN2 hg J Jx hY W ((hW.block Bs (blk_lt hBs)).trans hBs) (hc.below (hW.mono hn₀)) h0
theorem any_mem {l : ZI} {x : Int} : l.any (· == x) = true ↔ x ∈ l := by simp
theorem effGo_extra (hour : Int) : (l : List Ev) -> (v v' : ZI) -> (∀ x ∈ l, (x.number ∈ v ↔ x.number ∈ v')) -> (∀ y ∈ l, ∀ t, ∀ u ∈ l, (u.number ∈ t :: v ↔ u.number ∈ t :: v')) -> effGo hour v l = effGo hour v' l
 | [], _, _, _, _ => rfl
 | x :: r, v, v', h, h2 => by
  have hx := h x (by simp)
  unfold effGo
  have e : (hour < x.known \/ v.any (· == x.number) = true) ↔ (hour < x.known \/ v'.any (· == x.number) = true) := by rw [any_mem, any_mem, hx]
  by_cases hc : hour < x.known \/ v.any (· == x.number) = true
  ·rw [if_pos hc, if_pos (e.1 hc)]
   exact effGo_extra hour r v v' (fun y hy => h y (by simp [hy])) fun y hy t u hu => h2 y (by simp [hy]) t u (by simp [hu])
  rw [if_neg hc, if_neg (fun q => hc (e.2 q))]
  congr 1
  by_cases hv : isVoid x = true
  ·rw [if_pos hv, if_pos hv]
   exact effGo_extra hour r _ _ (fun y hy => by rw [List.mem_cons, List.mem_cons, h y (by simp [hy])]) fun y hy t u hu => by
    simp only [List.mem_cons]
    rw [h u (by simp [hu])]
  rw [if_neg hv, if_neg hv]
  exact effGo_extra hour r v v' (fun y hy => h y (by simp [hy])) fun y hy t u hu => by
   simp only [List.mem_cons]
   rw [h u (by simp [hu])]
theorem soundEvs_snoc : (b : ZI) -> (l : List Ev) -> (x : Ev) -> soundEvs b (l ++ [x]) = (soundEvs b l && !((isVoid x && !(decide (x.target ∈ b) || l.any (fun y => y.number == x.target))) || (decide (x.number ∈ b) || l.any (fun y => y.number == x.number))))
 | b, [], x => by
  have h1 : b.any (· == x.target) = decide (x.target ∈ b) := by rw [Bool.eq_iff_iff]; simp
  have h2 : b.any (· == x.number) = decide (x.number ∈ b) := by rw [Bool.eq_iff_iff]; simp
  simp only [List.nil_append, soundEvs, h1, h2, List.any_nil, Bool.or_false, Bool.and_true, Bool.true_and]
 | b, y :: l, x => by
  simp only [List.cons_append, soundEvs, soundEvs_snoc (y.number :: b) l x, List.any_cons, List.mem_cons, Bool.and_assoc]
  congr 3
  have e : ∀ t : Int, (decide (t = y.number \/ t ∈ b) || l.any fun z => z.number == t) = (decide (t ∈ b) || ((y.number == t) || l.any fun z => z.number == t)) := by
   intro t
   rw [Bool.eq_iff_iff]
   simp only [Bool.or_eq_true, decide_eq_true_eq, beq_iff_eq]
   constructor
   ·rintro ((h | h) | h)
    ·exact Or.inr (Or.inl h.symm)
    ·exact Or.inl h
    exact Or.inr (Or.inr h)
   rintro (h | h | h)
   ·exact Or.inl (Or.inr h)
   ·exact Or.inl (Or.inl h.symm)
   exact Or.inr h
  rw [e, e]
def effStep (hour : Int) (s : ZI × List EvV) (x : EvV) : ZI × List EvV :=
 if hour < x.x.known \/ s.1.any (· == x.x.number) = true then s else (if isVoid x.x then x.x.target :: s.1 else s.1, s.2 ++ [x])
def effFold (hour : Int) (l : List EvV) : ZI × List EvV := l.foldl (effStep hour) ([], [])
theorem effFold_snoc (hour : Int) (l : List EvV) (x : EvV) : effFold hour (l ++ [x]) = effStep hour (effFold hour l) x := by simp [effFold]
theorem effFold_go (hour : Int) : (l : List EvV) -> (s : ZI × List EvV) -> ((l.foldl (effStep hour) s).2).map (·.x) = s.2.map (·.x) ++ effGo hour s.1 (l.map (·.x))
 | [], s => by simp [effGo]
 | x :: r, s => by
  rw [List.foldl_cons, effFold_go hour r, List.map_cons, effGo]
  by_cases h : hour < x.x.known \/ s.1.any (· == x.x.number) = true
  ·rw [effStep, if_pos h, if_pos h]
  rw [effStep, if_neg h, if_neg h]
  simp
theorem effFold_len (hour : Int) (l : List EvV) : (effFold hour l).2.length <= l.length /\ (effFold hour l).1.length <= l.length := by
 have : ∀ (l : List EvV) (s : ZI × List EvV), ((l.foldl (effStep hour) s).2).length <= s.2.length + l.length /\ ((l.foldl (effStep hour) s).1).length <= s.1.length + l.length := by
  intro l
  induction l with
  | nil => intro s; simp
  | cons x r ih =>
   intro s
   rw [List.foldl_cons]
   have h := ih (effStep hour s x)
   have h2 : (effStep hour s x).2.length <= s.2.length + 1 /\ (effStep hour s x).1.length <= s.1.length + 1 := by
    unfold effStep
    by_cases h : hour < x.x.known \/ s.1.any (· == x.x.number) = true
    ·rw [if_pos h]; omega
    rw [if_neg h]
    by_cases hv : isVoid x.x = true
    ·rw [if_pos hv]; simp
    rw [if_neg hv]; simp
   simp only [List.length_cons]
   omega
 simpa [effFold] using this l ([], [])
theorem effFold_mem (hour : Int) (l : List EvV) : ∀ v ∈ (effFold hour l).2, v ∈ l := by
 have : ∀ (l : List EvV) (s : ZI × List EvV), ∀ v ∈ (l.foldl (effStep hour) s).2, v ∈ s.2 \/ v ∈ l := by
  intro l
  induction l with
  | nil => intro s v h; exact Or.inl h
  | cons x r ih =>
   intro s v h
   rw [List.foldl_cons] at h
   rcases ih _ v h with h | h
   ·unfold effStep at h
    by_cases hc : hour < x.x.known \/ s.1.any (· == x.x.number) = true
    ·rw [if_pos hc] at h; exact Or.inl h
    rw [if_neg hc] at h
    rcases List.mem_append.1 h with h | h
    ·exact Or.inl h
    exact Or.inr (by simp at h; simp [h])
   exact Or.inr (by simp [h])
 intro v hv
 rcases this l ([], []) v hv with h | h
 ·simp at h
 exact h
theorem effL_fold {l : List EvV} {hour : Int} (h : soundEvs [] (l.map (·.x)) = true) : effL (l.map (·.x)) hour = ((effFold hour l.reverse).2.reverse).map (·.x) := by
 unfold effL
 rw [if_pos h, List.map_reverse]
 have := effFold_go hour l.reverse ([], [])
 simp only [List.map_nil, List.nil_append, List.map_reverse] at this
 rw [show effFold hour l.reverse = l.reverse.foldl (effStep hour) ([], []) from rfl, this]
theorem soundEvs_pre : (b : ZI) -> (p q : List Ev) -> soundEvs b (p ++ q) = true -> soundEvs b p = true
 | _, [], _, _ => rfl
 | b, x :: r, q, h => by
  simp only [List.cons_append, soundEvs, Bool.and_eq_true] at h ⊢
  exact ⟨h.1, soundEvs_pre _ r q h.2⟩
def okEv (l : List Ev) (x : Ev) : Bool := !((isVoid x && !(l.any (fun y => y.number == x.target))) || l.any (fun y => y.number == x.number))
theorem soundEvs_step {l : List Ev} {k : Nat} (hk : k < l.length) (h : soundEvs [] (l.take k) = true) : soundEvs [] (l.take (k + 1)) = okEv (l.take k) l[k] := by
 rw [List.take_succ_eq_append_getElem hk, soundEvs_snoc, h]
 simp [okEv]
theorem soundEvs_bad {l : List Ev} {k : Nat} (h : soundEvs [] (l.take k) = false) : soundEvs [] l = false := by
 cases hs : soundEvs [] l with
 | false => rfl
 | true =>
  rw [<- List.take_append_drop k l] at hs
  rw [soundEvs_pre _ _ _ hs] at h
  cases h
open Go.RowKit Go.Maps Go.Shelf
def numF (l : ZI) : Lit -> Option Value
 | .int .i64 n => if l.any (· == n) then some (.bool true) else none
 | _ => none
theorem numF_nil (x : Lit) : numF [] x = none := by unfold numF; split <;> simp
theorem numF_get (l : ZI) (n : Int) : (numF l (.int .i64 n)).getD (.bool false) = .bool (l.any (· == n)) := by
 show (if l.any (· == n) = true then some (Value.bool true) else none).getD (.bool false) = _
 cases l.any (· == n) <;> rfl
theorem numF_put (l : ZI) (n : Int) (x : Lit) : setF (numF l) (.int .i64 n) (some (.bool true)) x = numF (n :: l) x := by
 by_cases h : x = .int .i64 n
 ·subst h
  rw [setF_same]
  simp [numF]
 rw [setF_other _ _ h]
 unfold numF
 split
 ·rename_i k
  have hk : (n == k) = false := by simp; intro e; exact h (by rw [e])
  simp only [List.any_cons, hk, Bool.false_or]
 rfl
theorem uMapIB : Tryz.prog.underlying 163 = some (.map 3 4) := by kernel_rfl
theorem uIntK : Tryz.prog.underlying 3 = some (.int .i64) := by kernel_rfl
theorem keyedI : Keyed Tryz.prog 3 := int_keyed uIntK
theorem zeroB (w : World) : (zeroValue 4).run Tryz.prog w = .ok (.bool false) w := by kernel_rfl
theorem keyI {i : Int} (h : (Lit.int .i64 i).wf = true) : keyOf Tryz.prog 3 (.int .i64 i) = some (.int .i64 i) := keyOf_int_mk uIntK h
theorem MapAt.grown {w w' : World} {k : TypeId} {b n : Nat} {f : Lit -> Option Value} {row : Option Nat} (h : MapAt w k b n f) (hg : w.grownBy w' row) (hn : some b ≠ row) : MapAt w' k b n f := by
 obtain ⟨D, h1, h2⟩ := h
 exact ⟨D, h1.kept hg hn, h2⟩
theorem cells_new_at (W : World) (cs : List Value) (t : TypeId) {B : Nat} (hB : B = W.heap.size) (j : Nat) (u : Value) (h : cs[j]? = some u) : (W.alloc (.cells cs.toArray t)).cell? ((⟨B, 0, none⟩ : Addr).add j) = some u := by
 have e : (⟨B, 0, none⟩ : Addr).add j = ⟨B, j, none⟩ := by unfold Addr.add; split <;> simp_all
 rw [e, hB, blk_cell (alloc_new W (.cells cs.toArray t))]
 simpa using h
def zEv : Value := .agg #[.int .i64 0, .int .i64 0, .int .i64 0, .slice none 0 0, .int .i64 0, .int .i64 0, .int .i64 0]
theorem elemEv : ElemT 31 71 zEv 7 72 := ⟨by kernel_rfl, by kernel_rfl, rfl, by omega⟩
theorem MapAt.not_row {W : World} {k e : TypeId} {b n base size q : Nat} {f : Lit -> Option Value} {v : Value} {xs : List Value} (h : MapAt W k b n f) (hr : W.ownsRow base e size v q xs) : some b ≠ v.ownBlock := by
 intro ee
 obtain ⟨D, ⟨es, clock, hb, _⟩, _⟩ := h
 rcases hr.2 with ⟨rfl, _⟩ | ⟨g, cap, cur, rfl, _, hg, _⟩
 ·cases ee
 have e2 : b = g := by simpa [Value.ownBlock] using ee
 subst e2
 rw [hb] at hg
 cases hg
section
variable {F : Fence} {nF : Nat} (w : World) {ops : Array Oper} {rest : List Oper} {o : Oper} {a : Act} {Q : Exit -> Act -> World -> Prop}
theorem wpList_map_get2 (hw : Region.wanted o (yielded ops a.tmps) = true) (m x : Operand) (t : TypeId) (hop : o.op = Op.lookup t m x false) (k e : TypeId) (K : Keyed Tryz.prog k) (ht : Tryz.prog.underlying t = some (.map k e)) {z : Value} (hz : (zeroValue e).run Tryz.prog w = .ok z w) (b n : Nat) (f : Lit -> Option Value)
  (hm : a.eval m = .map (some b)) (hmap : MapAt w k b n f) (key : Value) (kl : Lit) (hx : a.eval x = key) (hkey : keyOf Tryz.prog k key = some kl) (hkl : WideAt.IsKeyLit kl)
  (hK : wpList Tryz.prog ops Q rest (a.put o.dst ((f kl).getD z)) w) : wpList Tryz.prog ops Q (o :: rest) a w := by
 obtain ⟨D, hown, hf⟩ := hmap
 refine wpList_step fun K' hK' => ?_
 rw [if_pos hw]
 obtain ⟨v, ps, hrun, hv⟩ := hown.lookup K ht hz (zd := .held z) (zp := []) rfl hkey
 have e1 : DataW.held v = D.atKey kl (.held z) := by
  simp only [heldE, Option.some.injEq, Prod.mk.injEq] at hv
  exact hv.1
 rw [<- hf.at hkl e1] at hK
 unfold Oper.wp
 simp [execOp, hop, hm, hx, hrun, Result.andThen]
 exact hK' _ _ hK
theorem wpListIn_map_get2 (hw : Region.wanted o (yielded ops a.tmps) = true) (m x : Operand) (t : TypeId) (hop : o.op = Op.lookup t m x false) (k e : TypeId) (K : Keyed Tryz.prog k) (ht : Tryz.prog.underlying t = some (.map k e)) {z : Value} (hz : (zeroValue e).run Tryz.prog w = .ok z w) (b n : Nat) (f : Lit -> Option Value)
  (hm : a.eval m = .map (some b)) (hmap : MapAt w k b n f) (key : Value) (kl : Lit) (hx : a.eval x = key) (hkey : keyOf Tryz.prog k key = some kl) (hkl : WideAt.IsKeyLit kl)
  (hK : wpListIn F nF Tryz.prog ops Q rest (a.put o.dst ((f kl).getD z)) w) : wpListIn F nF Tryz.prog ops Q (o :: rest) a w := by
 obtain ⟨D, hown, hf⟩ := hmap
 refine wpListIn_step fun K' hK' => ?_
 rw [if_pos hw]
 obtain ⟨v, ps, hrun, hv⟩ := hown.lookup K ht hz (zd := .held z) (zp := []) rfl hkey
 have e1 : DataW.held v = D.atKey kl (.held z) := by
  simp only [heldE, Option.some.injEq, Prod.mk.injEq] at hv
  exact hv.1
 rw [<- hf.at hkl e1] at hK
 unfold Oper.wpIn
 refine ⟨by simp [Oper.about, hop], ?_⟩
 rw [Oper.semAt_plain F _ _ (by rw [hop]; intro c hc'; cases hc')]
 simp [execOp, hop, hm, hx, hrun, Result.andThen]
 exact hK' _ _ hK
theorem wpListIn_map_put (hg : o.guard = none) (m x v : Operand) (t : TypeId) (hop : o.op = Op.mapUpdate t m x v) (k e : TypeId) (K : Keyed Tryz.prog k) (ht : Tryz.prog.underlying t = some (.map k e)) (b n : Nat) (f : Lit -> Option Value)
  (hm : a.eval m = .map (some b)) (hmap : MapAt w k b n f) (hn : n < maxLen) (key val : Value) (kl : Lit) (hx : a.eval x = key) (hv : a.eval v = val) (hkey : keyOf Tryz.prog k key = some kl) (hkl : WideAt.IsKeyLit kl)
  (hK : ∀ w', MapAt w' k b (n + 1) (setF f kl (some val)) -> w.grownBy w' (some b) -> wpListIn F nF Tryz.prog ops Q rest (a.put o.dst undef) w') : wpListIn F nF Tryz.prog ops Q (o :: rest) a w := by
 obtain ⟨D, hown, hf⟩ := hmap
 refine wpListIn_mapUpdate_own w hg m x v t hop k e K ht heldE b n D hm hown hn key val kl hx hv hkey (.held val) [] rfl fun w' h1 h2 => ?_
 exact hK w' ⟨_, h1, hf.put hown.isMap hkl val⟩ h2
end
end Go.Proofs.YtefjomofjejklaaGreat
