/-
  Texts of the claim, joined: SCla, SWord, CCla, Sizes, Reach0.
-/
import Derived.Test.YtefjomofjejklaaGreatDoorDt19
namespace Go.Proofs.YtefjomofjejklaaGreatDoor
set_option maxRecDepth 100000
set_option maxHeartbeats 32000000
open Go.RowKit
def KwQ (k : Int) (w : World) (e : Ending) (w' : World) : Prop := ∃ s : BA, e = .returned (.string s) /\ s.toList.isEmpty = !decide (1 <= k /\ k <= 10) /\ w = w'
theorem keyword_calls (k : Int) (w : World) : Calls Tryz.prog 181 #[.int .i64 k] w (KwQ k w) := by
 by_cases h : 1 <= k /\ k <= 10
 ·have HD := hI (show (!decide (1 <= k /\ k <= 10)) = false by rw [decide_eq_true h]; rfl)
  unfold KwQ
  rw [HD.out]
  clear HD
  have hk : k = 1 \/ k = 2 \/ k = 3 \/ k = 4 \/ k = 5 \/ k = 6 \/ k = 7 \/ k = 8 \/ k = 9 \/ k = 10 := by omega
  clear h
  rcases hk with rfl | rfl | rfl | rfl | rfl | rfl | rfl | rfl | rfl | rfl
  all_goals
   go_enter Tryz.func181, Tryz.ntmps181
   go_wp2_with fail
   go_ret
   exact ⟨_, rfl, by decide +kernel, rfl⟩
 have HD := hI (show (!decide (1 <= k /\ k <= 10)) = true by rw [decide_eq_false h]; rfl)
 unfold KwQ
 rw [HD.out]
 have e1 : (k == 1) = false := by simp; omega
 have e2 : (k == 2) = false := by simp; omega
 have e3 : (k == 3) = false := by simp; omega
 have e4 : (k == 4) = false := by simp; omega
 have e5 : (k == 5) = false := by simp; omega
 have e6 : (k == 6) = false := by simp; omega
 have e7 : (k == 7) = false := by simp; omega
 have e8 : (k == 8) = false := by simp; omega
 have e9 : (k == 9) = false := by simp; omega
 have e10 : (k == 10) = false := by simp; omega
 clear h
 go_enter Tryz.func181, Tryz.ntmps181
 go_wp2_with fail
 go_ret
 exact ⟨_, rfl, by decide +kernel, rfl⟩
theorem greatest_calls (k : Int) (w : World) : Calls Tryz.prog 182 #[.int .i64 k] w (Gives (.int .i64 (mostOf k)) w) := by
 obtain ⟨E, hE⟩ : ∃ E, E = mostOf k := ⟨_, rfl⟩
 rw [<- hE]
 by_cases h : k = 5 \/ k = 6 \/ k = 7 \/ k = 10 \/ k = 8
 ·have HE := hI hE
  clear hE
  rcases h with rfl | rfl | rfl | rfl | rfl
  all_goals
   go_enter Tryz.func182, Tryz.ntmps182
   go_wp2_with fail
   go_ret
   exact gives_int (by rw [HE.out]; rfl)
 have HE := hI (show E = 0 by rw [hE]; unfold mostOf; rw [if_neg (by omega), if_neg (by omega)])
 have e5 : (k == 5) = false := by simp; omega
 have e6 : (k == 6) = false := by simp; omega
 have e7 : (k == 7) = false := by simp; omega
 have e8 : (k == 8) = false := by simp; omega
 have e10 : (k == 10) = false := by simp; omega
 clear h hE
 go_enter Tryz.func182, Tryz.ntmps182
 go_wp2_with fail
 go_ret
 exact gives_int (by rw [HE.out])
theorem cnt_le_wbN : (l : List Wb) -> cntBacks l <= wbN l
 | [] => by simp [cntBacks]
 | .mk n c u :: r => by
  have h1 := cnt_le_wbN u
  have h2 := cnt_le_wbN r
  rw [cntBacks, wbN]; omega
theorem wbN_le_of : (l : List Wb) -> cntBacks l <= 40 -> wbN l <= 40
 | [], _ => by simp [wbN]
 | .mk n c u :: r, h => by
  rw [cntBacks] at h
  have key : ∀ l : List Wb, cntBacks l <= 40 -> wbN l <= cntBacks l := by
   intro l
   induction l using wbN.induct with
   | case1 => intro _; simp [wbN]
   | case2 n c u r ih1 ih2 =>
    intro h
    rw [cntBacks] at h ⊢
    have h1 := ih1 (by omega)
    have h2 := ih2 (by omega)
    rw [wbN]; omega
  have h1 := key u (by omega)
  have h2 := key r (by omega)
  rw [wbN]; omega
theorem cnt_iff (l : List Wb) : decide (cntBacks l <= 40) = decide (0 + wbN l <= 40) := by
 have h1 := cnt_le_wbN l
 have h2 := wbN_le_of l
 rw [decide_eq_decide]
 constructor
 ·intro h; have := h2 h; omega
 intro h; omega
theorem clauseB_eq (c : Cla) : clauseB c = (decide (1 <= c.kind /\ c.kind <= 10) && nameB c.name && refExprB c.cond && (decide (c.unl.length = 0) || (c.kind == 3)) && (decide (min 1 (mostOf c.kind) <= c.amount) && decide (c.amount <= mostOf c.kind)) && (backsB 16 c.unl && decide (0 + wbN c.unl <= 40))) := by
 have hm : 0 <= mostOf c.kind := by unfold mostOf; split <;> (try split) <;> omega
 have h1 : ((decide (mostOf c.kind = 0) && (c.amount == 0)) || (decide (0 < mostOf c.kind) && decide (1 <= c.amount) && decide (c.amount <= mostOf c.kind))) = (decide (min 1 (mostOf c.kind) <= c.amount) && decide (c.amount <= mostOf c.kind)) := by
  generalize mostOf c.kind = m at *
  generalize c.amount = a
  rw [Bool.eq_iff_iff]
  simp only [Bool.or_eq_true, Bool.and_eq_true, decide_eq_true_eq, beq_iff_eq]
  omega
 unfold clauseB
 rw [h1, cnt_iff]
 have h2 : (decide (1 <= c.kind) && decide (c.kind <= 10)) = decide (1 <= c.kind /\ c.kind <= 10) := by simp
 rw [h2]
 generalize (decide (min 1 (mostOf c.kind) <= c.amount) && decide (c.amount <= mostOf c.kind)) = A
 by_cases hl : c.unl.length = 0
 ·have : c.unl = [] := List.eq_nil_of_length_eq_zero hl
  rw [this]
  simp [backsB, wbN]
 simp only [hl, decide_false, Bool.false_or]
 cases decide (1 <= c.kind /\ c.kind <= 10) <;> cases nameB c.name <;> cases refExprB c.cond <;> cases (c.kind == 3) <;> cases decide (0 + wbN c.unl <= 40) <;> cases backsB 16 c.unl <;> cases A <;> rfl
theorem sclause_calls (c : Cla) (v : ClV) (w : World) (hc : IsCla w c v) (ho : HasOps w) (hok : c.fit) :
  Calls Tryz.prog 166 #[.agg #[.int .i64 v.kind, .string v.name, .int .i64 v.x.op, .string v.x.name, .slice v.x.aw v.x.nw v.x.cw, .int .i64 v.x.lo, .int .i64 v.x.hi, .slice v.x.aa v.x.na v.x.ca, .slice v.au v.nu v.cu, .int .i64 v.amount]] w (GivesE (.bool (clauseB c)) w) := by
 obtain ⟨hk, hnm, hex, hnu, -, -, hwb, ham⟩ := hc
 obtain ⟨ho1, ho2, ho3, ho4, ho5, ho6⟩ := hok
 rw [hk, hnm, ham]
 have HEX := hI hex
 have HWB := hI hwb
 have HNU := hI hnu
 have HO := hI ho
 have HO2 := hI ho2
 have HO6 := hI ho6
 have hnu2 : v.nu <= 1000000000000000 := by rw [hnu]; exact ho5
 obtain ⟨R, hR⟩ : ∃ R, R = clauseB c := ⟨_, rfl⟩
 rw [<- hR]
 rw [clauseB_eq] at hR
 have HR := hI hR
 clear hk hnm hex hnu hwb ham ho2 ho3 ho4 ho5 ho6 hR ho
 obtain ⟨kind, name, cond, unl, amount⟩ := c
 simp only at *
 obtain ⟨vk, vn, x, au, nu, cu, va⟩ := v
 simp only at *
 obtain ⟨wa, hwa⟩ : ∃ wa, wa = w.alloc (.cells #[.int .i64 kind, .string name, .int .i64 x.op, .string x.name, .slice x.aw x.nw x.cw, .int .i64 x.lo, .int .i64 x.hi, .slice x.aa x.na x.ca, .slice au nu cu, .int .i64 amount] 48) := ⟨_, rfl⟩
 have hxa : Ext w wa := by rw [hwa]; exact (Ext.refl _).alloc _
 have hb : wa.heap[w.heap.size]? = some (.cells #[.int .i64 kind, .string name, .int .i64 x.op, .string x.name, .slice x.aw x.nw x.cw, .int .i64 x.lo, .int .i64 x.hi, .slice x.aa x.na x.ca, .slice au nu cu, .int .i64 amount] 48 (0, 0)) := by rw [hwa]; exact alloc_new w _
 have HXA := hI hxa
 have HB := hI hb
 obtain ⟨b0, b1, b2, b3, b4, b5, b6, b7, b8, b9, bf⟩ := blk10r hb
 have hltw := blk_lt hb
 clear hxa hb
 go_enter Tryz.func166, Tryz.ntmps166
 go_upto_region 1 with fail
 rw [<- hwa]
 clear hwa
 go_wp2_with fail
 refine (keyword_calls kind wa).mono ?_
 rintro r w1 ⟨s, rfl, hs, rfl⟩
 cases hkd : decide (1 <= kind /\ kind <= 10)
 ·rw [hkd] at hs HR
  have HF := hI (show R = false by rw [HR.out]; rfl)
  have hs2 : s.toList.isEmpty = true := hs
  clear hs hkd
  go_wp2_with fail
  go_ret
  exact givesE_b (by rw [HF.out]) HXA.out
 rw [hkd] at hs HR
 have hs2 : s.toList.isEmpty = false := hs
 rw [Bool.true_and] at HR
 clear hs hkd
 go_wp2_with fail
 refine (name_calls _ _ ho1).mono ?_
 rintro r w1 ⟨rfl, rfl⟩
 cases hnb : nameB name
 ·rw [hnb] at HR
  have HF := hI (show R = false by rw [HR.out]; rfl)
  clear hnb
  go_wp2_with fail
  go_ret
  exact givesE_b (by rw [HF.out]) HXA.out
 rw [hnb, Bool.true_and] at HR
 clear hnb
 go_wp2_with fail
 refine (Valid_calls cond _ _ (HEX.out.ext HXA.out) (HO.out.ext HXA.out) HO2.out).mono ?_
 rintro r w2 ⟨rfl, hx2⟩
 rw [validB_ref]
 have HX2 := hI (HXA.out.trans hx2)
 have HB2 := hI (hx2.blk HB.out)
 clear hx2 b0 b1 b2 b3 b4 b5 b6 b7 b8 b9 bf hltw
 obtain ⟨b0, b1, b2, b3, b4, b5, b6, b7, b8, b9, bf⟩ := blk10r HB2.out
 have hltw := blk_lt HB2.out
 cases hxb : refExprB cond
 ·rw [hxb] at HR
  have HF := hI (show R = false by rw [HR.out]; rfl)
  clear hxb
  go_wp2_with fail
  go_ret
  exact givesE_b (by rw [HF.out]) HX2.out
 rw [hxb, Bool.true_and] at HR
 clear hxb
 by_cases hbad : kind ≠ 3 /\ 0 < nu
 ·obtain ⟨h3, h0⟩ := hbad
  have t3 : (kind != 3) = true := by simp [h3]
  have t0 : decide ((0 : Int) < (nu : Int)) = true := decide_eq_true (by omega)
  have HF := hI (show R = false by
   have e0 : decide (unl.length = 0) = false := decide_eq_false (by have := HNU.out; omega)
   have e3 : (kind == 3) = false := by simp [h3]
   rw [HR.out, e0, e3]; rfl)
  clear h3
  go_wp2_with fail
  go_ret
  exact givesE_b (by rw [HF.out]) HX2.out
 have HR2 := hI (show R = (decide (min 1 (mostOf kind) <= amount) && decide (amount <= mostOf kind) && (backsB 16 unl && decide (0 + wbN unl <= 40))) by
  rw [HR.out]
  by_cases h0 : nu = 0
  ·have e0 : decide (unl.length = 0) = true := decide_eq_true (by have := HNU.out; omega)
   rw [e0]; simp
  have e3 : (kind == 3) = true := by
   by_cases h3 : kind = 3
   ·simp [h3]
   exact absurd ⟨h3, by omega⟩ hbad
  rw [e3]; simp)
 clear HR
 obtain ⟨M, hM⟩ : ∃ M, M = mostOf kind := ⟨_, rfl⟩
 have hM0 : 0 <= M /\ M <= 1073741824 := by rw [hM]; unfold mostOf; split <;> (try split) <;> omega
 rw [<- hM] at HR2
 have HM := hI hM
 clear hM
 obtain ⟨hM0, hM1⟩ := hM0
 by_cases h3 : kind = 3
 case' pos =>
  have t3 : (kind != 3) = false := by simp [h3]
  clear hbad h3
 case' neg =>
  have t3 : (kind != 3) = true := by simp [h3]
  have hn0 : nu = 0 := by
   rcases Nat.eq_zero_or_pos nu with h | h
   ·exact h
   exact absurd ⟨h3, h⟩ hbad
  have t0 : decide ((0 : Int) < (nu : Int)) = false := decide_eq_false (by omega)
  have t00 : decide (0 < nu) = false := decide_eq_false (by omega)
  clear hbad h3 hn0
 all_goals
  go_wp2_with fail
  refine (greatest_calls kind w2).mono ?_
  rintro r w3 ⟨rfl, rfl⟩
  rw [<- HM.out]
  clear HM
  rcases (show M = 0 \/ 1 <= M by omega) with h0 | h1
  case inl =>
   subst h0
   have hmin : min (1 : Int) 0 = 0 := by decide
   by_cases hlo : amount < 0
   ·have t4 : decide (amount < 0) = true := decide_eq_true hlo
    have HF := hI (show R = false by
     have : decide (min 1 0 <= amount) = false := decide_eq_false (by omega)
     rw [HR2.out, this]; rfl)
    clear hlo
    go_wp2_with fail
    go_ret
    exact givesE_b (by rw [HF.out]) HX2.out
   have t4 : decide (amount < 0) = false := decide_eq_false hlo
   by_cases hhi : 0 < amount
   ·have t5 : decide (0 < amount) = true := decide_eq_true hhi
    have HF := hI (show R = false by
     have : decide (amount <= 0) = false := decide_eq_false (by omega)
     rw [HR2.out, this]; simp)
    clear hlo hhi
    go_wp2_with fail
    go_ret
    exact givesE_b (by rw [HF.out]) HX2.out
   have t5 : decide (0 < amount) = false := decide_eq_false hhi
   have HR3 := hI (show R = (backsB 16 unl && decide (0 + wbN unl <= 40)) by
    have e1 : decide (min 1 0 <= amount) = true := decide_eq_true (by omega)
    have e2 : decide (amount <= 0) = true := decide_eq_true (by omega)
    rw [HR2.out, e1, e2]; rfl)
   clear hlo hhi HR2
   go_wp2_with fail
   have HWF := hI (writeBacks_calls HO.out (wbN unl + 1) unl au _ cu 1 0 w2.heap.size (w2.alloc (.cells #[.int .i64 0] 3)) (by omega) hnu2 HO6.out (by omega) (by omega) (by omega) HNU.out
    (WbsD.mono (fun p v hp => by
     have hlt : p.block < w2.heap.size := block_lt (HX2.out.cell hp)
     rw [mask_cell, if_neg (by simp; omega)]
     exact ((Ext.refl w2).alloc _).cell (HX2.out.cell hp)) _ _ HWB.out) (HX2.out.alloc _) HX2.out.size (alloc_new w2 _))
   refine HWF.out.mono ?_
   rintro r w4 ⟨m4, rfl, -, -, -, hch⟩
   have HX4 := hI (hch.ext (HX2.out.alloc _) (by have := HX2.out.size; simpa using this))
   clear hch
   go_wp2_with fail
   go_ret
   exact givesE_b (by rw [HR3.out, Nat.zero_add]) HX4.out
  have t6 : decide (1 <= M) = true := decide_eq_true h1
  have hmin : min (1 : Int) M = 1 := by omega
  by_cases hlo : amount < 1
  ·have t4 : decide (amount < 1) = true := decide_eq_true hlo
   have HF := hI (show R = false by
    have : decide (min 1 M <= amount) = false := decide_eq_false (by omega)
    rw [HR2.out, this]; rfl)
   clear hlo
   go_wp2_with fail
   go_ret
   exact givesE_b (by rw [HF.out]) HX2.out
  have t4 : decide (amount < 1) = false := decide_eq_false hlo
  by_cases hhi : M < amount
  ·have t5 : decide (M < amount) = true := decide_eq_true hhi
   have HF := hI (show R = false by
    have : decide (amount <= M) = false := decide_eq_false (by omega)
    rw [HR2.out, this]; simp)
   clear hlo hhi
   go_wp2_with fail
   go_ret
   exact givesE_b (by rw [HF.out]) HX2.out
  have t5 : decide (M < amount) = false := decide_eq_false hhi
  have HR3 := hI (show R = (backsB 16 unl && decide (0 + wbN unl <= 40)) by
   have e1 : decide (min 1 M <= amount) = true := decide_eq_true (by omega)
   have e2 : decide (amount <= M) = true := decide_eq_true (by omega)
   rw [HR2.out, e1, e2]; rfl)
  clear hlo hhi HR2
  go_wp2_with fail
  have HWF := hI (writeBacks_calls HO.out (wbN unl + 1) unl au _ cu 1 0 w2.heap.size (w2.alloc (.cells #[.int .i64 0] 3)) (by omega) hnu2 HO6.out (by omega) (by omega) (by omega) HNU.out
   (WbsD.mono (fun p v hp => by
    have hlt : p.block < w2.heap.size := block_lt (HX2.out.cell hp)
    rw [mask_cell, if_neg (by simp; omega)]
    exact ((Ext.refl w2).alloc _).cell (HX2.out.cell hp)) _ _ HWB.out) (HX2.out.alloc _) HX2.out.size (alloc_new w2 _))
  refine HWF.out.mono ?_
  rintro r w4 ⟨m4, rfl, -, -, -, hch⟩
  have HX4 := hI (hch.ext (HX2.out.alloc _) (by have := HX2.out.size; simpa using this))
  clear hch
  go_wp2_with fail
  go_ret
  exact givesE_b (by rw [HR3.out, Nat.zero_add]) HX4.out
def clausesB (l : List Cla) : Bool := decide (l.length <= 40) && l.all clauseB
theorem sclauses_calls (l : List Cla) (a : OA) (n c : Nat) (w : World) (hl : IsClas w l a n c) (ho : HasOps w) (hok : ∀ x ∈ l, x.fit) (hn : n <= 1000000000000000) :
  Calls Tryz.prog 136 #[.slice a n c] w (GivesE (.bool (clausesB l)) w) := by
 have HL := hI hl
 have HN := hI hl.len
 have HO := hI ho
 have HOK := hI hok
 obtain ⟨R, hR⟩ : ∃ R, R = clausesB l := ⟨_, rfl⟩
 rw [<- hR]
 have HR := hI (show R = (decide (l.length <= 40) && l.all clauseB) from hR)
 clear hl ho hok hR
 by_cases h40 : 40 < n
 ·have t0 : decide ((40 : Int) < (n : Int)) = true := decide_eq_true (by omega)
  have HF := hI (show R = false by rw [HR.out, decide_eq_false (by have := HN.out; omega)]; rfl)
  go_enter Tryz.func136, Tryz.ntmps136
  go_wp2_with fail
  go_ret
  exact givesE_b (by rw [HF.out]) (Ext.refl _)
 have t0 : decide ((40 : Int) < (n : Int)) = false := decide_eq_false (by omega)
 have HR2 := hI (show R = l.all clauseB by rw [HR.out, decide_eq_true (by have := HN.out; omega)]; rfl)
 clear HR
 go_enter Tryz.func136, Tryz.ntmps136
 go_wp2_with fail
 go_loopw [10] (fun t wr => ∃ k : Nat, t = .int .i64 k /\ k <= n /\ (∀ j (h : j < l.length), j < k -> clauseB l[j] = true) /\ Ext w wr) (fun t _ => n - (intOf t).toNat)
 case atStart => exact ⟨0, rfl, by omega, fun j _ h => by omega, Ext.refl _⟩
 case round =>
  obtain ⟨k, rfl, hk, hall, hxr⟩ := hrel
  have HALL := hI hall
  have HXR := hI hxr
  clear hall hxr
  by_cases hkn : k < n
  ·have hkl : k < l.length := by have := HN.out; omega
   have t1 : decide ((k : Int) < (n : Int)) = true := decide_eq_true (by omega)
   obtain ⟨b, off, v, rfl, hcla, hrow⟩ := (HL.out.ext HXR.out).at hkl
   obtain ⟨c0, c1, c2, c3, c4, c5, c6, c7, c8, c9⟩ := hrow.ten
   have HC := hI (fun (W : World) (hW : Ext wr W) => sclause_calls l[k] v W (hcla.mono hW.sub) (HO.out.ext (HXR.out.trans hW)) (HOK.out _ (List.getElem_mem hkl)))
   clear hcla hrow
   cases hcb : clauseB l[k]
   ·have HCB := hI hcb
    have HF := hI (show R = false by
     rw [HR2.out, List.all_eq_false]
     exact ⟨l[k], List.getElem_mem hkl, by rw [hcb]; simp⟩)
    clear hcb
    go_wp2_with fail
    refine (HC.out _ ((Ext.refl wr).alloc _)).mono ?_
    rintro r w3 ⟨rfl, hx3⟩
    rw [HCB.out]
    have HX3 := hI ((HXR.out.alloc _).trans hx3)
    clear hx3 c0 c1 c2 c3 c4 c5 c6 c7 c8 c9
    go_wp2_with fail
    go_ret
    exact givesE_b (by rw [HF.out]) HX3.out
   have HCB := hI hcb
   clear hcb
   go_wp2_with fail
   refine (HC.out _ ((Ext.refl wr).alloc _)).mono ?_
   rintro r w3 ⟨rfl, hx3⟩
   rw [HCB.out]
   have HX3 := hI ((HXR.out.alloc _).trans hx3)
   clear hx3 c0 c1 c2 c3 c4 c5 c6 c7 c8 c9
   go_wp2_with fail
   go_roundw
   case rel =>
    refine ⟨k + 1, by go_num, by omega, fun j hj hjk => ?_, HX3.out⟩
    by_cases e : j = k
    ·subst e; exact HCB.out
    exact HALL.out j hj (by omega)
   case measure => simp [intOf]; omega
  have t1 : decide ((k : Int) < (n : Int)) = false := decide_eq_false (by omega)
  have HF := hI (show R = true by
   rw [HR2.out, List.all_eq_true]
   intro x hx
   obtain ⟨j, hj, rfl⟩ := List.mem_iff_getElem.1 hx
   exact HALL.out j hj (by have := HN.out; omega))
  go_wp2_with fail
  go_ret
  exact givesE_b (by rw [HF.out]) HXR.out
theorem sValid1_calls (l : List Cla) (a : OA) (n c : Nat) (w : World) (hl : IsClas w l a n c) (ho : HasOps w) (hok : ∀ x ∈ l, x.fit) (hn : n <= 1000000000000000) :
  Calls Tryz.prog 106 #[.agg #[.slice a n c, .slice none 0 0]] w (GivesE (.bool (clausesB l)) w) := by
 obtain ⟨wa, hwa⟩ : ∃ wa, wa = w.alloc (.cells #[.slice a n c, .slice none 0 0] 166) := ⟨_, rfl⟩
 have hxa : Ext w wa := by rw [hwa]; exact (Ext.refl _).alloc _
 have hb : wa.heap[w.heap.size]? = some (.cells #[.slice a n c, .slice none 0 0] 166 (0, 0)) := by rw [hwa]; exact alloc_new w _
 obtain ⟨b0, b1, bf⟩ := blk2 hb
 have hltw := blk_lt hb
 have HXA := hI hxa
 have HB := hI hb
 have HC := hI (sclauses_calls l a n c wa (hl.ext hxa) (ho.ext hxa) hok hn)
 obtain ⟨R, hR⟩ : ∃ R, R = clausesB l := ⟨_, rfl⟩
 rw [<- hR] at HC ⊢
 clear hl ho hok hR hxa hb
 go_enter Tryz.func106, Tryz.ntmps106
 go_upto_region 1 with fail
 rw [<- hwa]
 clear hwa
 go_wp2_with fail
 refine HC.out.mono ?_
 rintro r w3 ⟨rfl, hx3⟩
 have HX3 := hI (HXA.out.trans hx3)
 have HB3 := hI (hx3.blk HB.out)
 clear hx3 b0 b1 bf hltw
 obtain ⟨b0, b1, bf⟩ := blk2 HB3.out
 have hltw := blk_lt HB3.out
 cases R
 ·go_wp2_with fail
  go_ret
  exact givesE_b rfl HX3.out
 go_wp2_with fail
 go_loop [18] (fun t => t = .int .i64 0) (fun _ => 0)
 case atStart => exact rfl
 case round =>
  subst hrel
  go_wp2_with fail
  go_ret
  exact givesE_b rfl HX3.out
theorem isCla_one {w : World} {g : Nat} {v : ClV} {x : Cla} {t : TypeId} (h : w.heap[g]? = some (.cells v.cells.toArray t (0, 0))) (hx : IsCla w x v) : IsClas w [x] (some ⟨g, 0, none⟩) 1 1 := by
 refine ⟨[v], ⟨rfl, Nat.le_refl _, Or.inr ⟨g, 0, rfl⟩, fun i hi => ⟨g, 0, rfl, fun j hj => ?_⟩⟩, rfl, fun i h1 h2 => ?_⟩
 ·obtain rfl : i = 0 := by simp at hi; omega
  rw [blk_cell h]
  simp only [List.getElem_cons_zero, Nat.zero_mul, Nat.zero_add, Nat.add_zero] at hj ⊢
  simp [hj]
 obtain rfl : i = 0 := by simp at h1; omega
 exact hx
theorem clausesB_one (c : Cla) : clausesB [c] = clauseB c := by simp [clausesB]
open Go.RowKit Go.Maps
def condsC (c : Cla) : List Ex := c.cond :: condsW c.unl
theorem condsC_len (c : Cla) : (condsC c).length = 1 + wbN c.unl := by simp [condsC, condsW_len]; omega
theorem sub_mask_nil (w : World) : Sub w (mask w []) := fun p v hp => by rw [mask_cell, if_neg (by simp)]; exact hp
theorem owns_newC (w : World) (arr : Array Value) (e : TypeId) {size n base : Nat} (hs : arr.size = n * size) (hn : n <= maxLen) (hb : base <= w.heap.size) : (w.alloc (.cells arr e)).ownsRow base e size (.slice (some ⟨w.heap.size, 0, none⟩) n n) n arr.toList :=
 ⟨by simpa using hs, Or.inr ⟨w.heap.size, n, arr, rfl, hb, alloc_new w _, Nat.le_refl _, hn, hs, by rw [List.take_of_length_le (by simp; omega)]⟩⟩
def CondQ (c : Cla) (w : World) (e : Ending) (w' : World) : Prop := ∃ a n k, e = .returned (.slice a n k) /\ n = (condsC c).length /\ n <= k /\ ExsD w' (condsC c) a /\ Ext w w'
theorem conditions_calls (c : Cla) (v : ClV) (w : World) (hc : IsCla w c v) (hn : wbN c.unl <= 9000) :
  Calls Tryz.prog 82 #[.agg #[.int .i64 v.kind, .string v.name, .int .i64 v.x.op, .string v.x.name, .slice v.x.aw v.x.nw v.x.cw, .int .i64 v.x.lo, .int .i64 v.x.hi, .slice v.x.aa v.x.na v.x.ca, .slice v.au v.nu v.cu, .int .i64 v.amount]] w (CondQ c w) := by
 obtain ⟨-, -, hex, hnu, -, -, hwb, -⟩ := hc
 have HEX := hI hex
 have HWB := hI hwb
 have HNU := hI hnu
 obtain ⟨wa, hwa⟩ : ∃ wa, wa = w.alloc (.cells #[.int .i64 v.kind, .string v.name, .int .i64 v.x.op, .string v.x.name, .slice v.x.aw v.x.nw v.x.cw, .int .i64 v.x.lo, .int .i64 v.x.hi, .slice v.x.aa v.x.na v.x.ca, .slice v.au v.nu v.cu, .int .i64 v.amount] 48) := ⟨_, rfl⟩
 have hxa : Ext w wa := by rw [hwa]; exact (Ext.refl _).alloc _
 have hb : wa.heap[w.heap.size]? = some (.cells #[.int .i64 v.kind, .string v.name, .int .i64 v.x.op, .string v.x.name, .slice v.x.aw v.x.nw v.x.cw, .int .i64 v.x.lo, .int .i64 v.x.hi, .slice v.x.aa v.x.na v.x.ca, .slice v.au v.nu v.cu, .int .i64 v.amount] 48 (0, 0)) := by rw [hwa]; exact alloc_new w _
 have HXA := hI hxa
 obtain ⟨b0, b1, b2, b3, b4, b5, b6, b7, b8, b9, bf⟩ := blk10r hb
 have hltw := blk_lt hb
 clear hxa hb hex hwb hnu
 go_enter Tryz.func82, Tryz.ntmps82
 go_upto_region 1 with fail
 rw [<- hwa]
 clear hwa
 obtain ⟨wx, hwx⟩ : ∃ wx, wx = wa.alloc (.cells #[.int .i64 v.x.op, .string v.x.name, .slice v.x.aw v.x.nw v.x.cw, .int .i64 v.x.lo, .int .i64 v.x.hi, .slice v.x.aa v.x.na v.x.ca] 45) := ⟨_, rfl⟩
 have HXX := hI (show Ext wa wx by rw [hwx]; exact (Ext.refl _).alloc _)
 have HOW := hI (show wx.ownsRow wa.heap.size 45 6 (.slice (some ⟨wa.heap.size, 0, none⟩) 1 1) 1 v.x.cells by rw [hwx]; exact owns_newC wa #[.int .i64 v.x.op, .string v.x.name, .slice v.x.aw v.x.nw v.x.cw, .int .i64 v.x.lo, .int .i64 v.x.hi, .slice v.x.aa v.x.na v.x.ca] 45 (by simp) (by unfold maxLen; omega) (Nat.le_refl _))
 have HEC := hI (exceptions_calls (wbN c.unl + 1) c.unl v.au v.nu v.cu wa.heap.size (.slice (some ⟨wa.heap.size, 0, none⟩) 1 1) 1 v.x.cells wx (by omega) HNU.out (by omega) HWB.out (HXA.out.trans HXX.out) HXA.out.size HXX.out.size HOW.out)
 go_wp2_with fail
 rw [<- hwx]
 clear hwx
 refine HEC.out.mono ?_
 rintro r w3 ⟨v3, ys, rfl, hown, hys, hch, hfr⟩
 have HO3 := hI hown
 have HY3 := hI hys
 have HX3 := hI (show Ext w w3 from hch.ext (HXA.out.trans HXX.out) (fun y hy => by have h1 := (HOW.out.lt y (mem_rowOf.1 hy)).1; have := HXA.out.size; omega))
 clear hown hys hch hfr b0 b1 b2 b3 b4 b5 b6 b7 b8 b9 bf hltw HEC
 obtain ⟨a3, c3, hv3⟩ := owns_formG HO3.out
 subst hv3
 go_wp2_with fail
 go_ret
 have hl : (condsC c).length = 1 + wbN c.unl := condsC_len c
 have hR : ExsR w (condsC c) (v.x :: ys) := by
  have h1 : ExsR w [c.cond] [v.x] := (ExsR.nil w).snoc HEX.out
  simpa [condsC] using h1.app HY3.out
 obtain ⟨a', c', e', h1, h2, h3⟩ := exs_owns (M := []) (l := condsC c) (xs := v.x :: ys) (by rw [hl]; simpa using HO3.out) (by simp) (hR.mono (HX3.out.sub.trans (sub_mask_nil _)))
 rw [hl] at e'
 simp only [Value.slice.injEq, true_and] at e'
 obtain ⟨rfl, rfl⟩ := e'
 exact ⟨_, _, _, rfl, hl.symm, by rw [<- hl]; exact h1, ExsD.mono (mask_sub _ _) _ _ h3, HX3.out⟩
theorem nodesErrL_app (s : List Attr) (l : List Cla) : (a b : List Ex) -> nodesErrL s l (a ++ b) = if nodesErrL s l a ≠ 0 then nodesErrL s l a else nodesErrL s l b
 | [], b => by simp [nodesErrL]
 | e :: r, b => by
  have ih := nodesErrL_app s l r b
  simp only [List.cons_append]
  rw [nodesErrL, nodesErrL, ih]
  by_cases h : nodesErr s l e ≠ 0
  ·rw [if_pos h, if_pos h, if_pos h]
  rw [if_neg h, if_neg h]
theorem backsErr_conds (s : List Attr) (l : List Cla) : (u : List Wb) -> backsErr s l u = nodesErrL s l (condsW u)
 | [] => by rw [backsErr, condsW, nodesErrL]
 | .mk n c u :: r => by
  rw [backsErr, condsW, nodesErrL, nodesErrL_app, backsErr_conds s l u, backsErr_conds s l r]
theorem backsLarge_conds (l : List Cla) : (u : List Wb) -> backsLarge l u = (condsW u).any fun x => decide (2000 < expanded l x)
 | [] => by rw [backsLarge, condsW]; rfl
 | .mk n c u :: r => by
  rw [backsLarge, condsW, backsLarge_conds l u, backsLarge_conds l r]
  simp [List.any_append, Bool.or_assoc]
theorem backs_refs : (d : Nat) -> (u : List Wb) -> backsB d u = true -> ∀ x ∈ condsW u, refExprB x = true
 | _, [], _, x, hx => by simp [condsW] at hx
 | d, .mk n c u :: r, h, x, hx => by
  rw [backsB] at h
  simp only [Bool.and_eq_true] at h
  rw [condsW] at hx
  rcases List.mem_cons.1 hx with rfl | hx
  ·exact h.1.1.2
  rcases List.mem_append.1 hx with hx | hx
  ·exact backs_refs _ u h.1.2 x hx
  exact backs_refs _ r h.2 x hx
theorem clause_refs {c : Cla} (h : clauseB c = true) : (∀ x ∈ condsC c, refExprB x = true) /\ wbN c.unl <= 40 := by
 have h0 := clauseB_cond h
 rw [clauseB_eq] at h
 simp only [Bool.and_eq_true, decide_eq_true_eq] at h
 refine ⟨fun x hx => ?_, by have := h.2.2; omega⟩
 rcases List.mem_cons.1 hx with rfl | hx
 ·exact h0
 exact backs_refs _ _ h.2.1 x hx
theorem conds_fit : (u : List Wb) -> wbFits u -> ∀ x ∈ condsW u, x.fits /\ x.few
 | [], _, x, hx => by simp [condsW] at hx
 | .mk n c u :: r, h, x, hx => by
  rw [wbFits] at h
  rw [condsW] at hx
  rcases List.mem_cons.1 hx with rfl | hx
  ·exact ⟨h.2.1, h.2.2.1⟩
  rcases List.mem_append.1 hx with hx | hx
  ·exact conds_fit u h.2.2.2.2.2.1 x hx
  exact conds_fit r h.2.2.2.2.2.2 x hx
theorem condsC_fit {c : Cla} (h : c.fit) : ∀ x ∈ condsC c, x.fits /\ x.few := fun x hx => by
 rcases List.mem_cons.1 hx with rfl | hx
 ·exact ⟨h.2.1, h.2.2.1⟩
 exact conds_fit _ h.2.2.2.2.2 x hx
def ccErr (s : List Attr) (l : List Cla) (bef : List Cla) (c : Cla) : Int :=
 if clauseB c = false then 5 else if (findAt bef c.name).isSome then 8 else if (attrAt s c.name).isSome then 8 else nodesErrL s l (condsC c)
theorem ccErr_eq (s : List Attr) (l : List Cla) {i : Nat} (hi : i < l.length) : ccErr s l (l.take i) l[i] = claErr s l i := by
 unfold ccErr claErr
 rw [getD_cla hi]
 have hf : (findAt (l.take i) l[i].name).isSome = decide ((findAt l l[i].name).getD 0 < i) := by
  unfold findAt
  cases h : l.findIdx? (fun c => decide (c.name = l[i].name)) with
  | none =>
   rw [List.findIdx?_eq_none_iff] at h
   have := h l[i] (List.getElem_mem hi)
   simp at this
  | some f =>
   rw [List.findIdx?_eq_some_iff_getElem] at h
   obtain ⟨hf, h1, h2⟩ := h
   by_cases hfi : f < i
   ·have : (l.take i).findIdx? (fun c => decide (c.name = l[i].name)) = some f := by
     rw [List.findIdx?_eq_some_iff_getElem]
     exact ⟨by simp; omega, by simpa using h1, fun j hj => by simpa using h2 j hj⟩
    rw [this]
    simp [hfi]
   have : (l.take i).findIdx? (fun c => decide (c.name = l[i].name)) = none := by
    rw [List.findIdx?_eq_none_iff]
    intro x hx
    obtain ⟨j, hj, rfl⟩ := List.mem_iff_getElem.1 hx
    have := h2 j (by simp at hj; omega)
    simpa using this
   rw [this]
   simp [hfi]
 rw [hf, backsErr_conds]
 have hc : nodesErrL s l (condsC l[i]) = if nodesErr s l l[i].cond ≠ 0 then nodesErr s l l[i].cond else nodesErrL s l (condsW l[i].unl) := by rw [condsC, nodesErrL]
 rw [hc]
 simp only [decide_eq_true_eq]
theorem cclause_calls (s : List Attr) (hse : schemaErr s = 0) (l bef : List Cla) (hf : ∀ x ∈ s, x.fits) (hsl : s.length <= 1000000000000000) (bm nm : Nat) (ba : OA) (bn bc : Nat) (c : Cla) (v : ClV) (sv : Value) (w : World) (hok : c.fit) (ho : HasOps w) (hs : IsSchema w s sv) (hd : DefsAt w l bm nm) (hb : IsClas w bef ba bn bc) (hbn : bn <= 1000000000000000) (hc : IsCla w c v) :
  Calls Tryz.prog 79 #[sv, .map (some bm), .slice ba bn bc, .agg #[.int .i64 v.kind, .string v.name, .int .i64 v.x.op, .string v.x.name, .slice v.x.aw v.x.nw v.x.cw, .int .i64 v.x.lo, .int .i64 v.x.hi, .slice v.x.aa v.x.na v.x.ca, .slice v.au v.nu v.cu, .int .i64 v.amount]] w (GivesE (.int .i64 (ccErr s l bef c)) w) := by
 obtain ⟨sa, sn, sc, rfl, hsn⟩ := hs.slice
 have HS := hI hs
 have HD := hI hd
 have HC := hI hc
 have HOK := hI hok
 have HVA := hI (fun (W : World) (hW : Ext w W) (g : Nat) (hg : W.heap[g]? = some (.cells v.cells.toArray 48 (0, 0))) => sValid1_calls [c] (some ⟨g, 0, none⟩) 1 1 W (isCla_one hg (hc.mono hW.sub)) (ho.ext hW) (by simpa using hok) (by omega))
 have HFI := hI (fun (W : World) (hW : Ext w W) => sFind_calls bef ba bn bc v.name W (hb.ext hW) hbn)
 have HIX := hI (fun (W : World) (hW : Ext w W) => sIndex_calls s (.agg #[.slice sa sn sc]) v.name W (hs.ext hW) hsl)
 have HXE := hI (fun (e : Ex) (ev : Value) (W : World) (hW : Ext w W) (h1 : e.few) (h2 : e.fits) (he : IsEx W e ev) => cexpression_calls s hse l hf hsl bm nm e ev (.agg #[.slice sa sn sc]) W h1 h2 (ho.ext hW) (hs.ext hW) (hd.ext hW) he)
 rw [clausesB_one] at HVA
 have hnm : v.name = c.name := hc.2.1
 obtain ⟨R, hR⟩ : ∃ R, R = ccErr s l bef c := ⟨_, rfl⟩
 rw [<- hR]
 have HR := hI (show R = if clauseB c = false then 5 else if (findAt bef v.name).isSome then 8 else if (attrAt s v.name).isSome then 8 else nodesErrL s l (condsC c) by rw [hnm]; exact hR)
 clear hnm
 obtain ⟨wa, hwa⟩ : ∃ wa, wa = (w.alloc (.cells #[.slice sa sn sc] 24)).alloc (.cells #[.int .i64 v.kind, .string v.name, .int .i64 v.x.op, .string v.x.name, .slice v.x.aw v.x.nw v.x.cw, .int .i64 v.x.lo, .int .i64 v.x.hi, .slice v.x.aa v.x.na v.x.ca, .slice v.au v.nu v.cu, .int .i64 v.amount] 48) := ⟨_, rfl⟩
 have hxa : Ext w wa := by rw [hwa]; exact ((Ext.refl _).alloc _).alloc _
 have hb0 : wa.heap[w.heap.size]? = some (.cells #[.slice sa sn sc] 24 (0, 0)) := by rw [hwa]; exact blk_alloc (alloc_new w _)
 have hb1 : wa.heap[w.heap.size + 1]? = some (.cells #[.int .i64 v.kind, .string v.name, .int .i64 v.x.op, .string v.x.name, .slice v.x.aw v.x.nw v.x.cw, .int .i64 v.x.lo, .int .i64 v.x.hi, .slice v.x.aa v.x.na v.x.ca, .slice v.au v.nu v.cu, .int .i64 v.amount] 48 (0, 0)) := by rw [hwa]; exact alloc_atR (by simp)
 have HXA := hI hxa
 have HB0 := hI hb0
 have HB1 := hI hb1
 obtain ⟨b0, b1, b2, b3, b4, b5, b6, b7, b8, b9, bf⟩ := blk10r hb1
 have hlt1 := blk_lt hb1
 clear hs hd hc hok hb ho hR hsn hxa hb0 hb1 hf
 go_enter Tryz.func79, Tryz.ntmps79
 go_upto_region 1 with fail
 rw [<- hwa]
 clear hwa
 obtain ⟨wx, hwx⟩ : ∃ wx, wx = wa.alloc (.cells #[.int .i64 v.kind, .string v.name, .int .i64 v.x.op, .string v.x.name, .slice v.x.aw v.x.nw v.x.cw, .int .i64 v.x.lo, .int .i64 v.x.hi, .slice v.x.aa v.x.na v.x.ca, .slice v.au v.nu v.cu, .int .i64 v.amount] 48) := ⟨_, rfl⟩
 have hxx : Ext wa wx := by rw [hwx]; exact (Ext.refl _).alloc _
 have HBX := hI (show wx.heap[wa.heap.size]? = some (.cells v.cells.toArray 48 (0, 0)) by rw [hwx]; exact alloc_new wa _)
 have HXX := hI (HXA.out.trans hxx)
 have HB0 := hI (hxx.blk HB0.out)
 have HB1 := hI (hxx.blk HB1.out)
 clear hxx
 go_wp2_with fail
 rw [<- hwx]
 clear hwx
 refine (HVA.out wx HXX.out wa.heap.size HBX.out).mono ?_
 rintro r w3 ⟨rfl, hx3⟩
 have HX3 := hI (HXX.out.trans hx3)
 have HB03 := hI (hx3.blk HB0.out)
 have HB13 := hI (hx3.blk HB1.out)
 clear hx3 b0 b1 b2 b3 b4 b5 b6 b7 b8 b9 bf hlt1 HVA
 obtain ⟨CB, hCB⟩ : ∃ CB, CB = clauseB c := ⟨_, rfl⟩
 rw [<- hCB] at HR ⊢
 have HCB := hI hCB
 clear hCB
 cases CB
 ·have HQ := hI (show R = 5 by rw [HR.out]; rfl)
  go_wp2_with fail
  go_ret
  exact givesE_of (by rw [HQ.out]) HX3.out
 have HR2 := hI (show R = if (findAt bef v.name).isSome then 8 else if (attrAt s v.name).isSome then 8 else nodesErrL s l (condsC c) by rw [HR.out]; rfl)
 clear HR
 obtain ⟨b0, b1, b2, b3, b4, b5, b6, b7, b8, b9, bf⟩ := blk10r HB13.out
 have hlt1 := blk_lt HB13.out
 obtain ⟨q, hq⟩ : ∃ q, q = (findAt bef v.name).getD 0 := ⟨_, rfl⟩
 obtain ⟨fb, hfb⟩ : ∃ fb, fb = (findAt bef v.name).isSome := ⟨_, rfl⟩
 have HFV := hI (show optV (findAt bef v.name) = .tuple #[.int .i64 (q : Nat), .bool fb] by rw [hq, hfb]; rfl)
 rw [<- hfb] at HR2
 clear hq hfb
 go_wp2_with fail
 refine (HFI.out w3 HX3.out).mono ?_
 rw [HFV.out]
 rintro r w4 ⟨rfl, hx4⟩
 have HX4 := hI (HX3.out.trans hx4)
 have HB04 := hI (hx4.blk HB03.out)
 have HB14 := hI (hx4.blk HB13.out)
 clear hx4 b0 b1 b2 b3 b4 b5 b6 b7 b8 b9 bf hlt1 HFI HFV
 cases fb
 case true =>
  have HQ := hI (show R = 8 by rw [HR2.out]; rfl)
  go_wp2_with fail
  go_ret
  exact givesE_of (by rw [HQ.out]) HX4.out
 have HR3 := hI (show R = if (attrAt s v.name).isSome then 8 else nodesErrL s l (condsC c) by rw [HR2.out]; rfl)
 clear HR2
 obtain ⟨a0, af⟩ := blk1 HB04.out
 obtain ⟨b0, b1, b2, b3, b4, b5, b6, b7, b8, b9, bf⟩ := blk10r HB14.out
 have hlt1 := blk_lt HB14.out
 obtain ⟨q, hq⟩ : ∃ q, q = (attrAt s v.name).getD 0 := ⟨_, rfl⟩
 obtain ⟨fb, hfb⟩ : ∃ fb, fb = (attrAt s v.name).isSome := ⟨_, rfl⟩
 have HFV := hI (show optV (attrAt s v.name) = .tuple #[.int .i64 (q : Nat), .bool fb] by rw [hq, hfb]; rfl)
 rw [<- hfb] at HR3
 clear hq hfb
 go_wp2_with fail
 refine (HIX.out w4 HX4.out).mono ?_
 rw [HFV.out]
 rintro r w5 ⟨rfl, hx5⟩
 have HX5 := hI (HX4.out.trans hx5)
 have HB05 := hI (hx5.blk HB04.out)
 have HB15 := hI (hx5.blk HB14.out)
 clear hx5 a0 af b0 b1 b2 b3 b4 b5 b6 b7 b8 b9 bf hlt1 HIX HFV
 cases fb
 case true =>
  have HQ := hI (show R = 8 by rw [HR3.out]; rfl)
  go_wp2_with fail
  go_ret
  exact givesE_of (by rw [HQ.out]) HX5.out
 have HR4 := hI (show R = nodesErrL s l (condsC c) by rw [HR3.out]; rfl)
 clear HR3
 obtain ⟨b0, b1, b2, b3, b4, b5, b6, b7, b8, b9, bf⟩ := blk10r HB15.out
 have hlt1 := blk_lt HB15.out
 have hwb := (clause_refs HCB.out.symm).2
 have HRF := hI (clause_refs HCB.out.symm).1
 have HFT := hI (condsC_fit HOK.out)
 have HCN := hI (conditions_calls c v w5 (HC.out.mono HX5.out.sub) (by omega))
 go_wp2_with fail
 refine HCN.out.mono ?_
 rintro r w6 ⟨ea, en, ek, rfl, hen, henk, hed, hx6⟩
 have HX6 := hI (HX5.out.trans hx6)
 have HB06 := hI (hx6.blk HB05.out)
 have HED := hI hed
 have HEN := hI hen
 have hen2 : en <= 41 := by have := condsC_len c; omega
 clear hx6 hed hen b0 b1 b2 b3 b4 b5 b6 b7 b8 b9 bf hlt1 HCN
 go_wp2_with fail
 go_loopw [40] (fun t wr => ∃ k : Nat, t = .int .i64 k /\ k <= en /\ (∀ j (h : j < (condsC c).length), j < k -> nodesErr s l (condsC c)[j] = 0) /\ wr.heap[w.heap.size]? = some (.cells #[.slice sa sn sc] 24 (0, 0)) /\ Ext w6 wr) (fun t _ => en - (intOf t).toNat)
 case atStart => exact ⟨0, rfl, by omega, fun j _ h => by omega, HB06.out, Ext.refl _⟩
 case round =>
  obtain ⟨k, rfl, hk, hall, hbx, hxr⟩ := hrel
  have HALL := hI hall
  have HBX2 := hI hbx
  have HXR := hI hxr
  obtain ⟨a0, af⟩ := blk1 hbx
  have hlt0 := blk_lt hbx
  clear hall hbx hxr
  by_cases hkn : k < en
  ·have hkl : k < (condsC c).length := by have := HEN.out; omega
   have t1 : decide ((k : Int) < (en : Int)) = true := decide_eq_true (by omega)
   obtain ⟨b, off, rfl, aw1, nw1, cw1, aa1, na1, ca1, h0, h1, h2, h3, h4, h5, h6⟩ := ExsD.at (condsC c) _ (ExsD.ext HXR.out (condsC c) _ HED.out) k hkl
   have hmem := List.getElem_mem hkl
   have HCX := hI (fun (W : World) (hW : Ext wr W) => HXE.out (condsC c)[k] _ W ((HX6.out.trans HXR.out).trans hW) (HFT.out _ hmem).2 (HFT.out _ hmem).1 (h6.ext hW))
   have HEE := hI (show exprnErr s l (condsC c)[k] = nodesErr s l (condsC c)[k] by unfold exprnErr; rw [HRF.out _ hmem]; simp)
   have hblt := block_lt h0
   simp only at hblt
   unfold exV at HCX
   clear h6 hmem
   rw [HEE.out] at HCX
   obtain ⟨E1, hE1⟩ : ∃ E1, E1 = nodesErr s l (condsC c)[k] := ⟨_, rfl⟩
   rw [<- hE1] at HCX
   have HE1 := hI hE1
   clear hE1
   go_wp2_with fail
   refine (HCX.out _ ((Ext.refl wr).alloc _)).mono ?_
   rintro r w7 ⟨rfl, hx7⟩
   have HX7 := hI ((HXR.out.alloc _).trans hx7)
   have HB7 := hI (hx7.blk (blk_alloc HBX2.out))
   clear hx7 h0 h1 h2 h3 h4 h5 a0 af hlt0 HCX
   by_cases hz1 : E1 = 0
   ·have tz1 : (E1 != 0) = false := by simp [hz1]
    have HZ1 := hI (HE1.out.symm.trans hz1)
    clear hz1
    go_wp2_with fail
    go_roundw
    case rel =>
     refine ⟨k + 1, by go_num, by omega, fun j hj hjk => ?_, HB7.out, HX7.out⟩
     by_cases e0 : j = k
     ·subst e0; exact HZ1.out
     exact HALL.out j hj (by omega)
    case measure => simp [intOf]; omega
   have tz1 : (E1 != 0) = true := by simp [hz1]
   have HQ := hI (show R = E1 by rw [HR4.out, nodesErrL_hit (condsC c) k hkl (by rw [<- HE1.out]; exact hz1) (fun j hj => HALL.out j (by omega) hj), HE1.out])
   clear hz1
   go_wp2_with fail
   go_ret
   exact givesE_of (by rw [HQ.out]) (HX6.out.trans HX7.out)
  have t1 : decide ((k : Int) < (en : Int)) = false := decide_eq_false (by omega)
  have HQ := hI (show R = 0 by rw [HR4.out, nodesErrL_zero (condsC c) fun j hj => HALL.out j hj (by have := HEN.out; omega)])
  go_wp2_with fail
  go_ret
  exact givesE_of (by rw [HQ.out]) (HX6.out.trans HXR.out)
theorem sizesF_le (l : List Cla) : (o : ZN) -> ∀ s n, sizesF l o s = some n -> n <= 2001 := by
 intro o
 generalize hm : o.length = m
 induction m generalizing o with
 | zero => intro s n h; rw [List.eq_nil_of_length_eq_zero hm] at h; simp [sizesF] at h
 | succ m ih =>
  intro s n h
  have hne : o ≠ [] := by intro e; rw [e] at hm; cases hm
  obtain ⟨r, i, rfl⟩ : ∃ r i, o = r ++ [i] := ⟨o.dropLast, o.getLast hne, (List.dropLast_concat_getLast hne).symm⟩
  have hr := ih r (by simpa using hm)
  rw [sizesF_snoc] at h
  by_cases e : s = (l.getD i cla0).name
  ·rw [if_pos e] at h
   cases h
   exact szE_le hr _
  rw [if_neg e] at h
  exact hr s n h
theorem natF_step {l : List Cla} {o : ZN} {i : Nat} (x : Lit) : setF (strF (natF (sizesF l o))) (.string (l.getD i cla0).name.data.toList) (some (.int .i64 (szE (sizesF l o) (l.getD i cla0).cond))) x = strF (natF (sizesF l (o ++ [i]))) x := by
 rw [setF_str]
 cases x <;> try rfl
 rename_i bs
 simp only [strF]
 by_cases e : (⟨bs.toArray⟩ : BA) = (l.getD i cla0).name
 ·rw [e, upS_same, natF, sizesF_snoc, if_pos rfl]
  rfl
 rw [upS_other _ _ e, natF, natF, sizesF_snoc, if_neg e]
theorem wpOp_last {P : Program} {ops : Array Oper} {Q : Exit -> Act -> World -> Prop} {a : Act} {w : World} {i : Nat} {o : Oper} (ho : ops[i]? = some o) (h : wpList P ops Q [o] a w) : wpOp P ops Q i (fun a w => Q .normal a w) a w := by
 unfold wpOp
 rw [ho]
 exact h
def sizV (bf cb coff n c i : Nat) (v : ClV) (z : Nat) : Nat -> Value
 | 0 => .map (some bf) | 6 => .map (some bf)
 | 1 => .slice (some ⟨cb, coff, none⟩) n c | 7 => .slice (some ⟨cb, coff, none⟩) n c
 | 2 => .int .i64 i | 8 => .int .i64 i
 | 3 => .pointer (some ⟨cb, coff + i * 10, none⟩) | 9 => .pointer (some ⟨cb, coff + i * 10, none⟩)
 | 4 => .pointer (some ⟨cb, coff + i * 10 + 1, none⟩) | 10 => .pointer (some ⟨cb, coff + i * 10 + 2, none⟩)
 | 5 => .string v.name
 | 11 => .agg #[.int .i64 v.x.op, .string v.x.name, .slice v.x.aw v.x.nw v.x.cw, .int .i64 v.x.lo, .int .i64 v.x.hi, .slice v.x.aa v.x.na v.x.ca]
 | _ => .int .i64 z
def SizG (wr W : World) : Prop := Ext wr W
def SizE (_ : Nat) (W W' : World) : Prop := Ext W W'
def SizR (f : Nat -> Value) (j : Nat) (u : Value) (_ : World) : Prop := u = f j
def SizesQ (l : List Cla) (o : ZN) (w : World) (e : Ending) (w' : World) : Prop := ∃ b, e = .returned (.map (some b)) /\ MapAt w' 9 b o.length (strF (natF (sizesF l o))) /\ Ext w w'
theorem sizes_calls (l : List Cla) (a : OA) (n c : Nat) (o : ZN) (oa : OA) (oc : Nat) (w : World) (hl : IsClas w l a n c) (_hn : n <= 1000000) (ho : IsInts w (ints o) oa o.length oc) (hol : o.length <= 1000000) (hlt : ∀ i ∈ o, i < l.length)
  (hsz : ∀ x ∈ l, x.name.size <= 1000000000000000 /\ x.cond.size <= 1000000000000000 /\ x.cond.fits) :
  Calls Tryz.prog 81 #[.slice a n c, .slice oa o.length oc] w (SizesQ l o w) := by
 have HL := hI hl
 have HN := hI hl.len
 have HSZ := hI hsz
 have HO := hI ho
 have HLT := hI hlt
 clear hl hsz ho hlt
 have hmm := @run_makeMap Tryz.prog
 have HM0 := hI (MapAt.made w 9)
 have HX0 := hI ((Ext.refl w).alloc (.map #[] 0))
 obtain ⟨bf, hbf⟩ : ∃ bf : Nat, bf = w.heap.size := ⟨_, rfl⟩
 rw [<- hbf] at HM0
 have HBF := hI hbf
 go_enter Tryz.func81, Tryz.ntmps81
 go_wp2_with fail
 rw [<- hbf]
 clear hbf hmm
 go_loopw [11] (fun i wr => ∃ k : Nat, k <= o.length /\ i = .int .i64 k /\ MapAt wr 9 bf k (strF (natF (sizesF l (o.take k)))) /\ Ext w wr) (fun i _ => o.length - (intOf i).toNat)
 case atStart =>
  refine ⟨0, by omega, rfl, HM0.out.congr fun x => ?_, HX0.out⟩
  cases x <;> simp [strF, natF, sizesF]
 case round =>
  obtain ⟨k, hk, rfl, hmap, hx⟩ := hrel
  have HMP := hI hmap
  have HX := hI hx
  have hbw := hmap.lt
  clear hmap hx HM0 HX0
  by_cases hlt : k < o.length
  ·have t1 : decide ((k : Int) < (o.length : Int)) = true := decide_eq_true (by omega)
   obtain ⟨ob, ooff, rfl, oc1⟩ := (HO.out.mono HX.out.sub).2.2.2 k (by simpa [ints] using hlt)
   obtain ⟨i, hi⟩ : ∃ i, i = o[k] := ⟨_, rfl⟩
   have e1 : (ints o)[k]'(by simpa [ints] using hlt) = (i : Int) := by simp [ints, hi]
   rw [e1] at oc1
   have hil : i < l.length := HLT.out i (by rw [hi]; exact List.getElem_mem hlt)
   have hin : i < n := by have := HN.out; omega
   obtain ⟨cb, coff, v, rfl, hcla, hrow⟩ := (HL.out.ext HX.out).at hil
   obtain ⟨c0, c1, c2, c3, c4, c5, c6, c7, c8, c9⟩ := hrow.ten
   have hszi := HSZ.out _ (List.getElem_mem hil)
   have hns : v.name.size <= 1000000000000000 := by rw [hcla.2.1]; exact hszi.1
   have HEX := hI (show IsEx wr l[i].cond (.agg #[.int .i64 v.x.op, .string v.x.name, .slice v.x.aw v.x.nw v.x.cw, .int .i64 v.x.lo, .int .i64 v.x.hi, .slice v.x.aa v.x.na v.x.ca]) from hcla.2.2.1)
   have HST := hI (@natF_step l (o.take k) i)
   have e2 : o.take k ++ [i] = o.take (k + 1) := by rw [hi, List.take_succ_eq_append_getElem hlt]
   rw [getD_cla hil, <- hcla.2.1, e2] at HST
   have HSI := hI hszi
   have ti0 : (0 : Int) <= (i : Int) := by omega
   have ti1 : (i : Int) < (n : Int) := by omega
   clear hcla hrow e1 e2 hi hszi
   go_upto_region 5 with fail
   have HCE := hI (fun (W : World) (hW : Ext wr W) => cexp_calls (sizesF l (o.take k)) (sizesF_le l _) bf k 1000000000000000 l[i].cond _ W HSI.out.2.1 (by omega) HSI.out.2.2 (HMP.out.ext hW) (HEX.out.ext hW))
   obtain ⟨Z, hZ⟩ : ∃ Z, Z = szE (sizesF l (o.take k)) l[i].cond := ⟨_, rfl⟩
   rw [<- hZ] at HCE HST
   clear hZ
   refine wp_region_grow (m := 13) [0, 5, 12] (SizG wr) SizE (SizR (sizV bf cb coff n c i v Z)) (by kernel_rfl) (by kernel_rfl) ((Ext.refl wr).drew) ?_ ?_ ?_
   ·exact fun _ _ _ _ _ _ _ _ _ h _ => h
   ·intro q op hq ho vs W hW hd ρ hρ
    have hq' := ltc13 hq
    clear hq
    have o5 : ρ (.tmp 5) = .map (some bf) := hρ.out 5 rfl
    have o0 : ρ (.tmp 0) = .slice (some ⟨cb, coff, none⟩) n c := hρ.out 0 rfl
    have o7 : ρ (.tmp 7) = .int .i64 i := hρ.out 7 rfl
    have i1 := hρ.i 1 16
    have i2 := hρ.i 2 17
    have i3 := hρ.i 3 18
    have i4 := hρ.i 4 19
    have i7 := hρ.i 7 22
    have i8 := hρ.i 8 23
    have i9 := hρ.i 9 24
    have i10 := hρ.i 10 25
    have i6 := hρ.i 6 21
    have i11 := hρ.i 11 26
    have hc := hρ.const
    have hfn := hρ.func
    clear hρ
    have hW : Ext wr W := hW
    have HW := hI hW
    clear hW
    rcases hq' with rfl | rfl | rfl | rfl | rfl | rfl | rfl | rfl | rfl | rfl | rfl | rfl | rfl
    ·cases ho; unfold GivesOp; go_simp; exact ⟨Ext.refl W, rfl⟩
    ·cases ho; unfold GivesOp; go_simp; exact ⟨Ext.refl W, rfl⟩
    ·cases ho; unfold GivesOp; go_simp; exact ⟨Ext.refl W, rfl⟩
    ·cases ho
     have h1 : vs 1 = _ := hd ⟨1, .data⟩ (by simp) rfl
     have h2 : vs 2 = _ := hd ⟨2, .data⟩ (by simp) rfl
     rw [h1] at i1; rw [h2] at i2
     simp only [sizV] at i1 i2
     unfold GivesOp; go_simp; exact ⟨Ext.refl W, rfl⟩
    ·cases ho
     have h3 : vs 3 = _ := hd ⟨3, .data⟩ (by simp) rfl
     rw [h3] at i3
     simp only [sizV] at i3
     unfold GivesOp; go_simp; exact ⟨Ext.refl W, rfl⟩
    ·cases ho
     have h4 : vs 4 = _ := hd ⟨4, .data⟩ (by simp) rfl
     rw [h4] at i4
     simp only [sizV] at i4
     have g1 := HW.out.cell c1
     unfold GivesOp; go_simp; exact ⟨Ext.refl W, rfl⟩
    ·cases ho; unfold GivesOp; go_simp; exact ⟨Ext.refl W, rfl⟩
    ·cases ho; unfold GivesOp; go_simp; exact ⟨Ext.refl W, rfl⟩
    ·cases ho; unfold GivesOp; go_simp; exact ⟨Ext.refl W, rfl⟩
    ·cases ho
     have h1 : vs 7 = _ := hd ⟨7, .data⟩ (by simp) rfl
     have h2 : vs 8 = _ := hd ⟨8, .data⟩ (by simp) rfl
     rw [h1] at i7; rw [h2] at i8
     simp only [sizV] at i7 i8
     unfold GivesOp; go_simp; exact ⟨Ext.refl W, rfl⟩
    ·cases ho
     have h3 : vs 9 = _ := hd ⟨9, .data⟩ (by simp) rfl
     rw [h3] at i9
     simp only [sizV] at i9
     unfold GivesOp; go_simp; exact ⟨Ext.refl W, rfl⟩
    ·cases ho
     have h4 : vs 10 = _ := hd ⟨10, .data⟩ (by simp) rfl
     rw [h4] at i10
     simp only [sizV] at i10
     have g2 := HW.out.cell c2
     have g3 := HW.out.cell c3
     have g4 := HW.out.cell c4
     have g5 := HW.out.cell c5
     have g6 := HW.out.cell c6
     have g7 := HW.out.cell c7
     unfold GivesOp; go_simp; exact ⟨Ext.refl W, rfl⟩
    cases ho
    have h6 : vs 6 = _ := hd ⟨6, .data⟩ (by simp) rfl
    have h11 : vs 11 = _ := hd ⟨11, .data⟩ (by simp) rfl
    rw [h6] at i6; rw [h11] at i11
    simp only [sizV] at i6 i11
    unfold GivesOp
    go_simp
    refine (HCE.out W HW.out).mono ?_
    rintro r w3 ⟨rfl, hx3⟩
    exact ⟨_, rfl, hx3, HW.out.trans hx3, rfl⟩ 
   intro vs W hW hR
   rw [if_neg (by decide +kernel)]
   have h0 : vs 0 = _ := hR 0 (by simp) (by omega)
   have h5 : vs 5 = _ := hR 5 (by simp) (by omega)
   have h12 : vs 12 = _ := hR 12 (by simp) (by omega)
   simp only [sizV] at h0 h5 h12
   simp only [acts, dstAt, List.range, List.range.loop, List.foldl_cons, List.foldl_nil, h0, h5, h12]
   have hmx := HMP.out.ext hW
   refine wpOp_last rfl ?_
   change wpList _ _ _ [⟨none, .mapUpdate _ (.tmp 15) (.tmp 20) (.tmp 27), _, _, _, none⟩] _ _
   go_simp
   refine wpList_map_put _ rfl _ _ _ 136 rfl 9 3 keyedStr uMapSI bf k _ rfl hmx ?c3 _ _ _ rfl rfl (keyStr hns) trivial ?_
   case c3 => unfold maxLen; omega
   intro w1 hm1 hc1
   have HM1 := hI (hm1.congr HST.out)
   have HX1 := hI (hc1.ext (HX.out.trans hW) (by rw [<- HBF.out]; simp))
   clear hm1 hc1
   go_wp2_with fail
   go_roundw
   case rel => exact ⟨k + 1, by omega, by go_num, HM1.out, HX1.out⟩
   case measure => simp [intOf]; omega
  have t1 : decide ((k : Int) < (o.length : Int)) = false := decide_eq_false (by omega)
  have HGE := hI (show MapAt wr 9 bf o.length (strF (natF (sizesF l o))) by have := HMP.out; rw [List.take_of_length_le (by omega)] at this; exact this.more hk)
  go_wp2_with fail
  go_ret
  exact ⟨bf, rfl, HGE.out, HX.out⟩
def nmsOf (u : List Cla) : ZB := u.map (·.name)
def ClosedE (l u : List Cla) (x : Ex) : Prop := ∀ s ∈ namesE x, ∀ d, defAt l s = some d -> s ∈ nmsOf u
structure RP (l : List Cla) (e : Ex) (u : List Cla) (xs : List Ex) : Prop where
 defs : ∀ c ∈ u, c.kind = 1 /\ ∃ d, defAt l c.name = some d /\ c.cond = (l.getD d cla0).cond /\ Reach l e d
 names : (nmsOf u).Nodup
 top : e ∈ xs \/ ClosedE l u e
 closed : ∀ c ∈ u, c.cond ∈ xs \/ ClosedE l u c.cond
 stack : ∀ x ∈ xs, x = e \/ ∃ c ∈ u, c.cond = x
 slen : xs.length <= u.length + 1
structure RPi (l : List Cla) (e : Ex) (u : List Cla) (xs : List Ex) (x : Ex) (ns : ZB) (j : Nat) : Prop where
 defs : ∀ c ∈ u, c.kind = 1 /\ ∃ d, defAt l c.name = some d /\ c.cond = (l.getD d cla0).cond /\ Reach l e d
 names : (nmsOf u).Nodup
 top : e ∈ xs \/ e = x \/ ClosedE l u e
 closed : ∀ c ∈ u, c.cond ∈ xs \/ c.cond = x \/ ClosedE l u c.cond
 stack : ∀ y ∈ xs, y = e \/ ∃ c ∈ u, c.cond = y
 cur : x = e \/ ∃ c ∈ u, c.cond = x
 done : ∀ i (h : i < ns.length), i < j -> ∀ d, defAt l ns[i] = some d -> ns[i] ∈ nmsOf u
 slen : xs.length <= u.length
theorem RP.start (l : List Cla) (e : Ex) : RP l e [] [e] := ⟨by simp, by simp [nmsOf], Or.inl (by simp), by simp, fun x hx => Or.inl (by simpa using hx), by simp⟩
theorem RP.pop {l : List Cla} {e : Ex} {u : List Cla} {xs : List Ex} {x : Ex} (h : RP l e u (xs ++ [x])) (ns : ZB) : RPi l e u xs x ns 0 := by
 refine ⟨h.defs, h.names, ?_, fun c hc => ?_, fun y hy => h.stack y (by simp [hy]), h.stack x (by simp), fun i _ h => by omega, by have := h.slen; simpa using this⟩
 ·rcases h.top with h1 | h1
  ·rcases List.mem_append.1 h1 with h2 | h2
   ·exact Or.inl h2
   exact Or.inr (Or.inl (by simpa using h2))
  exact Or.inr (Or.inr h1)
 rcases h.closed c hc with h1 | h1
 ·rcases List.mem_append.1 h1 with h2 | h2
  ·exact Or.inl h2
  exact Or.inr (Or.inl (by simpa using h2))
 exact Or.inr (Or.inr h1)
theorem RPi.end {l : List Cla} {e : Ex} {u : List Cla} {xs : List Ex} {x : Ex} {ns : ZB} {j : Nat} (h : RPi l e u xs x ns j) (hj : ns.length <= j) (hns : ∀ s, s ∈ ns ↔ s ∈ namesE x) : RP l e u xs := by
 have hx : ClosedE l u x := fun s hs d hd => by
  obtain ⟨i, hi, rfl⟩ := List.mem_iff_getElem.1 ((hns s).2 hs)
  exact h.done i hi (by omega) d hd
 refine ⟨h.defs, h.names, ?_, fun c hc => ?_, h.stack, Nat.le_succ_of_le h.slen⟩
 ·rcases h.top with h1 | rfl | h1
  ·exact Or.inl h1
  ·exact Or.inr hx
  exact Or.inr h1
 rcases h.closed c hc with h1 | h1 | h1
 ·exact Or.inl h1
 ·exact Or.inr (h1 ▸ hx)
 exact Or.inr h1
theorem RPi.skip {l : List Cla} {e : Ex} {u : List Cla} {xs : List Ex} {x : Ex} {ns : ZB} {j : Nat} (h : RPi l e u xs x ns j) (hj : j < ns.length) (hs : defAt l ns[j] = none \/ ns[j] ∈ nmsOf u) : RPi l e u xs x ns (j + 1) :=
 ⟨h.defs, h.names, h.top, h.closed, h.stack, h.cur, fun i hi hij d hd => by
  by_cases e' : i = j
  ·subst e'
   rcases hs with h1 | h1
   ·rw [h1] at hd; cases hd
   exact h1
  exact h.done i hi (by omega) d hd, h.slen⟩
theorem nmsOf_snoc (u : List Cla) (c : Cla) : nmsOf (u ++ [c]) = nmsOf u ++ [c.name] := by simp [nmsOf]
theorem RPi.step {l : List Cla} {e : Ex} {u : List Cla} {xs : List Ex} {x : Ex} {ns : ZB} {j : Nat} (h : RPi l e u xs x ns j) (hj : j < ns.length) (hns : ∀ s, s ∈ ns ↔ s ∈ namesE x) {d : Nat} (hd : defAt l ns[j] = some d) (hn : ns[j] ∉ nmsOf u) {c : Cla} (hk : c.kind = 1) (hnm : c.name = ns[j]) (hc : c.cond = (l.getD d cla0).cond) :
  RPi l e (u ++ [c]) (xs ++ [c.cond]) x ns (j + 1) := by
 have up : ∀ y, ClosedE l u y -> ClosedE l (u ++ [c]) y := fun y hy s hs d hd => by rw [nmsOf_snoc]; exact List.mem_append_left _ (hy s hs d hd)
 refine ⟨fun c' hc' => ?_, ?_, ?_, fun c' hc' => ?_, fun y hy => ?_, ?_, fun i hi hij d' hd' => ?_, by have := h.slen; simp; omega⟩
 ·rcases List.mem_append.1 hc' with h1 | h1
  ·exact h.defs c' h1
  obtain rfl : c' = c := by simpa using h1
  refine ⟨hk, d, by rw [hnm]; exact hd, hc, ?_⟩
  have hm := (hns _).1 (List.getElem_mem hj)
  rcases h.cur with rfl | ⟨c2, h2, rfl⟩
  ·exact Reach.base hm hd
  obtain ⟨_, d2, g1, g2, g3⟩ := h.defs c2 h2
  exact Reach.step g3 (g2 ▸ hm) hd
 ·rw [nmsOf_snoc, List.nodup_append]
  refine ⟨h.names, by simp, fun a ha b hb e => ?_⟩
  simp only [List.mem_singleton] at hb
  subst e hb
  exact hn (hnm ▸ ha)
 ·rcases h.top with h1 | h1 | h1
  ·exact Or.inl (List.mem_append_left _ h1)
  ·exact Or.inr (Or.inl h1)
  exact Or.inr (Or.inr (up _ h1))
 ·rcases List.mem_append.1 hc' with h1 | h1
  ·rcases h.closed c' h1 with h2 | h2 | h2
   ·exact Or.inl (List.mem_append_left _ h2)
   ·exact Or.inr (Or.inl h2)
   exact Or.inr (Or.inr (up _ h2))
  obtain rfl : c' = c := by simpa using h1
  exact Or.inl (by simp)
 ·rcases List.mem_append.1 hy with h1 | h1
  ·rcases h.stack y h1 with h2 | ⟨c2, h2, h3⟩
   ·exact Or.inl h2
   exact Or.inr ⟨c2, List.mem_append_left _ h2, h3⟩
  exact Or.inr ⟨c, by simp, (List.mem_singleton.1 h1).symm⟩
 ·rcases h.cur with h1 | ⟨c2, h2, h3⟩
  ·exact Or.inl h1
  exact Or.inr ⟨c2, List.mem_append_left _ h2, h3⟩
 rw [nmsOf_snoc]
 by_cases e' : i = j
 ·subst e'; simp [hnm]
 exact List.mem_append_left _ (h.done i hi (by omega) d' hd')
theorem RP.used {l : List Cla} {e : Ex} {u : List Cla} (h : RP l e u []) : Used l e u :=
 ⟨h.defs, h.names, fun s hs d hd => by
   rcases h.top with h1 | h1; · simp at h1
   exact h1 s hs d hd,
 fun c hc s hs d hd => by
   rcases h.closed c hc with h1 | h1; · simp at h1
   exact h1 s hs d hd⟩
theorem defs_len {l : List Cla} {e : Ex} {u : List Cla} (h1 : ∀ c ∈ u, c.kind = 1 /\ ∃ d, defAt l c.name = some d /\ c.cond = (l.getD d cla0).cond /\ Reach l e d) (h2 : (nmsOf u).Nodup) : u.length <= l.length := by
 have key := nodup_le (u.map fun c => (defAt l c.name).getD 0) (List.range l.length) ?_ ?_
 ·simpa using key
 ·rw [List.Nodup, List.pairwise_map]
  rw [List.Nodup, nmsOf, List.pairwise_map] at h2
  refine h2.imp_of_mem fun {a b} ha hb hne he => ?_
  obtain ⟨_, d, g2, _⟩ := h1 a ha
  obtain ⟨_, d', g3, _⟩ := h1 b hb
  rw [g2, g3] at he
  simp only [Option.getD_some] at he
  subst he
  exact hne ((defAt_name g2).1.symm.trans (defAt_name g3).1)
 intro x hx
 obtain ⟨c, hc, rfl⟩ := List.mem_map.1 hx
 obtain ⟨_, d, g2, _⟩ := h1 c hc
 rw [g2]
 exact List.mem_range.2 (defAt_lt g2)
structure RcS (w : World) (bs : Nat) (lv xv : Value) (u : List Cla) (vs : List ClV) (xs : List Ex) (evs : List ExV) (wr : World) : Prop where
 ext : Ext w wr
 cla : ClasR w u vs
 own : wr.ownsRow w.heap.size 48 10 lv u.length (vs.flatMap ClV.cells)
 ex : ExsR w xs evs
 xown : wr.ownsRow w.heap.size 45 6 xv xs.length (evs.flatMap ExV.cells)
 seen : MapAt wr 9 bs u.length (strF (memF fun s => s ∈ nmsOf u))
 bsn : w.heap.size <= bs
 d1 : ∀ g, lv.ownBlock = some g -> g ≠ bs
 d2 : ∀ g, xv.ownBlock = some g -> g ≠ bs
 d3 : ∀ g, lv.ownBlock = some g -> xv.ownBlock ≠ some g
theorem RcS.extd {w : World} {bs : Nat} {lv xv : Value} {u : List Cla} {vs : List ClV} {xs : List Ex} {evs : List ExV} {wr wr' : World} (h : RcS w bs lv xv u vs xs evs wr) (hx : Ext wr wr') : RcS w bs lv xv u vs xs evs wr' :=
 {h with ext := h.ext.trans hx, own := owns_chg h.own (hx.chg []) (by simp), xown := owns_chg h.xown (hx.chg []) (by simp), seen := h.seen.ext hx }
theorem flat_take {xs : List ExV} {x : ExV} : ((xs ++ [x]).flatMap ExV.cells).take (xs.length * 6) = xs.flatMap ExV.cells := by
 rw [List.flatMap_append, List.take_left']
 clear x
 induction xs with
 | nil => rfl
 | cons y r ih => simp only [List.flatMap_cons, List.length_append, exV_len, ih, List.length_cons]; omega
theorem owns_drop {w : World} {base : Nat} {g n cap : Nat} {xs : List ExV} {x : ExV} (hn : n = xs.length) (h : w.ownsRow base 45 6 (.slice (some ⟨g, 0, none⟩) (n + 1) cap) (n + 1) ((xs ++ [x]).flatMap ExV.cells)) :
  w.ownsRow base 45 6 (.slice (some ⟨g, 0, none⟩) n cap) n (xs.flatMap ExV.cells) := by
 obtain ⟨h1, h2⟩ := h
 have hl : (xs.flatMap ExV.cells).length = n * 6 := by
  subst hn
  clear h1 h2 x
  induction xs with
  | nil => rfl
  | cons y r ih => simp only [List.flatMap_cons, List.length_append, exV_len, ih, List.length_cons]; omega
 refine ⟨hl, Or.inr ?_⟩
 rcases h2 with ⟨h3, _⟩ | ⟨g', cap', cur, h3, h4, h5, h6, h7, h8, h9⟩
 ·simp at h3
 simp only [Value.slice.injEq, Option.some.injEq, Addr.mk.injEq, and_true, true_and] at h3
 obtain ⟨rfl, rfl⟩ := h3
 refine ⟨g, cap, cur, rfl, h4, h5, by omega, h7, h8, ?_⟩
 have e1 : cur.toList.take (n * 6) = (cur.toList.take ((n + 1) * 6)).take (n * 6) := by rw [List.take_take]; congr 1; omega
 rw [e1, h9, hn, flat_take]
theorem owns_last {w : World} {base : Nat} {n : Nat} {v : Value} {xs : List ExV} {x : ExV} (hn : n = xs.length) (h : w.ownsRow base 45 6 v (n + 1) ((xs ++ [x]).flatMap ExV.cells)) :
  ∃ g cap, v = .slice (some ⟨g, 0, none⟩) (n + 1) cap /\ w.cell? ⟨g, n * 6, none⟩ = some (.int .i64 x.op) /\ w.cell? ⟨g, n * 6 + 1, none⟩ = some (.string x.name) /\ w.cell? ⟨g, n * 6 + 2, none⟩ = some (.slice x.aw x.nw x.cw) /\ w.cell? ⟨g, n * 6 + 3, none⟩ = some (.int .i64 x.lo) /\ w.cell? ⟨g, n * 6 + 4, none⟩ = some (.int .i64 x.hi) /\ w.cell? ⟨g, n * 6 + 5, none⟩ = some (.slice x.aa x.na x.ca) := by
 subst hn
 have e0 : xs.length + 1 = (xs ++ [x]).length := by simp
 rw [e0] at h
 obtain ⟨a, c, rfl, hr⟩ := IsRows.of_owns exV_len h
 obtain ⟨b, off, rfl, hc⟩ := hr.2.2.2 xs.length (by simp)
 have ha : off = 0 := by
  obtain ⟨_, h2⟩ := h
  rcases h2 with ⟨h3, _⟩ | ⟨g', cap', cur, h3, _⟩
  ·simp at h3
  simp only [Value.slice.injEq, Option.some.injEq, Addr.mk.injEq, and_true] at h3
  exact h3.1.2
 subst ha
 have key : ∀ j (hj : j < 6), w.cell? ⟨b, xs.length * 6 + j, none⟩ = some (x.cells[j]'(by rw [exV_len]; exact hj)) := fun j hj => by
  have := hc j (by rw [exV_len]; exact hj)
  simpa using this
 refine ⟨b, c, by simp, ?_, ?_, ?_, ?_, ?_, ?_⟩
 ·exact key 0 (by omega)
 ·exact key 1 (by omega)
 ·exact key 2 (by omega)
 ·exact key 3 (by omega)
 ·exact key 4 (by omega)
 exact key 5 (by omega)
theorem owns_bounds {w : World} {base : Nat} {e : TypeId} {size g n cap : Nat} {xs : List Value} (h : w.ownsRow base e size (.slice (some ⟨g, 0, none⟩) n cap) n xs) : base <= g /\ n <= cap /\ g < w.heap.size /\ cap <= maxLen := by
 obtain ⟨_, h2⟩ := h
 rcases h2 with ⟨h3, _⟩ | ⟨g', cap', cur, h3, h4, h5, h6, h7, _⟩
 ·simp at h3
 simp only [Value.slice.injEq, Option.some.injEq, Addr.mk.injEq, and_true, true_and] at h3
 obtain ⟨rfl, rfl⟩ := h3
 exact ⟨h4, h6, blk_lt h5, h7⟩
theorem RcS.step {w W w3 w8 w9 : World} {bs : Nat} {lv xv lv' xv' : Value} {u : List Cla} {vs : List ClV} {xs : List Ex} {evs : List ExV} (h : RcS w bs lv xv u vs xs evs W) {c : Cla} {cv : ClV} (hcv : IsCla w c cv) {x : Ex} {ev : ExV} (hev : IsEx w x ev.val) {F : Lit -> Option Value}
  (hm : MapAt w3 9 bs (u.length + 1) F) (hF : ∀ y, F y = strF (memF fun s => s ∈ nmsOf (u ++ [c])) y) (hc3 : Chg [bs] W w3)
  (ho8 : w8.ownsRow w.heap.size 48 10 lv' (u.length + 1) (vs.flatMap ClV.cells ++ cv.cells)) (hc8 : Chg (rowOf lv) w3 w8) (hw8 : ∀ k, lv'.ownBlock = some k -> lv.ownBlock = some k \/ w3.heap.size <= k)
  (ho9 : w9.ownsRow w.heap.size 45 6 xv' (xs.length + 1) (evs.flatMap ExV.cells ++ ev.cells)) (hc9 : Chg (rowOf xv) w8 w9) (hw9 : ∀ k, xv'.ownBlock = some k -> xv.ownBlock = some k \/ w8.heap.size <= k) :
  RcS w bs lv' xv' (u ++ [c]) (vs ++ [cv]) (xs ++ [x]) (evs ++ [ev]) w9 := by
 have s3 := hc3.size
 have s8 := hc8.size
 have hbl := hm.lt
 have xlt : ∀ q, xv.ownBlock = some q -> q < W.heap.size := fun q hq => (h.xown.lt q hq).2
 have llt : ∀ q, lv.ownBlock = some q -> q < W.heap.size := fun q hq => (h.own.lt q hq).2
 exact {
  ext := hc9.ext (hc8.ext (hc3.ext h.ext (by simpa using h.bsn)) fun q hq => (h.own.lt q (mem_rowOf.1 hq)).1) fun q hq => (h.xown.lt q (mem_rowOf.1 hq)).1
  cla := h.cla.snoc hcv
  own := by
   have := owns_chg ho8 hc9 fun q hq hm => by
    have h2 := mem_rowOf.1 hm
    rcases hw8 q hq with h1 | h1
    ·exact h.d3 q h1 h2
    have := xlt q h2; omega
   simpa using this
  ex := h.ex.snoc hev
  xown := by simpa using ho9
  seen := by
   have := ((hm.chg hc8 fun hm => h.d1 bs (mem_rowOf.1 hm) rfl).chg hc9 fun hm => h.d2 bs (mem_rowOf.1 hm) rfl).congr hF
   simpa using this
  bsn := h.bsn
  d1 := fun q hq e => by
   rcases hw8 q hq with h1 | h1
   ·exact h.d1 q h1 e
   omega
  d2 := fun q hq e => by
   rcases hw9 q hq with h1 | h1
   ·exact h.d2 q h1 e
   omega
  d3 := fun q hq hq2 => by
   have h8 := (ho8.lt q hq).2
   rcases hw9 q hq2 with h2 | h2
   ·rcases hw8 q hq with h1 | h1
    ·exact h.d3 q h1 h2
    have := xlt q h2; omega
   omega }
theorem owns_new (w : World) (arr : Array Value) (e : TypeId) {size n base : Nat} (hs : arr.size = n * size) (hn : n <= maxLen) (hb : base <= w.heap.size) : (w.alloc (.cells arr e)).ownsRow base e size (.slice (some ⟨w.heap.size, 0, none⟩) n n) n arr.toList :=
 ⟨by simpa using hs, Or.inr ⟨w.heap.size, n, arr, rfl, hb, alloc_new w _, Nat.le_refl _, hn, hs, by rw [List.take_of_length_le (by simp; omega)]⟩⟩
end Go.Proofs.YtefjomofjejklaaGreatDoor
