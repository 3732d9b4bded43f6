/-
  Texts of the claim, joined: RBack2, RClause, SIdx, Plain1, SWb, Grow, Grow2, Grow3.
-/
import Derived.Test.YtefjomofjejklaaGreatDoorDt05
import Derived.Orders
import Derived.BigFrame
namespace Go.Proofs.YtefjomofjejklaaGreatDoor
set_option maxRecDepth 100000
set_option maxHeartbeats 32000000
open Go.RowKit
def itemB (d : Nat) (x : Wb) : Bool := nameB x.name && refExprB x.cond && backsB (d - 1) x.unl
theorem backsB_eq (d : Nat) : (l : List Wb) -> backsB d l = ((decide (l.length = 0) || decide (d ≠ 0)) && l.all (itemB d))
 | [] => by simp [backsB]
 | .mk n c u :: r => by
  rw [backsB, backsB_eq d r]
  simp only [List.length_cons, List.all_cons, itemB, Wb.name, Wb.cond, Wb.unl]
  by_cases hd : d = 0
  ·simp [hd]
  simp [hd, Bool.and_assoc]
theorem givesE_b {a b : Bool} {w w' : World} (h : a = b) (hx : Ext w w') : GivesE (.bool b) w (.returned (.bool a)) w' := by subst h; exact ⟨rfl, hx⟩
theorem rbacks_calls (m : Nat) : ∀ (l : List Wb) (a : OA) (n c d : Nat) (w : World), wbN l <= m -> n <= 1000000000000000 -> wbFits l -> d <= 1000 -> WbsD w l a -> n = l.length ->
  Calls Tryz.prog 122 #[.slice a n c, .int .i64 d] w (GivesE (.bool (backsB d l)) w) := by
 induction m with
 | zero =>
  intro l a n c d w hm hn2 hok hd hD hn
  have hl := wbN_len l
  have : l = [] := List.eq_nil_of_length_eq_zero (by omega)
  subst this
  subst hn
  have HR := hI (show backsB d [] = true by simp [backsB])
  generalize backsB d [] = R at *
  clear hD hok
  go_enter Tryz.func122, Tryz.ntmps122
  go_wp2_with fail
  go_loop [5] (fun t => t = .int .i64 0) (fun _ => 0)
  case atStart => exact rfl
  case round =>
   subst hrel
   go_wp2_with fail
   all_goals (go_ret; exact givesE_b (by rw [HR.out]) (Ext.refl _))
 | succ m ih =>
  intro l a n c d w hm hn2 hok hd hD hn
  have HD := hI hD
  have HN := hI hn
  have HOK := hI hok
  have IH := hI ih
  have HQ := hI (backsB_eq d l)
  clear hD hn ih hok
  obtain ⟨R, hR⟩ : ∃ R, R = backsB d l := ⟨_, rfl⟩
  rw [<- hR]
  rw [<- hR] at HQ
  clear hR
  by_cases h0 : 0 < n /\ d = 0
  ·obtain ⟨hn0, hd0⟩ := h0
   have t0 : decide ((0 : Int) < (n : Int)) = true := decide_eq_true (by omega)
   have HR := hI (show R = false by rw [HQ.out, <- HN.out, hd0]; simp; intro h; omega)
   subst hd0
   go_enter Tryz.func122, Tryz.ntmps122
   go_wp2_with fail
   go_ret
   exact givesE_b (by rw [HR.out]) (Ext.refl _)
  have HQ2 := hI (show R = l.all (itemB d) by
   rw [HQ.out]
   by_cases h : n = 0
   ·have : l = [] := List.eq_nil_of_length_eq_zero (by have := HN.out; omega)
    subst this; simp
   have hd1 : d ≠ 0 := fun e => h0 ⟨by omega, e⟩
   simp [hd1])
  clear HQ
  by_cases hn0 : 0 < n
  case neg =>
   obtain rfl : n = 0 := by omega
   have hl0 : l = [] := List.eq_nil_of_length_eq_zero HN.out.symm
   have HR := hI (show R = true by rw [HQ2.out, hl0]; rfl)
   clear h0 hl0 hn0
   go_enter Tryz.func122, Tryz.ntmps122
   go_wp2_with fail
   go_loop [5] (fun t => t = .int .i64 0) (fun _ => 0)
   case atStart => exact rfl
   case round =>
    subst hrel
    go_wp2_with fail
    all_goals (go_ret; exact givesE_b (by rw [HR.out]) (Ext.refl _))
  case pos =>
   have t0 : decide ((0 : Int) < (n : Int)) = true := decide_eq_true (by omega)
   have td : ((d : Int) == 0) = false := by have := fun e => h0 ⟨hn0, e⟩; simp; omega
   go_enter Tryz.func122, Tryz.ntmps122
   go_wp2_with fail
   go_loopw [5] (fun t wr => ∃ k : Nat, t = .int .i64 k /\ k <= n /\ (∀ j (h : j < l.length), j < k -> itemB d l[j] = true) /\ Ext w wr) (fun t _ => n - (intOf t).toNat)
   case atStart => exact ⟨0, rfl, by omega, fun j _ h => by omega, Ext.refl _⟩
   case round =>
    obtain ⟨k, rfl, hk, hall, hxr⟩ := hrel
    have HALL := hI hall
    have HXR := hI hxr
    clear hall hxr
    by_cases hkn : k < n
    ·have hkl : k < l.length := by have := HN.out; omega
     have t1 : decide ((k : Int) < (n : Int)) = true := decide_eq_true (by omega)
     have hd1 : 1 <= d := by have := fun e => h0 ⟨by omega, e⟩; omega
     obtain ⟨b, off, rfl, v, hv0, hrow, hv2, hv3, hv4, hv5, hv6⟩ := WbsD.at l _ (WbsD.mono HXR.out.sub _ _ HD.out) k hkl
     obtain ⟨c0, c1, c2, c3, c4, c5, c6, c7⟩ := hrow.eight
     obtain ⟨ho1, ho2, ho3, ho4, hou, ho5⟩ := wbFits_at l HOK.out k hkl
     have hvn : v.nu <= 1000000000000000 := by rw [hv3]; exact hou
     have HO4 := hI ho4
     have hwn := wbN_at l k hkl
     have HU := hI hv6
     have HUN := hI hv3
     have HEX := hI hv2
     have HO2 := hI ho2
     have HO3 := hI ho3
     have HO5 := hI ho5
     have HIT := hI (show itemB d l[k] = (nameB l[k].name && refExprB l[k].cond && backsB (d - 1) l[k].unl) from rfl)
     rw [hv0] at c0
     clear hrow hv0 hv2 hv3 hv4 hv5 hv6 ho2 ho3 ho5 ho4 hou
     have q1 : ((d : Int) - 1) = ((d - 1 : Nat) : Int) := by omega
     cases hnb : nameB l[k].name
     ·have HNB := hI hnb
      have HR := hI (show R = false by
       rw [HQ2.out, List.all_eq_false]
       exact ⟨l[k], List.getElem_mem hkl, by rw [HIT.out, hnb]; simp⟩)
      clear hnb q1
      go_wp2_with fail
      refine (rname_calls _ _ ho1).mono ?_
      rintro r w1 ⟨rfl, rfl⟩
      rw [HNB.out]
      go_wp2_with fail
      go_ret
      exact givesE_b (by rw [HR.out]) HXR.out
     have HNB := hI hnb
     cases hxb : refExprB l[k].cond
     ·have HXB := hI hxb
      have HR := hI (show R = false by
       rw [HQ2.out, List.all_eq_false]
       exact ⟨l[k], List.getElem_mem hkl, by rw [HIT.out, hxb]; simp⟩)
      clear hnb hxb q1
      go_wp2_with fail
      refine (rname_calls _ _ ho1).mono ?_
      rintro r w1 ⟨rfl, rfl⟩
      rw [HNB.out]
      go_wp2_with fail
      refine (rexpr_slim l[k].cond _ _ HEX.out HO4.out HO2.out HO3.out).mono ?_
      rintro r w1 ⟨rfl, hx1⟩
      rw [HXB.out]
      have HX1 := hI (HXR.out.trans hx1)
      clear hx1 c0 c1 c2 c3 c4 c5 c6 c7
      go_wp2_with fail
      go_ret
      exact givesE_b (by rw [HR.out]) HX1.out
     have HXB := hI hxb
     clear q1
     go_wp2_with fail
     refine (rname_calls _ _ ho1).mono ?_
     rintro r w1 ⟨rfl, rfl⟩
     rw [HNB.out]
     go_wp2_with fail
     refine (rexpr_slim l[k].cond _ _ HEX.out HO4.out HO2.out HO3.out).mono ?_
     rintro r w1 ⟨rfl, hx1⟩
     rw [HXB.out]
     have HX1 := hI (HXR.out.trans hx1)
     have c7' := hx1.cell c7
     have HU1 := hI (WbsD.mono hx1.sub _ _ HU.out)
     have q1 : ((d : Int) - 1) = ((d - 1 : Nat) : Int) := by omega
     clear hx1 c0 c1 c2 c3 c4 c5 c6 c7
     go_wp2_with fail
     refine (IH.out l[k].unl _ _ _ (d - 1) w1 (by omega) hvn HO5.out (by omega) HU1.out HUN.out).mono ?_
     rintro r w2 ⟨rfl, hx2⟩
     have HX2 := hI (HX1.out.trans hx2)
     clear hx2 c7' q1
     cases hbb : backsB (d - 1) l[k].unl
     ·have HR := hI (show R = false by
       rw [HQ2.out, List.all_eq_false]
       exact ⟨l[k], List.getElem_mem hkl, by rw [HIT.out, hbb]; simp⟩)
      clear hnb hxb
      go_wp2_with fail
      go_ret
      exact givesE_b (by rw [HR.out]) HX2.out
     have HI2 := hI (show itemB d l[k] = true by rw [HIT.out, hnb, hxb, hbb]; rfl)
     clear hnb hxb
     go_wp2_with fail
     go_roundw
     case rel =>
      refine ⟨k + 1, by go_num, by omega, fun j hj hjk => ?_, HX2.out⟩
      by_cases e : j = k
      ·subst e; exact HI2.out
      exact HALL.out j hj (by omega)
     case measure => simp [intOf]; omega
    have t1 : decide ((k : Int) < (n : Int)) = false := decide_eq_false (by omega)
    have HR := hI (show R = true by
     rw [HQ2.out, List.all_eq_true]
     intro x hx
     obtain ⟨j, hj, rfl⟩ := List.mem_iff_getElem.1 hx
     exact HALL.out j hj (by have := HN.out; omega))
    go_wp2_with fail
    go_ret
    exact givesE_b (by rw [HR.out]) HXR.out
theorem blk10r {w : World} {b : Nat} {v0 v1 v2 v3 v4 v5 v6 v7 v8 v9 : Value} {t : TypeId} (h : w.heap[b]? = some (.cells #[v0, v1, v2, v3, v4, v5, v6, v7, v8, v9] t (0, 0))) :
  w.cell? ⟨b, 0, none⟩ = some v0 /\ w.cell? ⟨b, 1, none⟩ = some v1 /\ w.cell? ⟨b, 2, none⟩ = some v2 /\ w.cell? ⟨b, 3, none⟩ = some v3 /\ w.cell? ⟨b, 4, none⟩ = some v4 /\ w.cell? ⟨b, 5, none⟩ = some v5 /\ w.cell? ⟨b, 6, none⟩ = some v6 /\ w.cell? ⟨b, 7, none⟩ = some v7 /\ w.cell? ⟨b, 8, none⟩ = some v8 /\ w.cell? ⟨b, 9, none⟩ = some v9 /\ (∀ j, w.frozen? ⟨b, j, none⟩ = false) :=
 ⟨blk_cell h 0, blk_cell h 1, blk_cell h 2, blk_cell h 3, blk_cell h 4, blk_cell h 5, blk_cell h 6, blk_cell h 7, blk_cell h 8, blk_cell h 9, fun j => blk_free h j⟩
def Cla.ok (c : Cla) : Prop := c.name.size <= 1000000000000000 /\ c.cond.fits /\ c.cond.few /\ c.cond.size <= 1000000000000000 /\ wbOk c.unl /\ wbN c.unl <= 1000000000000000
def Cla.fit (c : Cla) : Prop := c.name.size <= 1000000000000000 /\ c.cond.fits /\ c.cond.few /\ c.cond.slim /\ c.unl.length <= 1000000000000000 /\ wbFits c.unl
theorem Cla.ok.fit {c : Cla} (h : c.ok) : c.fit := ⟨h.1, h.2.1, h.2.2.1, slim_of_size _ h.2.2.2.1, Nat.le_trans (wbN_len _) h.2.2.2.2.2, wbFits_of_ok _ h.2.2.2.2.1 h.2.2.2.2.2⟩
def amountB (m amount : Int) : Bool := (decide (m = 0) && (amount == 0)) || (decide (0 < m) && decide (1 <= amount) && decide (amount <= m))
theorem rclause_fit (c : Cla) (v : ClV) (w : World) (hc : IsCla w c v) (hok : c.fit) :
  Calls Tryz.prog 89 #[.agg #[.int .i64 v.kind, .string v.name, .int .i64 v.x.op, .string v.x.name, .slice v.x.aw v.x.nw v.x.cw, .int .i64 v.x.lo, .int .i64 v.x.hi, .slice v.x.aa v.x.na v.x.ca, .slice v.au v.nu v.cu, .int .i64 v.amount]] w (GivesE (.bool (clauseB c)) w) := by
 obtain ⟨hk, hnm, hex, hnu, -, -, hwb, ham⟩ := hc
 obtain ⟨ho1, ho2, ho3, ho4, ho5, ho6⟩ := hok
 rw [hk, hnm, ham]
 have HEX := hI hex
 have HWB := hI hwb
 have HNU := hI hnu
 have HO2 := hI ho2
 have HO3 := hI ho3
 have HO4 := hI ho4
 have HO6 := hI ho6
 have hnu2 : v.nu <= 1000000000000000 := by rw [hnu]; exact ho5
 obtain ⟨R, hR⟩ : ∃ R, R = clauseB c := ⟨_, rfl⟩
 rw [<- hR]
 have HR := hI (show R = (decide (1 <= c.kind) && decide (c.kind <= 10) && nameB c.name && refExprB c.cond && (decide (c.unl.length = 0) || ((c.kind == 3) && decide (cntBacks c.unl <= 40) && backsB 16 c.unl)) && amountB (mostOf c.kind) c.amount) by rw [hR]; rfl)
 clear hk hnm hex hnu hwb ham ho2 ho3 ho4 ho5 ho6 hR
 obtain ⟨kind, name, cond, unl, amount⟩ := c
 simp only at *
 obtain ⟨vk, vn, x, au, nu, cu, va⟩ := v
 simp only at *
 obtain ⟨wa, hwa⟩ : ∃ wa, wa = w.alloc (.cells #[.int .i64 kind, .string name, .int .i64 x.op, .string x.name, .slice x.aw x.nw x.cw, .int .i64 x.lo, .int .i64 x.hi, .slice x.aa x.na x.ca, .slice au nu cu, .int .i64 amount] 48) := ⟨_, rfl⟩
 have hxa : Ext w wa := by rw [hwa]; exact (Ext.refl _).alloc _
 have hb : wa.heap[w.heap.size]? = some (.cells #[.int .i64 kind, .string name, .int .i64 x.op, .string x.name, .slice x.aw x.nw x.cw, .int .i64 x.lo, .int .i64 x.hi, .slice x.aa x.na x.ca, .slice au nu cu, .int .i64 amount] 48 (0, 0)) := by rw [hwa]; exact alloc_new w _
 have HXA := hI hxa
 have HB := hI hb
 clear hxa hb
 by_cases h1 : kind < 1
 ·have t1 : decide (kind < 1) = true := decide_eq_true h1
  have HF := hI (show R = false by rw [HR.out]; simp; intro h; omega)
  clear h1 hwa
  go_enter Tryz.func89, Tryz.ntmps89
  go_wp2_with fail
  go_ret
  exact givesE_b (by rw [HF.out]) ((Ext.refl w).alloc _)
 have t1 : decide (kind < 1) = false := decide_eq_false h1
 by_cases h10 : 10 < kind
 ·have t10 : decide (10 < kind) = true := decide_eq_true h10
  have HF := hI (show R = false by rw [HR.out]; simp; intro _ h; omega)
  clear h10 h1 hwa
  go_enter Tryz.func89, Tryz.ntmps89
  go_wp2_with fail
  go_ret
  exact givesE_b (by rw [HF.out]) ((Ext.refl w).alloc _)
 have t10 : decide (10 < kind) = false := decide_eq_false h10
 have hk1 : decide (1 <= kind) = true := decide_eq_true (by omega)
 have hk2 : decide (kind <= 10) = true := decide_eq_true (by omega)
 rw [hk1, hk2, Bool.true_and, Bool.true_and] at HR
 clear hk1 hk2 h1 h10
 go_enter Tryz.func89, Tryz.ntmps89
 go_wp2_with fail
 rw [<- hwa]
 clear hwa
 refine (rname_calls _ _ ho1).mono ?_
 rintro r w1 ⟨rfl, rfl⟩
 obtain ⟨b0, b1, b2, b3, b4, b5, b6, b7, b8, b9, bf⟩ := blk10r HB.out
 cases hnb : nameB name
 ·have HF := hI (show R = false by rw [HR.out, hnb]; rfl)
  go_wp2_with fail
  go_ret
  exact givesE_b (by rw [HF.out]) HXA.out
 rw [hnb, Bool.true_and] at HR
 clear hnb
 go_wp2_with fail
 refine (rexpr_slim cond _ _ (HEX.out.ext HXA.out) HO4.out HO2.out HO3.out).mono ?_
 rintro r w1 ⟨rfl, hx1⟩
 have HX1 := hI (HXA.out.trans hx1)
 have HB1 := hI (hx1.blk HB.out)
 clear hx1 b0 b1 b2 b3 b4 b5 b6 b7 b8 b9 bf HB
 obtain ⟨b0, b1, b2, b3, b4, b5, b6, b7, b8, b9, bf⟩ := blk10r HB1.out
 cases hxb : refExprB cond
 ·have HF := hI (show R = false by rw [HR.out, hxb]; rfl)
  go_wp2_with fail
  go_ret
  exact givesE_b (by rw [HF.out]) HX1.out
 rw [hxb, Bool.true_and] at HR
 clear hxb
 obtain ⟨U, hU⟩ : ∃ U, U = (decide (unl.length = 0) || ((kind == 3) && decide (cntBacks unl <= 40) && backsB 16 unl)) := ⟨_, rfl⟩
 rw [<- hU] at HR
 have HU := hI hU
 clear hU
 go_upto_region 3 with fail
 go_cut [44] (fun s44 wx => s44 = .bool (!U) /\ Ext w1 wx)
 case first =>
  by_cases h0 : nu = 0
  ·have t0 : decide ((0 : Int) < (nu : Int)) = false := decide_eq_false (by omega)
   have HF := hI (show U = true by rw [HU.out, <- HNU.out, h0]; simp)
   go_wp2_with fail
   go_meet
   case rel => exact ⟨by rw [HF.out]; rfl, Ext.refl _⟩
  have t0 : decide ((0 : Int) < (nu : Int)) = true := decide_eq_true (by omega)
  have hl0 : decide (unl.length = 0) = false := decide_eq_false (by have := HNU.out; omega)
  rw [hl0, Bool.false_or] at HU
  clear hl0
  by_cases h3 : kind = 3
  ·have t3 : (kind != 3) = false := by simp [h3]
   have e3 : (kind == 3) = true := by simp [h3]
   rw [e3, Bool.true_and] at HU
   clear e3 h3
   go_wp2_with fail
   refine (rcount_calls (wbN unl) unl _ _ _ w1 (Nat.le_refl _) hnu2 HO6.out (WbsD.mono HX1.out.sub _ _ HWB.out) HNU.out).mono ?_
   rintro r w2 ⟨rfl, rfl⟩
   obtain ⟨M, hM⟩ : ∃ M, M = (min (cntBacks unl) 41 : Nat) := ⟨_, rfl⟩
   rw [<- hM]
   have hMl : M <= 41 := by omega
   have HCB := hI (show decide (cntBacks unl <= 40) = decide (M <= 40) by rw [hM]; congr 1; exact propext ⟨fun h => by omega, fun h => by omega⟩)
   rw [HCB.out] at HU
   clear hM HCB
   by_cases h40 : M <= 40
   ·have t40 : decide ((40 : Int) < (M : Int)) = false := decide_eq_false (by omega)
    have e40 : decide (M <= 40) = true := decide_eq_true h40
    rw [e40, Bool.true_and] at HU
    clear e40
    go_wp2_with fail
    refine (rbacks_calls (wbN unl) unl _ _ _ 16 w1 (Nat.le_refl _) hnu2 HO6.out (by omega) (WbsD.mono HX1.out.sub _ _ HWB.out) HNU.out).mono ?_
    rw [<- HU.out]
    rintro r w2 ⟨rfl, hx2⟩
    have HX2 := hI hx2
    clear hx2
    go_wp2_with fail
    go_meet
    case rel => exact ⟨rfl, HX2.out⟩
   have t40 : decide ((40 : Int) < (M : Int)) = true := decide_eq_true (by omega)
   have HF := hI (show U = false by rw [HU.out, decide_eq_false h40]; rfl)
   go_wp2_with fail
   go_meet
   case rel => exact ⟨by rw [HF.out]; rfl, Ext.refl _⟩
  have t3 : (kind != 3) = true := by simp [h3]
  have HF := hI (show U = false by rw [HU.out]; simp [h3])
  clear h3
  go_wp2_with fail
  go_meet
  case rel => exact ⟨by rw [HF.out]; rfl, Ext.refl _⟩
 case rest =>
  obtain ⟨rfl, hx2⟩ := hcut
  have HX2 := hI (HX1.out.trans hx2)
  have HB2 := hI (hx2.blk HB1.out)
  clear b0 b1 b2 b3 b4 b5 b6 b7 b8 b9 bf hx2 HB1
  obtain ⟨b0, b1, b2, b3, b4, b5, b6, b7, b8, b9, bf⟩ := blk10r HB2.out
  cases hUc : U
  ·have HF := hI (show R = false by rw [HR.out, hUc]; rfl)
   go_wp2_with fail
   go_ret
   exact givesE_b (by rw [HF.out]) HX2.out
  rw [hUc, Bool.true_and] at HR
  clear hUc
  go_wp2_with fail
  refine (rMost_calls _ _).mono ?_
  rintro r w3 ⟨rfl, rfl⟩
  generalize mostOf kind = M at *
  go_wp2_with fail
  all_goals (go_ret; exact givesE_b (by rw [HR.out, amountB]; simp_all <;> omega) HX2.out)
theorem sIndex_calls (s : List Attr) (v : Value) (x : BA) (w : World) (hs : IsSchema w s v) (hl : s.length <= 1000000000000000) :
  Calls Tryz.prog 104 #[v, .string x] w (GivesE (optV (attrAt s x)) w) := by
 obtain ⟨a, n, c, rfl, hn, hnc, hoa, hat⟩ := hs.parts
 have HS := hI hs
 have HN := hI hn
 have hn2 : n <= 1000000000000000 := by omega
 clear hs hn hat hnc hoa
 go_enter Tryz.func104, Tryz.ntmps104
 go_wp2_with fail
 go_loopw [11] (fun t wr => ∃ k : Nat, t = .int .i64 k /\ k <= n /\ (∀ j (h : j < s.length), j < k -> decide (s[j].name = x) = false) /\ Ext w wr) (fun t _ => n - (intOf t).toNat)
 case atStart => exact ⟨0, rfl, by omega, fun j _ h => by omega, (Ext.refl w).alloc _⟩
 case round =>
  obtain ⟨k, rfl, hk, hno, hx⟩ := hrel
  have HNO := hI hno
  have HX := hI hx
  clear hno hx
  by_cases hkn : k < n
  ·have hks : k < s.length := by have := HN.out; omega
   obtain ⟨a', n', c', e', hx1, hx2, hx3, hat⟩ := (HS.out.ext HX.out).parts
   simp only [Value.agg.injEq, Array.mk.injEq, List.cons.injEq, Value.slice.injEq, and_true] at e'
   obtain ⟨rfl, rfl, rfl⟩ := e'
   clear hx1 hx2 hx3
   obtain ⟨b, off, rfl, aw, nw, cw, h0, h1, h2, h3, h4, h5⟩ := hat k hks
   have t1 : decide ((k : Int) < (n : Int)) = true := decide_eq_true (by omega)
   cases he : (s[k].name.toList == x.toList)
   ·have HE := hI (dec_of_beq he)
    clear hat h5
    go_wp2_with fail
    go_roundw
    case rel =>
     refine ⟨k + 1, by go_num, by omega, fun j hj hjk => ?_, HX.out.alloc _⟩
     by_cases e : j = k
     ·subst e; exact HE.out
     exact HNO.out j hj (by omega)
    case measure => simp [intOf]; omega
   have HF := hI (show attrAt s x = some k from find_hit hks (dec_of_beq he) HNO.out)
   clear hat h5
   go_wp2_with fail
   go_ret2
   exact ⟨by rw [optV, HF.out]; rfl, HX.out.alloc _⟩
  have t1 : decide ((k : Int) < (n : Int)) = false := decide_eq_false (by omega)
  have HF := hI (show attrAt s x = none from find_miss fun j hj => HNO.out j hj (by have := HN.out; omega))
  go_wp2_with fail
  go_ret2
  exact ⟨by rw [optV, HF.out]; rfl, HX.out⟩
theorem sFind_calls (l : List Cla) (a : OA) (n c : Nat) (x : BA) (w : World) (hs : IsClas w l a n c) (hl : n <= 1000000000000000) :
  Calls Tryz.prog 107 #[.slice a n c, .string x] w (GivesE (optV (findAt l x)) w) := by
 have HS := hI hs
 have HN := hI hs.len
 clear hs
 go_enter Tryz.func107, Tryz.ntmps107
 go_wp2_with fail
 go_loopw [10] (fun t wr => ∃ k : Nat, t = .int .i64 k /\ k <= n /\ (∀ j (h : j < l.length), j < k -> decide (l[j].name = x) = false) /\ Ext w wr) (fun t _ => n - (intOf t).toNat)
 case atStart => exact ⟨0, rfl, by omega, fun j _ h => by omega, Ext.refl _⟩
 case round =>
  obtain ⟨k, rfl, hk, hno, hx⟩ := hrel
  have HNO := hI hno
  have HX := hI hx
  clear hno hx
  by_cases hkn : k < n
  ·have hks : k < l.length := by have := HN.out; omega
   obtain ⟨b, off, v, rfl, hcla, hrow⟩ := (HS.out.ext HX.out).at hks
   obtain ⟨c0, c1, c2, c3, c4, c5, c6, c7, c8, c9⟩ := hrow.ten
   have hq2 := hcla.2.1
   rw [hq2] at c1
   have t1 : decide ((k : Int) < (n : Int)) = true := decide_eq_true (by omega)
   cases he : (l[k].name.toList == x.toList)
   ·have HE := hI (dec_of_beq he)
    clear hcla hrow hq2
    go_wp2_with fail
    go_roundw
    case rel =>
     refine ⟨k + 1, by go_num, by omega, fun j hj hjk => ?_, HX.out.alloc _⟩
     by_cases e : j = k
     ·subst e; exact HE.out
     exact HNO.out j hj (by omega)
    case measure => simp [intOf]; omega
   have HF := hI (show findAt l x = some k from find_hit hks (dec_of_beq he) HNO.out)
   clear hcla hrow hq2
   go_wp2_with fail
   go_ret2
   exact ⟨by rw [optV, HF.out]; rfl, HX.out.alloc _⟩
  have t1 : decide ((k : Int) < (n : Int)) = false := decide_eq_false (by omega)
  have HF := hI (show findAt l x = none from find_miss fun j hj => HNO.out j hj (by have := HN.out; omega))
  go_wp2_with fail
  go_ret2
  exact ⟨by rw [optV, HF.out]; rfl, HX.out⟩
mutual
def pNodes : Ex -> Bool
 | .mk op name words lo hi args => nodeB (.mk op name words lo hi args) && pNodesAll args
def pNodesAll : List Ex -> Bool
 | [] => true
 | e :: r => pNodes e && pNodesAll r
end
mutual
theorem validF_spec : (e : Ex) -> (d n : Int) -> n <= 300 -> d <= 17 -> ((validF e d n).1 = true ↔ (d + e.depth <= 17 /\ n + e.size <= 300 /\ pNodes e = true)) /\ ((validF e d n).1 = true -> (validF e d n).2 = n + e.size)
 | .mk op name words lo hi args, d, n, hn, hd => by
  have hs : (Ex.mk op name words lo hi args).size = 1 + sizes args := by simp [Ex.size]
  have hp : (Ex.mk op name words lo hi args).depth = depths args + 1 := by simp [Ex.depth]
  rw [validF, hs, hp, pNodes]
  by_cases hc : 300 < n + 1 \/ 16 < d \/ nodeB (.mk op name words lo hi args) = false
  ·rw [if_pos hc]
   refine ⟨⟨fun h => by simp at h, fun ⟨h1, h2, h3⟩ => ?_⟩, fun h => by simp at h⟩
   rcases hc with hc | hc | hc
   ·omega
   ·omega
   rw [hc] at h3; simp at h3
  rw [if_neg hc]
  have hnb : nodeB (.mk op name words lo hi args) = true := by
   cases hh : nodeB (.mk op name words lo hi args)
   ·exact absurd (Or.inr (Or.inr hh)) hc
   rfl
  obtain ⟨h1, h2⟩ := validsF_spec args (d + 1) (n + 1) (by omega) (by omega)
  rw [hnb, Bool.true_and]
  refine ⟨h1.trans ⟨fun ⟨a, b, c⟩ => ⟨by omega, by omega, c⟩, fun ⟨a, b, c⟩ => ⟨by omega, by omega, c⟩⟩, fun h => by have := h2 h; omega⟩
theorem validsF_spec : (l : List Ex) -> (d n : Int) -> n <= 300 -> d <= 17 -> ((validsF l d n).1 = true ↔ (d + depths l <= 17 /\ n + sizes l <= 300 /\ pNodesAll l = true)) /\ ((validsF l d n).1 = true -> (validsF l d n).2 = n + sizes l)
 | [], d, n, hn, hd => by simp [validsF, depths, sizes, pNodesAll]; omega
 | e :: r, d, n, hn, hd => by
  obtain ⟨h1, h2⟩ := validF_spec e d n hn hd
  rw [validsF, depths, sizes, pNodesAll]
  by_cases hv : (validF e d n).1 = true
  ·rw [if_pos hv]
   have e2 := h2 hv
   obtain ⟨a1, a2, a3⟩ := h1.1 hv
   obtain ⟨h3, h4⟩ := validsF_spec r d (validF e d n).2 (by omega) hd
   refine ⟨h3.trans ⟨fun ⟨a, b, c⟩ => ⟨by omega, by omega, by rw [a3, c]; rfl⟩, fun ⟨a, b, c⟩ => ⟨by omega, by omega, by rw [a3] at c; simpa using c⟩⟩, fun h => by have := h4 h; omega⟩
  rw [if_neg hv]
  refine ⟨⟨fun h => by simp at h, fun ⟨a, b, c⟩ => absurd (h1.2 ⟨by omega, by omega, ?_⟩) hv⟩, fun h => by simp at h⟩
  rw [Bool.and_eq_true] at c; exact c.1
end
theorem nodeB_ref (e : Ex) (h : e.args.length <= 300) : nodeB e = refNodeB e := by
 obtain ⟨op, name, words, lo, hi, args⟩ := e
 simp only [nodeB, refNodeB, refNode, Ex.op, Ex.name, Ex.words, Ex.lo, Ex.hi, Ex.args, wordsB] at *
 by_cases h1 : 1 <= op /\ op <= 8
 ·have hk : op = 1 \/ op = 2 \/ op = 3 \/ op = 4 \/ op = 5 \/ op = 6 \/ op = 7 \/ op = 8 := by omega
  have hw : words.isEmpty = decide (words.length = 0) := by cases words <;> simp
  have hw2 : (words.length != 0) = decide (1 <= words.length) := by cases words <;> simp
  rw [hw, hw2]
  rcases hk with rfl | rfl | rfl | rfl | rfl | rfl | rfl | rfl
  all_goals
   simp only [show ((1 : Int).toNat) = 1 from rfl, show ((2 : Int).toNat) = 2 from rfl, show ((3 : Int).toNat) = 3 from rfl, show ((4 : Int).toNat) = 4 from rfl, show ((5 : Int).toNat) = 5 from rfl, show ((6 : Int).toNat) = 6 from rfl, show ((7 : Int).toNat) = 7 from rfl, show ((8 : Int).toNat) = 8 from rfl, opLeast, opMost, opNamed]
   rw [Bool.eq_iff_iff]
   simp
   try grind
 simp [h1]
mutual
theorem pNodes_ref : (e : Ex) -> e.size <= 300 -> pNodes e = nodesB e
 | .mk op name words lo hi args, h => by
  have hs : (Ex.mk op name words lo hi args).size = 1 + sizes args := by simp [Ex.size]
  have hl := length_le_sizes args
  rw [pNodes, nodesB, nodeB_ref _ (by simp only [Ex.args]; omega), pNodesAll_ref args (by omega)]
theorem pNodesAll_ref : (l : List Ex) -> sizes l <= 300 -> pNodesAll l = nodesAll l
 | [], _ => by simp [pNodesAll, nodesAll]
 | e :: r, h => by
  rw [sizes] at h
  rw [pNodesAll, nodesAll, pNodes_ref e (by omega), pNodesAll_ref r (by omega)]
end
theorem validB_ref (e : Ex) : validB e = refExprB e := by
 unfold validB refExprB
 have h := (validF_spec e 1 0 (by omega) (by omega)).1
 have e1 : refSize e <= 300 ↔ e.size <= 300 := by unfold refSize; omega
 rw [Bool.eq_iff_iff, h, Bool.and_eq_true, Bool.and_eq_true]
 constructor
 ·rintro ⟨a, b, c⟩
  refine ⟨⟨?_, ?_⟩, by rw [<- pNodes_ref e (by omega)]; exact c⟩
  ·rw [decide_eq_false (by omega)]; rfl
  rw [decide_eq_true_eq, e1]; omega
 rintro ⟨⟨a, b⟩, c⟩
 have a2 : ¬ 16 < e.depth := fun h => by rw [decide_eq_true h] at a; cases a
 have b2 := e1.1 (of_decide_eq_true b)
 exact ⟨by omega, by omega, by rw [pNodes_ref e (by omega)]; exact c⟩
theorem wbN_take_succ : (l : List Wb) -> (k : Nat) -> (hk : k < l.length) -> wbN (l.take (k + 1)) = wbN (l.take k) + 1 + wbN l[k].unl
 | [], k, hk => by simp at hk
 | .mk n c u :: r, 0, _ => by simp [wbN, Wb.unl]
 | .mk n c u :: r, k + 1, hk => by
  have := wbN_take_succ r k (by simpa using hk)
  simp [wbN] at this ⊢
  omega
theorem wbN_take_le : (l : List Wb) -> (k : Nat) -> wbN (l.take k) <= wbN l
 | [], k => by simp [wbN]
 | .mk n c u :: r, 0 => by simp [wbN]
 | .mk n c u :: r, k + 1 => by have := wbN_take_le r k; simp [wbN]; omega
def WbQ (R : Bool) (T : Nat) (bc : Nat) (w : World) (e : Ending) (w' : World) : Prop := ∃ m : Nat, e = .returned (.bool R) /\ w'.heap[bc]? = some (.cells #[.int .i64 ((m : Nat) : Int)] 3 (0, 0)) /\ m <= 41 /\ (R = true -> m = T) /\ Chg [bc] w w'
def WbRel (w : World) (bc d n : Nat) (l : List Wb) (nl : Nat) (t : Value) (wr : World) : Prop := ∃ k m : Nat, t = .int .i64 ((k : Nat) : Int) /\ k <= nl /\ (∀ j (h : j < l.length), j < k -> itemB (17 - d) l[j] = true) /\ m = n + wbN (l.take k) /\ m <= 40 /\ (k = 0 \/ d ≠ 17) /\
 wr.heap[bc]? = some (.cells #[.int .i64 ((m : Nat) : Int)] 3 (0, 0)) /\ Chg [bc] w wr
theorem writeBacks_calls {w0 : World} (ho : HasOps w0) (fm : Nat) : ∀ (l : List Wb) (a : OA) (nl c d n bc : Nat) (w : World), wbN l < fm -> nl <= 1000000000000000 -> wbFits l -> 1 <= d -> d <= 17 -> n <= 40 -> nl = l.length -> WbsD (mask w [bc]) l a -> Ext w0 w -> w0.heap.size <= bc ->
  w.heap[bc]? = some (.cells #[.int .i64 ((n : Nat) : Int)] 3 (0, 0)) ->
  Calls Tryz.prog 183 #[.slice a nl c, .int .i64 ((d : Nat) : Int), .pointer (some ⟨bc, 0, none⟩)] w (WbQ (backsB (17 - d) l && decide (n + wbN l <= 40)) (n + wbN l) bc w) := by
 induction fm with
 | zero => intro l a nl c d n bc w h; omega
 | succ fm ih =>
  intro l a nl c d n bc w hfm hnl hfit hd1 hd2 hn hln hdat hx0 hbc hcell
  have HD := hI hdat
  have HN := hI hln
  have HFT := hI hfit
  have HX0 := hI hx0
  have HO := hI ho
  have IH := hI ih
  have HBC := hI hbc
  have HCELL := hI hcell
  have HQ := hI (backsB_eq (17 - d) l)
  obtain ⟨R, hR⟩ : ∃ R, R = (backsB (17 - d) l && decide (n + wbN l <= 40)) := ⟨_, rfl⟩
  rw [<- hR]
  have HR := hI hR
  obtain ⟨T, hT⟩ : ∃ T, T = n + wbN l := ⟨_, rfl⟩
  rw [<- hT]
  have HT := hI hT
  clear hdat hln hfit hx0 ih hcell hR hT ho
  go_enter Tryz.func183, Tryz.ntmps183
  go_wp2_with fail
  go_loopw [11] (WbRel w bc d n l nl) (fun t _ => nl - (intOf t).toNat)
  case atStart => exact ⟨0, n, rfl, by omega, fun j _ h => by omega, by simp [wbN], hn, Or.inl rfl, HCELL.out, Chg.refl _ _⟩
  case round =>
   obtain ⟨k, m, rfl, hk, hall, hm, hm40, hk17, hcb, hch⟩ := hrel
   have HK17 := hI hk17
   have HALL := hI hall
   have HM := hI hm
   have HCB := hI hcb
   have HCH := hI hch
   obtain ⟨cc0, ccf⟩ := blk1 hcb
   have hbcl := blk_lt hcb
   clear hall hm hcb hch hk17
   by_cases hkn : k < nl
   case neg =>
    have t1 : decide ((k : Int) < (nl : Int)) = false := decide_eq_false (by omega)
    have HE := hI (show m = T /\ R = true by
     have h1 := HM.out
     have h2 := HN.out
     rw [List.take_of_length_le (by omega)] at h1
     refine ⟨by rw [HT.out, h1], ?_⟩
     rw [HR.out, Bool.and_eq_true]
     refine ⟨?_, by simp; omega⟩
     rw [HQ.out, Bool.and_eq_true]
     refine ⟨?_, ?_⟩
     ·by_cases h0 : l.length = 0
      ·simp [h0]
      have hd17 : 17 - d ≠ 0 := by
       have := HK17.out
       omega
      simp [hd17]
     rw [List.all_eq_true]
     intro x hx
     obtain ⟨j, hj, rfl⟩ := List.mem_iff_getElem.1 hx
     exact HALL.out j hj (by omega))
    go_wp2_with fail
    go_ret
    exact ⟨m, by rw [HE.out.2]; rfl, HCB.out, by omega, fun _ => HE.out.1, HCH.out⟩
   have hkl : k < l.length := by have := HN.out; omega
   have t1 : decide ((k : Int) < (nl : Int)) = true := decide_eq_true (by omega)
   obtain ⟨b, off, rfl, v, hv0, hrow, hv2, hv3, hv4, hv5, hv6⟩ := WbsD.at l _ (WbsD.mono HCH.out.sub _ _ HD.out) k hkl
   obtain ⟨c0, c1, c2, c3, c4, c5, c6, c7⟩ := (hrow.mono (mask_sub _ _)).eight
   obtain ⟨ho1, ho2, ho3, ho4, hou, ho5⟩ := wbFits_at l HFT.out k hkl
   have hvn : v.nu <= 1000000000000000 := by rw [hv3]; exact hou
   have hwn := wbN_at l k hkl
   have HU := hI hv6
   have HUN := hI hv3
   have HEX := hI hv2
   have HO2 := hI ho2
   have HO5 := hI ho5
   have HIT := hI (show itemB (17 - d) l[k] = (nameB l[k].name && refExprB l[k].cond && backsB (17 - d - 1) l[k].unl) from rfl)
   have HTS := hI (wbN_take_succ l k hkl)
   have htl := wbN_take_le l (k + 1)
   have HTL := hI htl
   have hblt := block_lt c0
   rw [hv0] at c0
   simp only at hblt
   clear hrow hv0 hv2 hv3 hv4 hv5 hv6 ho2 ho3 ho4 hou ho5 htl
   obtain ⟨wx, hwx⟩ : ∃ wx, wx = (wr.setCell ⟨bc, 0, none⟩ (.int .i64 ((m : Int) + 1))).alloc (.cells #[.string l[k].name, .int .i64 v.x.op, .string v.x.name, .slice v.x.aw v.x.nw v.x.cw, .int .i64 v.x.lo, .int .i64 v.x.hi, .slice v.x.aa v.x.na v.x.ca, .slice v.au v.nu v.cu] 53) := ⟨_, rfl⟩
   have HBX := hI (show wx.heap[wr.heap.size]? = some (.cells #[.string l[k].name, .int .i64 v.x.op, .string v.x.name, .slice v.x.aw v.x.nw v.x.cw, .int .i64 v.x.lo, .int .i64 v.x.hi, .slice v.x.aa v.x.na v.x.ca, .slice v.au v.nu v.cu] 53 (0, 0)) by
    rw [hwx]
    exact alloc_atR (by simp))
   have HCX := hI (show wx.heap[bc]? = some (.cells #[.int .i64 (((m + 1 : Nat)) : Int)] 3 (0, 0)) by
    rw [hwx]
    have := heap_setCell_same wr bc 0 _ _ (.int .i64 ((m : Int) + 1)) HCB.out
    exact blk_alloc this)
   have HHX := hI (show Chg [bc] wr wx by rw [hwx]; exact ((Chg.refl [bc] wr).setCell (Or.inl (by simp)) _).alloc _)
   go_upto_region 5 with fail
   rw [<- hwx]
   have HXX := hI ((HCH.out.then HHX.out).ext HX0.out (by simpa using HBC.out))
   clear hwx cc0 ccf c0 c1 c2 c3 c4 c5 c6 c7
   obtain ⟨cc0, ccf⟩ := blk1 HCX.out
   have HFAL := hI (fun (h : itemB (17 - d) l[k] = false) => show R = false by
    rw [HR.out, HQ.out]
    have : l.all (itemB (17 - d)) = false := by
     rw [List.all_eq_false]
     exact ⟨l[k], List.getElem_mem hkl, by rw [h]; simp⟩
    rw [this]; simp)
   have HCNT := hI (fun (h : 40 < n + wbN l) => show R = false by
    rw [HR.out]
    have : decide (n + wbN l <= 40) = false := decide_eq_false (by omega)
    rw [this]; simp)
   by_cases h17 : d = 17
   ·have t2 : decide ((16 : Int) < (d : Int)) = true := decide_eq_true (by omega)
    have HF := hI (show R = false by
     rw [HR.out, HQ.out, h17]
     have : ¬ l.length = 0 := by omega
     simp [this])
    go_wp2_with fail
    go_ret
    exact ⟨m + 1, by rw [HF.out]; rfl, HCX.out, by omega, fun h => (by rw [HF.out] at h; cases h), HCH.out.then HHX.out⟩
   have t2 : decide ((16 : Int) < (d : Int)) = false := decide_eq_false (by omega)
   by_cases h40 : 40 < m + 1
   ·have t3 : decide ((40 : Int) < ((m + 1 : Nat) : Int)) = true := decide_eq_true (by omega)
    have HF := hI (HCNT.out (by have h1 := HM.out; have h2 := HTS.out; have h3 := HTL.out; omega))
    go_wp2_with fail
    go_ret
    exact ⟨m + 1, by rw [HF.out]; rfl, HCX.out, by omega, fun h => (by rw [HF.out] at h; cases h), HCH.out.then HHX.out⟩
   have t3 : decide ((40 : Int) < ((m + 1 : Nat) : Int)) = false := decide_eq_false (by omega)
   obtain ⟨c0, c1, c2, c3, c4, c5, c6, c7, cf⟩ := blk8 HBX.out
   have hltx := blk_lt HBX.out
   cases hnb : nameB l[k].name
   ·have HNB := hI hnb
    have HF := hI (HFAL.out (by rw [HIT.out, hnb]; rfl))
    clear hnb
    go_wp2_with fail
    refine (name_calls _ _ ho1).mono ?_
    rintro r w1 ⟨rfl, rfl⟩
    rw [HNB.out]
    go_wp2_with fail
    go_ret
    exact ⟨m + 1, by rw [HF.out]; rfl, HCX.out, by omega, fun h => (by rw [HF.out] at h; cases h), HCH.out.then HHX.out⟩
   have HNB := hI hnb
   rw [hnb, Bool.true_and] at HIT
   clear hnb
   go_wp2_with fail
   refine (name_calls _ _ ho1).mono ?_
   rintro r w1 ⟨rfl, rfl⟩
   rw [HNB.out]
   go_wp2_with fail
   refine (Valid_calls l[k].cond _ wx (HEX.out.mono (HHX.out.sub.trans (mask_sub _ _))) (HO.out.ext HXX.out) HO2.out).mono ?_
   rintro r w2 ⟨rfl, hx2⟩
   rw [validB_ref]
   have HX2 := hI (HXX.out.trans hx2)
   have HC2 := hI (hx2.blk HCX.out)
   have HB2 := hI (hx2.blk HBX.out)
   have HCH2 := hI ((HCH.out.then HHX.out).then (hx2.chg [bc]))
   have HU2 := hI (WbsD.mono ((HHX.out.then (hx2.chg [bc])).sub) _ _ HU.out)
   clear hx2 c0 c1 c2 c3 c4 c5 c6 c7 cf cc0 ccf hltx
   obtain ⟨c0, c1, c2, c3, c4, c5, c6, c7, cf⟩ := blk8 HB2.out
   have hltx := blk_lt HB2.out
   cases hxb : refExprB l[k].cond
   ·have HF := hI (HFAL.out (by rw [HIT.out, hxb]; rfl))
    go_wp2_with fail
    go_ret
    exact ⟨m + 1, by rw [HF.out]; rfl, HC2.out, by omega, fun h => (by rw [HF.out] at h; cases h), HCH2.out⟩
   rw [hxb, Bool.true_and] at HIT
   clear hxb
   have Q1 := hI (show (d : Int) + 1 = ((d + 1 : Nat) : Int) by omega)
   have HWF := hI (IH.out l[k].unl v.au v.nu v.cu (d + 1) (m + 1) bc w2 (by omega) hvn HO5.out (by omega) (by omega) (by omega) HUN.out HU2.out HX2.out HBC.out HC2.out)
   have e1 : 17 - (d + 1) = 17 - d - 1 := by omega
   rw [e1, <- HIT.out] at HWF
   clear e1
   go_wp2_with fail
   rw [Q1.out]
   refine HWF.out.mono ?_
   rintro r w3 ⟨m3, rfl, hc3, hm3, hT3, hch3⟩
   have HC3 := hI hc3
   have HT3 := hI hT3
   have HCH3 := hI (HCH2.out.then hch3)
   clear hc3 hT3 hch3 c0 c1 c2 c3 c4 c5 c6 c7 cf hltx
   cases hib : itemB (17 - d) l[k]
   ·have HF := hI (HFAL.out hib)
    simp only [Bool.false_and]
    clear hib
    go_wp2_with fail
    go_ret
    exact ⟨m3, by rw [HF.out]; rfl, HC3.out, hm3, fun h => (by rw [HF.out] at h; cases h), HCH3.out⟩
   have HIB := hI hib
   rw [hib] at HT3
   clear hib
   simp only [Bool.true_and]
   by_cases hs40 : m + 1 + wbN l[k].unl <= 40
   case neg =>
    have t4 : decide (m + 1 + wbN l[k].unl <= 40) = false := decide_eq_false hs40
    rw [t4]
    have HF := hI (HCNT.out (by have h1 := HM.out; have h2 := HTS.out; have h3 := HTL.out; omega))
    clear t4
    go_wp2_with fail
    go_ret
    exact ⟨m3, by rw [HF.out]; rfl, HC3.out, hm3, fun h => (by rw [HF.out] at h; cases h), HCH3.out⟩
   have t4 : decide (m + 1 + wbN l[k].unl <= 40) = true := decide_eq_true hs40
   rw [t4]
   have HMM := hI (HT3.out (by rw [t4]; rfl))
   clear t4
   go_wp2_with fail
   go_roundw
   case rel =>
    refine ⟨k + 1, m3, by go_num, by omega, fun j hj hjk => ?_, ?_, ?_, ?_, HC3.out, HCH3.out⟩
    ·by_cases e : j = k
     ·subst e; exact HIB.out
     exact HALL.out j hj (by omega)
    ·rw [HTS.out, HMM.out, HM.out]; omega
    ·rw [HMM.out]; exact hs40
    exact Or.inr h17
   case measure => simp [intOf]; omega
def dstAt (ops : Array Oper) (j : Nat) : Option Tmp := (ops[j]?).bind (·.dst)
def acts (ops : Array Oper) (a : Act) (vs : Nat -> Value) (L : ZN) : Act := L.foldl (fun b j => b.put (dstAt ops j) (vs j)) a
theorem acts_snoc (ops : Array Oper) (a : Act) (vs : Nat -> Value) (L : ZN) (i : Nat) : acts ops a vs (L ++ [i]) = (acts ops a vs L).put (dstAt ops i) (vs i) := by simp [acts]
theorem acts_congr {ops : Array Oper} {a : Act} {vs vs' : Nat -> Value} {L : ZN} (h : ∀ j ∈ L, vs j = vs' j) : acts ops a vs L = acts ops a vs' L := by
 unfold acts
 induction L generalizing a with
 | nil => rfl
 | cons x r ih => simp only [List.foldl_cons, h x (by simp)]; exact ih (fun j hj => h j (List.mem_cons_of_mem _ hj))
theorem put_size (a : Act) (d : Option Tmp) (v : Value) : (a.put d v).tmps.size = a.tmps.size := by cases d <;> simp [Act.put]
theorem acts_size (ops : Array Oper) (a : Act) (vs : Nat -> Value) (L : ZN) : (acts ops a vs L).tmps.size = a.tmps.size := by
 unfold acts
 induction L generalizing a with
 | nil => rfl
 | cons x r ih => rw [List.foldl_cons, ih, put_size]
def DstApart (ops : Array Oper) : Prop := ∀ i j d, dstAt ops i = some d -> dstAt ops j = some d -> i = j
theorem put_eval_same (a : Act) (t : Tmp) (v : Value) : (a.put (some t) v).eval (.tmp t) = if t < a.tmps.size then v else undef := by
 by_cases h : t < a.tmps.size
 ·rw [if_pos h]; simp [Act.put, Act.eval, h]
 rw [if_neg h]
 simp only [Act.put, Act.eval]
 rw [Array.setIfInBounds_eq_of_size_le (Nat.le_of_not_lt h)]
 simp
 rw [Array.getElem?_eq_none (Nat.le_of_not_lt h)]; rfl
theorem acts_eval_in {ops : Array Oper} (hd : DstApart ops) {a : Act} {vs : Nat -> Value} {L : ZN} {t : Tmp} {j : Nat} (hj : j ∈ L) (ht : dstAt ops j = some t) : (acts ops a vs L).eval (.tmp t) = if t < a.tmps.size then vs j else undef := by
 induction L generalizing a with
 | nil => simp at hj
 | cons x r ih =>
  simp only [acts, List.foldl_cons]
  by_cases hjr : j ∈ r
  ·have := ih (a := a.put (dstAt ops x) (vs x)) hjr
   rw [put_size] at this
   exact this
  obtain rfl : j = x := by rcases List.mem_cons.1 hj with h | h; exact h; exact absurd h hjr
  have : ∀ (b : Act), (acts ops b vs r).eval (.tmp t) = b.eval (.tmp t) := by
   clear ih hj
   induction r with
   | nil => intro b; rfl
   | cons y s ih =>
    intro b
    simp only [acts, List.foldl_cons]
    have h1 := ih (fun h => hjr (List.mem_cons_of_mem _ h)) (b.put (dstAt ops y) (vs y))
    simp only [acts] at h1
    rw [h1]
    exact Act.eval_put (fun d hd' e => by
     injection e with e
     subst e
     exact hjr (by rw [hd _ _ _ ht hd']; simp))
  have h2 := this (a.put (dstAt ops j) (vs j))
  simp only [acts] at h2
  rw [h2, ht, put_eval_same]
theorem acts_eval_out {ops : Array Oper} {a : Act} {vs : Nat -> Value} {L : ZN} {t : Tmp} (ht : ∀ j ∈ L, dstAt ops j ≠ some t) : (acts ops a vs L).eval (.tmp t) = a.eval (.tmp t) := by
 induction L generalizing a with
 | nil => rfl
 | cons x r ih =>
  simp only [acts, List.foldl_cons]
  have := ih (a := a.put (dstAt ops x) (vs x)) (fun j hj => ht j (List.mem_cons_of_mem _ hj))
  simp only [acts] at this
  rw [this]
  exact Act.eval_put (fun d hd' e => by injection e with e; subst e; exact ht x (by simp) hd')
theorem acts_perm {ops : Array Oper} (hd : DstApart ops) {a : Act} {vs : Nat -> Value} {L L' : ZN} (h : L.Perm L') : acts ops a vs L = acts ops a vs L' := by
 refine List.Perm.foldl_eq' h (fun x _ y _ z => ?_) a
 by_cases hxy : x = y
 ·subst hxy; rfl
 exact Act.put_comm _ _ _ (fun d hx hy => hxy (hd _ _ _ hx hy))
def isData (e : Edge) : Bool := match e.ground with | .data => true | _ => false
def okGrow (ops : Array Oper) (m : Nat) : Bool :=
 Region.noSelect ops && decide (m <= ops.size) && decide (ops.size <= m + 1) &&
 ((List.range ops.size).all fun i => (List.range ops.size).all fun j => i == j || dstAt ops i == none || dstAt ops i != dstAt ops j) &&
 ((List.range ops.size).all fun i => match ops[i]? with
  | none => false
  | some o => (o.guard == none || i == m) && (o.after.all fun e => (!Region.binds .any e || decide (e.on < i)) && (!isData e || Region.binds .any e)) &&
   ((List.range m).all fun j => match dstAt ops j with
    | none => true
    | some t => !(o.looksAt ops).contains t || (i == m) || o.after.any (fun e => Region.binds .any e && e.on == j)) &&
   (i != m || (List.range m).all fun j => o.after.any (fun e => Region.binds .any e && e.on == j)))
theorem okGrow_spec {ops : Array Oper} {m : Nat} (h : okGrow ops m = true) : Region.noSelect ops = true /\ m <= ops.size /\ ops.size <= m + 1 /\ DstApart ops /\
  (∀ i o, ops[i]? = some o -> (i < m -> o.guard = none) /\ (∀ e ∈ o.after, (Region.binds .any e = true -> e.on < i) /\ (isData e = true -> Region.binds .any e = true)) /\ (i < m -> ∀ j t, j < m -> dstAt ops j = some t -> t ∈ o.looksAt ops -> ∃ e ∈ o.after, Region.binds .any e = true /\ e.on = j) /\
   (i = m -> ∀ j, j < m -> ∃ e ∈ o.after, Region.binds .any e = true /\ e.on = j)) := by
 simp only [okGrow, Bool.and_eq_true, decide_eq_true_eq] at h
 obtain ⟨⟨⟨⟨h1, h2⟩, h3⟩, h4⟩, h5⟩ := h
 refine ⟨h1, h2, h3, ?_, ?_⟩
 ·intro i j d hi hj
  have li : i < ops.size := by
   unfold dstAt at hi
   rcases Nat.lt_or_ge i ops.size with h | h
   ·exact h
   rw [Array.getElem?_eq_none h] at hi; simp at hi
  have lj : j < ops.size := by
   unfold dstAt at hj
   rcases Nat.lt_or_ge j ops.size with h | h
   ·exact h
   rw [Array.getElem?_eq_none h] at hj; simp at hj
  have := List.all_eq_true.1 (List.all_eq_true.1 h4 i (by simpa using li)) j (by simpa using lj)
  simpa [hi, hj] using this
 intro i o ho
 have li : i < ops.size := (Array.getElem?_eq_some_iff.1 ho).1
 have h6 := List.all_eq_true.1 h5 i (by simpa using li)
 simp only [ho, Bool.and_eq_true] at h6
 obtain ⟨⟨⟨g1, g2⟩, g3⟩, g4⟩ := h6
 refine ⟨fun hm => ?_, fun e he => ?_, fun hm j t hjm hj ht => ?_, fun hm j hj => ?_⟩
 ·rcases Bool.or_eq_true_iff.1 g1 with g | g
  ·simpa using g
  have : i = m := by simpa using g
  omega
 ·have := Array.all_eq_true_iff_forall_mem.1 g2 e he
  simp only [Bool.and_eq_true, Bool.or_eq_true, Bool.not_eq_true', decide_eq_true_eq] at this
  refine ⟨fun hb => ?_, fun hb => ?_⟩
  ·rcases this.1 with h | h
   ·rw [hb] at h; cases h
   exact h
  rcases this.2 with h | h
  ·rw [hb] at h; cases h
  exact h
 ·have := List.all_eq_true.1 g3 j (by simpa using hjm)
  rw [hj] at this
  simp only [Bool.or_eq_true, Bool.not_eq_true'] at this
  rcases this with (h | h) | h
  ·rw [List.contains_iff_mem.2 ht] at h; cases h
  ·have : i = m := by simpa using h
   omega
  obtain ⟨e, he, hb⟩ := Array.any_eq_true'.1 h
  simp only [Bool.and_eq_true, beq_iff_eq] at hb
  exact ⟨e, he, hb.1, hb.2⟩
 subst hm
 rcases Bool.or_eq_true_iff.1 g4 with g | g
 ·simp at g
 have := List.all_eq_true.1 g j (by simpa using hj)
 obtain ⟨e, he, hb⟩ := Array.any_eq_true'.1 this
 simp only [Bool.and_eq_true, beq_iff_eq] at hb
 exact ⟨e, he, hb.1, hb.2⟩
def GivesOp (P : Program) (o : Oper) (ρ : Operand -> Value) (W : World) (T : Value -> World -> Prop) : Prop := match (execOp ρ o).run P W with
 | .ok (.value v) W' => T v W'
 | .ok .skip W' => T undef W'
 | .ok (.enter f args) W' => Calls P f args W' (fun e W'' => ∃ v, e = .returned v /\ T v W'')
 | _ => False
theorem GivesOp.wp {P : Program} {o : Oper} {ρ : Operand -> Value} {a' : Act} {W : World} {T : Value -> World -> Prop} {Q : Exit -> Act -> World -> Prop} (h : GivesOp P o ρ W T) (he : execOp a'.eval o = execOp ρ o) :
  o.wp P a' W (fun a'' W' => ∃ v, a'' = a'.put o.dst v /\ T v W') Q := by
 unfold GivesOp at h
 unfold Oper.wp
 rw [he]
 generalize (execOp ρ o).run P W = r at *
 cases r with
 | ok n w' =>
  cases n <;> simp only at h <;> simp only [Oper.upon]
  case value v => exact ⟨v, rfl, h⟩
  case skip => exact ⟨undef, rfl, h⟩
  case enter f args =>
   refine Calls.mono h (fun e w'' he => ?_)
   obtain ⟨v, rfl, ht⟩ := he
   exact ⟨v, rfl, ht⟩
 | halt x w' => simp only at h
structure Sees (ops : Array Oper) (a : Act) (m : Nat) (vs : Nat -> Value) (ρ : Operand -> Value) : Prop where
 ins : ∀ j t, j < m -> dstAt ops j = some t -> t < a.tmps.size -> ρ (.tmp t) = vs j
 out : ∀ t, ((List.range m).all fun j => dstAt ops j != some t) = true -> ρ (.tmp t) = a.eval (.tmp t)
 const : ∀ c, ρ (.const c) = c
 glob : ∀ g, ρ (.global g) = .pointer (some ⟨g, 0, none⟩)
 func : ∀ f, ρ (.func f) = .func (.func f) #[] #[]
theorem sees_acts {ops : Array Oper} (hd : DstApart ops) (a : Act) (m : Nat) (vs : Nat -> Value) : Sees ops a m vs (acts ops a vs (List.range m)).eval where
 ins := fun j t hj ht hs => by rw [acts_eval_in hd (by simpa using hj) ht, if_pos hs]
 out := fun t ht => acts_eval_out (fun j hj => by have := List.all_eq_true.1 ht j hj; simpa using this)
 const := fun _ => rfl
 glob := fun _ => rfl
 func := fun _ => rfl
def upd (vs : Nat -> Value) (i : Nat) (v : Value) : Nat -> Value := fun j => if j = i then v else vs j
def comesAfter (ops : Array Oper) : Nat -> Nat -> Nat -> Bool
 | 0, _, _ => false
 | f + 1, i, k => match ops[i]? with
  | none => false
  | some o => o.after.any fun e => Region.binds .any e && (e.on == k || comesAfter ops f e.on k)
theorem comesAfter_mem {ops : Array Oper} {L : ZN} (hcl : ∀ i ∈ L, ∀ o, ops[i]? = some o -> ∀ e ∈ o.after, Region.binds .any e = true -> e.on ∈ L) : ∀ (f i k : Nat), i ∈ L -> comesAfter ops f i k = true -> k ∈ L := by
 intro f
 induction f with
 | zero => intro i k _ h; simp [comesAfter] at h
 | succ f ih =>
  intro i k hi h
  rw [comesAfter] at h
  cases ho : ops[i]? with
  | none => rw [ho] at h; cases h
  | some o =>
   rw [ho] at h
   obtain ⟨e, he, hb⟩ := Array.any_eq_true'.1 h
   simp only [Bool.and_eq_true, Bool.or_eq_true, beq_iff_eq] at hb
   have hm := hcl i hi o ho e he hb.1
   rcases hb.2 with h1 | h1
   ·rw [<- h1]; exact hm
   exact ih e.on k hm h1
theorem comesAfter_ready {ops : Array Oper} {L : ZN} (hcl : ∀ i ∈ L, ∀ o, ops[i]? = some o -> ∀ e ∈ o.after, Region.binds .any e = true -> e.on ∈ L) {i : Nat} {o : Oper} (ho : ops[i]? = some o) (hd : ∀ e ∈ o.after, Region.binds .any e = true -> e.on ∈ L) : ∀ (f k : Nat), comesAfter ops f i k = true -> k ∈ L := by
 intro f k h
 cases f with
 | zero => simp [comesAfter] at h
 | succ f =>
  rw [comesAfter, ho] at h
  obtain ⟨e, he, hb⟩ := Array.any_eq_true'.1 h
  simp only [Bool.and_eq_true, Bool.or_eq_true, beq_iff_eq] at hb
  have hm := hd e he hb.1
  rcases hb.2 with h1 | h1
  ·rw [<- h1]; exact hm
  exact comesAfter_mem hcl f e.on k hm h1
def looksTo (ops : Array Oper) (c i : Nat) : Bool := match ops[c]? with | none => false | some o => o.after.any fun e => isData e && e.on == i
def outlasts (ops : Array Oper) (m : Nat) (Kp : ZN) (i k : Nat) : Bool := !comesAfter ops m i k && (Kp.contains i || (List.range m).any fun c => c != k && !comesAfter ops m k c && looksTo ops c i)
section
variable {P : Program} {ops : Array Oper} {Q : Exit -> Act -> World -> Prop} {a : Act} {m : Nat} (Kp : ZN) (G : ZN -> World -> Prop) (E : Nat -> World -> World -> Prop) (R : Nat -> Value -> World -> Prop)
theorem wpAny_grow (hok : okGrow ops m = true) (hRE : ∀ i k v W W', i < m -> k < m -> i ≠ k -> outlasts ops m Kp i k = true -> R i v W -> E k W W' -> R i v W')
  (hstep : ∀ i o, i < m -> ops[i]? = some o -> ∀ L vs W, i ∉ L -> (∀ j ∈ L, comesAfter ops m j i = false) -> G L W -> (∀ e ∈ o.after, isData e = true -> R e.on (vs e.on) W) -> ∀ ρ, Sees ops a m vs ρ -> GivesOp P o ρ W (fun v W' => E i W W' /\ G (L ++ [i]) W' /\ R i v W'))
  (hend : ∀ L vs W, (∀ j, j < m -> j ∈ L) -> G L W -> (∀ j ∈ Kp, j < m -> R j (vs j) W) -> if m = ops.size then Q .normal (acts ops a vs (List.range m)) W else wpOp P ops Q m (fun a w => Q .normal a w) (acts ops a vs (List.range m)) W) :
  ∀ (fuel : Nat) (L : ZN) (vs : Nat -> Value) (W : World) (listed : Array Bool), listed.size = ops.size -> (∀ j, j < ops.size -> (listed.getD j true = true ↔ j ∈ L)) -> L.Nodup -> (∀ j ∈ L, j < m) -> ((List.range ops.size).filter (fun j => !L.contains j)).length <= fuel -> G L W -> (∀ i ∈ L, ∀ o, ops[i]? = some o -> ∀ e ∈ o.after, Region.binds .any e = true -> e.on ∈ L) -> (∀ j ∈ L, (j ∈ Kp \/ ∃ c, c < m /\ c ∉ L /\ looksTo ops c j = true) -> R j (vs j) W) ->
   wpAny P .any ops Q fuel listed (acts ops a vs L) W := by
 obtain ⟨hns, hm1, hm2, hda, hspec⟩ := okGrow_spec hok
 have hperm : ∀ L : ZN, L.Nodup -> (∀ j ∈ L, j < m) -> (∀ j, j < m -> j ∈ L) -> L.Perm (List.range m) := fun L h1 h2 h3 =>
  (List.perm_ext_iff_of_nodup h1 List.nodup_range).2 (fun j => ⟨fun h => by simpa using h2 j h, fun h => h3 j (by simpa using h)⟩)
 -- all below m are listed if none of them is ready
 have hall : ∀ (L : ZN) (listed : Array Bool), listed.size = ops.size -> (∀ j, j < ops.size -> (listed.getD j true = true ↔ j ∈ L)) -> (∀ j ∈ Region.ready .any ops listed, ¬ j < m) -> ∀ j, j < m -> j ∈ L := by
  intro L listed hsz hL hr j
  induction j using Nat.strongRecOn with
  | _ j ih =>
   intro hj
   by_cases hjL : j ∈ L
   ·exact hjL
   exfalso
   refine hr j ?_ hj
   have hjs : j < ops.size := by omega
   rw [mem_ready]
   obtain ⟨o, ho⟩ : ∃ o, ops[j]? = some o := ⟨ops[j], Array.getElem?_eq_getElem hjs⟩
   refine ⟨?_, o, ho, fun e he hb => ?_⟩
   ·cases hx : listed.getD j true
    ·rfl
    exact absurd ((hL j hjs).1 hx) hjL
   have hlt := ((hspec j o ho).2.1 e he).1 hb
   have hm := ih e.on hlt (by omega)
   have := (hL e.on (by omega)).2 hm
   have hin : e.on < listed.size := by rw [hsz]; omega
   simpa [Array.getD, hin] using this
 -- what is asked when all below m are listed
 have hfin : ∀ (L : ZN) (vs : Nat -> Value) (W : World), L.Nodup -> (∀ j ∈ L, j < m) -> (∀ j, j < m -> j ∈ L) -> G L W -> (∀ j ∈ L, (j ∈ Kp \/ ∃ c, c < m /\ c ∉ L /\ looksTo ops c j = true) -> R j (vs j) W) ->
   if m = ops.size then Q .normal (acts ops a vs L) W else wpOp P ops Q m (fun a w => Q .normal a w) (acts ops a vs L) W := by
  intro L vs W hnd hLm hcov hE hR
  rw [acts_perm hda (hperm L hnd hLm hcov)]
  exact hend L vs W hcov hE (fun j hk hj => hR j (hcov j hj) (Or.inl hk))
 intro fuel
 induction fuel with
 | zero =>
  intro L vs W listed hsz hL hnd hLm hlen hE hcl hR
  have hcov : ∀ j, j < ops.size -> j ∈ L := fun j hj => by
   have h0 := List.eq_nil_of_length_eq_zero (Nat.le_zero.1 hlen)
   have : j ∉ (List.range ops.size).filter (fun j => !L.contains j) := by rw [h0]; simp
   simpa [hj] using this
  have hmn : m = ops.size := by
   rcases Nat.lt_or_ge m ops.size with h | h
   ·have := hLm m (hcov m h); omega
   omega
  have hf := hfin L vs W hnd hLm (fun j hj => hcov j (by omega)) hE hR
  rw [if_pos hmn] at hf
  refine ⟨?_, hf⟩
  rw [List.eq_nil_iff_forall_not_mem]
  intro j hj
  obtain ⟨h0, o, ho, _⟩ := mem_ready.1 hj
  have := (hL j (Array.getElem?_eq_some_iff.1 ho).1).2 (hcov j (Array.getElem?_eq_some_iff.1 ho).1)
  rw [this] at h0; cases h0
 | succ fuel ih =>
  intro L vs W listed hsz hL hnd hLm hlen hE hcl hR
  refine ⟨fun hr => ?_, fun i hi => ?_⟩
  ·have hcov := hall L listed hsz hL (by rw [hr]; simp)
   have hf := hfin L vs W hnd hLm hcov hE hR
   by_cases hmn : m = ops.size
   ·rw [if_pos hmn] at hf; exact hf
   exfalso
   have hms : m < ops.size := by omega
   have : m ∈ Region.ready .any ops listed := by
    rw [mem_ready]
    obtain ⟨o, ho⟩ : ∃ o, ops[m]? = some o := ⟨ops[m], Array.getElem?_eq_getElem hms⟩
    refine ⟨?_, o, ho, fun e he hb => ?_⟩
    ·cases hx : listed.getD m true
     ·rfl
     have := hLm m ((hL m hms).1 hx); omega
    have hlt := ((hspec m o ho).2.1 e he).1 hb
    have := (hL e.on (by omega)).2 (hcov e.on hlt)
    have hin : e.on < listed.size := by rw [hsz]; omega
    simpa [Array.getD, hin] using this
   rw [hr] at this
   simp at this
  obtain ⟨h0, o, ho, hdep⟩ := mem_ready.1 hi
  have his : i < ops.size := (Array.getElem?_eq_some_iff.1 ho).1
  have hiL : i ∉ L := fun h => by rw [(hL i his).2 h] at h0; cases h0
  have hdepL : ∀ e ∈ o.after, Region.binds .any e = true -> e.on ∈ L := fun e he hb => by
   have h1 := hdep e he hb
   have hlt := ((hspec i o ho).2.1 e he).1 hb
   have hin : e.on < listed.size := by rw [hsz]; omega
   exact (hL e.on (by omega)).1 (by simpa [Array.getD, hin] using h1)
  have hlist : ∀ j, j < ops.size -> ((listed.setIfInBounds i true).getD j true = true ↔ j ∈ L ++ [i]) := fun j hj => by
   by_cases hij : i = j
   ·subst hij; simp [hsz, his]
   rw [getD_set_ne true hij, hL j hj]; simp; intro e; exact absurd e.symm hij
  by_cases him : i < m
  ·-- one of the operations that make memory
   have hnc : ∀ j ∈ L, comesAfter ops m j i = false := fun j hj => by
    cases hx : comesAfter ops m j i
    ·rfl
    exact absurd (comesAfter_mem hcl m j i hj hx) hiL
   have hg := hstep i o him ho L vs W hiL hnc hE (fun e he hb => hR _ (hdepL e he (((hspec i o ho).2.1 e he).2 hb)) (Or.inr ⟨i, him, hiL, by unfold looksTo; rw [ho]; exact Array.any_eq_true'.2 ⟨e, he, by simp [hb]⟩⟩)) _ (sees_acts hda a m vs)
   have hex : execOp (acts ops a vs L).eval o = execOp (acts ops a vs (List.range m)).eval o := by
    refine execOp_congr o (Region.noSelect_spec hns i o · · ho) (fun x hx => ?_)
    cases x with
    | tmp t =>
     have hlook : t ∈ o.looksAt ops := List.mem_append_left _ (List.mem_filterMap.2 ⟨.tmp t, by simpa using hx, rfl⟩)
     by_cases hex : ∃ j, j < m /\ dstAt ops j = some t
     ·obtain ⟨j, hjm, hj⟩ := hex
      obtain ⟨e, he, hb, rfl⟩ := (hspec i o ho).2.2.1 him j t hjm hj hlook
      have hjL := hdepL e he hb
      rw [acts_eval_in hda hjL hj, acts_eval_in hda (by simpa using hLm _ hjL) hj]
     have h1 : ∀ j, j < m -> dstAt ops j ≠ some t := fun j hjm hj => hex ⟨j, hjm, hj⟩
     rw [acts_eval_out (fun j hjL => h1 j (hLm j hjL)), acts_eval_out (fun j hjr => h1 j (by simpa using hjr))]
    | const v => rfl
    | global g => rfl
    | func f => rfl
   unfold wpOp
   simp only [ho]
   rw [if_pos (by unfold Region.wanted; rw [(hspec i o ho).1 him])]
   left
   refine Oper.wp_mono ?_ (hg.wp hex)
   rintro a' W' ⟨v, rfl, hEW, hE', hRv⟩
   have e1 : (acts ops a vs L).put o.dst v = acts ops a (upd vs i v) (L ++ [i]) := by
    rw [acts_snoc, acts_congr (vs := upd vs i v) (vs' := vs) (fun j hj => by unfold upd; rw [if_neg (fun e => hiL (by rw [<- e]; exact hj))])]
    simp [upd, dstAt, ho]
   rw [e1]
   refine ih (L ++ [i]) (upd vs i v) W' _ (by simpa using hsz) hlist ?_ ?_ ?_ hE' ?_ ?_
   ·rw [List.nodup_append]
    exact ⟨hnd, by simp, fun x hx y hy e => by simp at hy; subst hy; subst e; exact hiL hx⟩
   ·intro j hj
    rcases List.mem_append.1 hj with h | h
    ·exact hLm j h
    simp at h; omega
   ·have h1 : (List.range ops.size).filter (fun j => !(L ++ [i]).contains j) = ((List.range ops.size).filter (fun j => !L.contains j)).filter (fun j => j != i) := by
     rw [List.filter_filter]
     congr 1
     funext j
     simp only [List.contains_append, Bool.not_or]
     rw [Bool.and_comm]
     congr 1
     rw [Bool.eq_iff_iff]; simp [bne]
    have h2 : (((List.range ops.size).filter (fun j => !L.contains j)).filter (fun j => j != i)).length < ((List.range ops.size).filter (fun j => !L.contains j)).length := by
     rw [List.length_filter_lt_length_iff_exists]
     exact ⟨i, by simp [his, hiL], by simp⟩
    rw [h1]; omega
   ·intro j hj o' ho' e he hb
    rcases List.mem_append.1 hj with h | h
    ·exact List.mem_append_left _ (hcl j h o' ho' e he hb)
    simp at h; subst h
    rw [ho] at ho'
    cases ho'
    exact List.mem_append_left _ (hdepL e he hb)
   intro j hj hlive
   rcases List.mem_append.1 hj with h | h
   ·have : upd vs i v j = vs j := by unfold upd; rw [if_neg (fun e => hiL (by rw [<- e]; exact h))]
    rw [this]
    have hlive' : j ∈ Kp \/ ∃ c, c < m /\ c ∉ L /\ looksTo ops c j = true := hlive.imp id (fun ⟨c, h1, h2, h3⟩ => ⟨c, h1, fun hc => h2 (List.mem_append_left _ hc), h3⟩)
    refine hRE j i _ W W' (hLm j h) him (fun e => hiL (e ▸ h)) ?_ (hR j h hlive') hEW
    unfold outlasts
    rw [Bool.and_eq_true, Bool.not_eq_true', Bool.or_eq_true]
    refine ⟨?_, ?_⟩
    ·cases hx : comesAfter ops m j i
     ·rfl
     exact absurd (comesAfter_mem hcl m j i h hx) hiL
    rcases hlive with hk | ⟨c, h1, h2, h3⟩
    ·exact Or.inl (List.contains_iff_mem.2 hk)
    refine Or.inr (List.any_eq_true.2 ⟨c, by simpa using h1, ?_⟩)
    rw [h3, Bool.and_true, Bool.and_eq_true, bne_iff_ne, Bool.not_eq_true']
    refine ⟨fun e => by subst e; exact h2 (by simp), ?_⟩
    cases hx : comesAfter ops m i c
    ·rfl
    exact absurd (List.mem_append_left _ (comesAfter_ready hcl ho hdepL m c hx)) h2
   simp at h; subst h; simpa [upd] using hRv
  -- the last one
  obtain rfl : i = m := by omega
  have hcov : ∀ j, j < i -> j ∈ L := fun j hj => by
   obtain ⟨e, he, hb, rfl⟩ := (hspec i o ho).2.2.2 rfl j hj
   exact hdepL e he hb
  have hf := hfin L vs W hnd hLm hcov hE hR
  rw [if_neg (by omega)] at hf
  refine wpOp_mono (fun a' W' hq => ?_) hf
  refine wpAny_done ?_ hq fuel
  rw [List.eq_nil_iff_forall_not_mem]
  intro j hj
  obtain ⟨h0', o', ho', _⟩ := mem_ready.1 hj
  have hjs := (Array.getElem?_eq_some_iff.1 ho').1
  have : j ∈ L ++ [i] := by
   by_cases hji : j < i
   ·exact List.mem_append_left _ (hcov j hji)
   have : j = i := by omega
   simp [this]
  rw [(hlist j hjs).2 this] at h0'; cases h0'
theorem wp_region_growL {id : Nat} {w : World} (hm : P.follows .mixedOrders = true) (hok : okGrow ops m = true) (hG : G [] w.drew) (hRE : ∀ i k v W W', i < m -> k < m -> i ≠ k -> outlasts ops m Kp i k = true -> R i v W -> E k W W' -> R i v W')
  (hstep : ∀ i o, i < m -> ops[i]? = some o -> ∀ L vs W, i ∉ L -> (∀ j ∈ L, comesAfter ops m j i = false) -> G L W -> (∀ e ∈ o.after, isData e = true -> R e.on (vs e.on) W) -> ∀ ρ, Sees ops a m vs ρ -> GivesOp P o ρ W (fun v W' => E i W W' /\ G (L ++ [i]) W' /\ R i v W'))
  (hend : ∀ L vs W, (∀ j, j < m -> j ∈ L) -> G L W -> (∀ j ∈ Kp, j < m -> R j (vs j) W) -> if m = ops.size then Q .normal (acts ops a vs (List.range m)) W else wpOp P ops Q m (fun a w => Q .normal a w) (acts ops a vs (List.range m)) W) :
  (Code.region id ops true).wp P Q a w := by
 refine wp_region_any hm ?_
 refine wpAny_grow Kp G E R hok hRE hstep hend ops.size [] (fun _ => undef) _ _ (by simp) (fun j hj => ?_) List.nodup_nil (fun j hj => by simp at hj) ?_ hG (fun j hj => by simp at hj) (fun j hj => by simp at hj)
 ·simp [hj]
 exact Nat.le_trans (List.length_filter_le _ _) (by simp)
end
section
variable {P : Program} {ops : Array Oper} {Q : Exit -> Act -> World -> Prop} {a : Act} {m : Nat} (Kp : ZN) (G : World -> Prop) (E : Nat -> World -> World -> Prop) (R : Nat -> Value -> World -> Prop)
theorem wp_region_grow {id : Nat} {w : World} (hm : P.follows .mixedOrders = true) (hok : okGrow ops m = true) (hG : G w.drew) (hRE : ∀ i k v W W', i < m -> k < m -> i ≠ k -> outlasts ops m Kp i k = true -> R i v W -> E k W W' -> R i v W')
  (hstep : ∀ i o, i < m -> ops[i]? = some o -> ∀ vs W, G W -> (∀ e ∈ o.after, isData e = true -> R e.on (vs e.on) W) -> ∀ ρ, Sees ops a m vs ρ -> GivesOp P o ρ W (fun v W' => E i W W' /\ G W' /\ R i v W'))
  (hend : ∀ vs W, G W -> (∀ j ∈ Kp, j < m -> R j (vs j) W) -> if m = ops.size then Q .normal (acts ops a vs (List.range m)) W else wpOp P ops Q m (fun a w => Q .normal a w) (acts ops a vs (List.range m)) W) :
  (Code.region id ops true).wp P Q a w :=
 wp_region_growL Kp (fun _ W => G W) E R hm hok hG hRE (fun i o hi ho _ vs W _ _ => hstep i o hi ho vs W) (fun _ vs W _ => hend vs W)
end
theorem Sees.i {ops : Array Oper} {a : Act} {m : Nat} {vs : Nat -> Value} {ρ : Operand -> Value} (h : Sees ops a m vs ρ) (j t : Nat) (h1 : j < m := by omega) (h2 : dstAt ops j = some t := by rfl) (h3 : Nat.ble (t + 1) a.tmps.size = true := by rfl) : ρ (.tmp t) = vs j := h.ins j t h1 h2 (Nat.le_of_ble_eq_true h3)
theorem gives_append {t e : TypeId} {z : Value} {size bytes : Nat} (E : ElemT t e z size bytes) {ρ : Operand -> Value} {W : World} {T : Value -> World -> Prop} {dst : Option Tmp} {ty : TypeId} {pos : String} {after : Array Edge} {guard : Option (Nat × Bool)}
  (s x : Operand) (base : Nat) (v : Value) (n : Nat) (xs : List Value) (hs : ρ s = v) (B m c : Nat) (news : List Value) (hx : ρ x = .slice (some ⟨B, 0, none⟩) m c) (hl : news.length = m * size) (h1 : ∀ u ∈ news, u.oneCell' = true) (hm : 0 < m) (hn : n + m <= 100000000) (hb : bytes <= 1000)
  (hown : W.ownsRow base e size v n xs) (hnews : ∀ j (h : j < news.length), W.cell? ⟨B, j, none⟩ = some news[j]) (hbase : base <= W.heap.size)
  (h : ∀ g cap w', w'.ownsRow base e size (.slice (some ⟨g, 0, none⟩) (n + m) cap) (n + m) (xs ++ news) -> W.grownBy w' v.ownBlock -> (v.ownBlock = some g \/ g = W.heap.size) -> g < w'.heap.size -> T (.slice (some ⟨g, 0, none⟩) (n + m) cap) w') :
  GivesOp Tryz.prog { dst := dst, op := .call { callee := .builtin .append, args := #[s, x], argTypes := #[t, t] }, type := ty, pos := pos, after := after, guard := guard } ρ W T := by
 obtain ⟨i, hi, hz, hsz, hby⟩ := info_parts E.info
 obtain ⟨g, cap, w', hrun, h2, h3, h4, h5⟩ := run_append_lies (P := Tryz.prog) W t ty base e i z size bytes E.ht hi hz hsz hby E.hzs E.hsz v n xs hown ⟨B, 0, none⟩ m c news hl (by
   intro j u hu
   obtain ⟨hj, rfl⟩ := List.getElem?_eq_some_iff.1 hu
   have : (⟨B, 0, none⟩ : Addr).add j = ⟨B, j, none⟩ := by unfold Addr.add; split <;> simp_all
   rw [this]
   exact hnews j hj) h1 hm (by simp only [maxLen]; omega) (by
   calc (n + m) * bytes <= 100000000 * 1000 := Nat.mul_le_mul hn hb
    _ <= 140737488355328 := by omega) hbase _ rfl
 unfold GivesOp
 have he : execOp ρ { dst := dst, op := .call { callee := .builtin .append, args := #[s, x], argTypes := #[t, t] }, type := ty, pos := pos, after := after, guard := guard } = (do pure (.value (<- Builtin.append_ #[t, t] ty #[v, .slice (some ⟨B, 0, none⟩) m c]))) := by
  rw [<- hs, <- hx, BigFrame.execOp_builtin, BigFrame.builtin_append]; simp
 rw [he]
 simp only [Sem.run_bind, hrun]
 exact h g cap w' h2 h3 h4 h5
theorem alloc_at {w : World} {o : Obj} {n : Nat} (h : n = w.heap.size) : (w.alloc o).heap[n]? = some o := by subst h; exact alloc_new w o
def GrG (wr W : World) : Prop := Ext wr W
def GrE (_ : Nat) (W W' : World) : Prop := Ext W W'
def GrP (R : Nat -> Value -> World -> Prop) (j : Nat) (u : Value) (W : World) : Prop := R j u W
theorem wpOp_lastG {P : Program} {ops : Array Oper} {Q : Exit -> Act -> World -> Prop} {a : Act} {w : World} {i : Nat} {o : Oper} (ho : ops[i]? = some o) (h : wpList P ops Q [o] a w) : wpOp P ops Q i (fun a w => Q .normal a w) a w := by
 unfold wpOp
 rw [ho]
 exact h
end Go.Proofs.YtefjomofjejklaaGreatDoor
