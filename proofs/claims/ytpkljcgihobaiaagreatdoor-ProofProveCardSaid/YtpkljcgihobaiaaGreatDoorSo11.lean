/-
  Texts of the claim, joined: RBack2, RClause, MadeP, Grow3, AppAt, GenB, PrMem, GrowGD.
-/
import Derived.Test.YtpkljcgihobaiaaGreatDoorSo10
import Derived.Maps.AppendAt
namespace Go.Proofs.YtpkljcgihobaiaaGreatDoor
set_option maxRecDepth 100000
set_option maxHeartbeats 32000000
open Go.RowKit
def itemB (d : Nat) (x : Wb) : Bool := nameB x.name && refExprB x.cond && backsB (d - 1) x.unl
theorem backsB_eq (d : Nat) : (l : List Wb) -> backsB d l = ((decide (l.length = 0) || decide (d ≠ 0)) && l.all (itemB d))
 | [] => by simp [backsB]
 | .mk n c u :: r => by
  rw [backsB, backsB_eq d r]
  simp only [List.length_cons, List.all_cons, itemB, Wb.name, Wb.cond, Wb.unl]
  by_cases hd : d = 0
  ·simp [hd]
  simp [hd, Bool.and_assoc]
theorem givesE_b {a b : Bool} {w w' : World} (h : a = b) (hx : Ext w w') : GivesE (.bool b) w (.returned (.bool a)) w' := by subst h; exact ⟨rfl, hx⟩
theorem rbacks_calls (m : Nat) : ∀ (l : List Wb) (a : OA) (n c d : Nat) (w : World), wbN l <= m -> n <= 1000000000000000 -> wbFits l -> d <= 1000 -> WbsD w l a -> n = l.length ->
  Calls Tryz.prog 84 #[.slice a n c, .int .i64 d] w (GivesE (.bool (backsB d l)) w) := by
 induction m with
 | zero =>
  intro l a n c d w hm hn2 hok hd hD hn
  have hl := wbN_len l
  have : l = [] := List.eq_nil_of_length_eq_zero (by omega)
  subst this
  subst hn
  have HR := hI (show backsB d [] = true by simp [backsB])
  generalize backsB d [] = R at *
  clear hD hok
  go_enter Tryz.func84, Tryz.ntmps84
  go_wp2_with fail
  go_loop [5] (fun t => t = .int .i64 0) (fun _ => 0)
  case atStart => exact rfl
  case round =>
   subst hrel
   go_wp2_with fail
   all_goals (go_ret; exact givesE_b (by rw [HR.out]) (Ext.refl _))
 | succ m ih =>
  intro l a n c d w hm hn2 hok hd hD hn
  have HD := hI hD
  have HN := hI hn
  have HOK := hI hok
  have IH := hI ih
  have HQ := hI (backsB_eq d l)
  clear hD hn ih hok
  obtain ⟨R, hR⟩ : ∃ R, R = backsB d l := ⟨_, rfl⟩
  rw [<- hR]
  rw [<- hR] at HQ
  clear hR
  by_cases h0 : 0 < n /\ d = 0
  ·obtain ⟨hn0, hd0⟩ := h0
   have t0 : decide ((0 : Int) < (n : Int)) = true := decide_eq_true (by omega)
   have HR := hI (show R = false by rw [HQ.out, <- HN.out, hd0]; simp; intro h; omega)
   subst hd0
   go_enter Tryz.func84, Tryz.ntmps84
   go_wp2_with fail
   go_ret
   exact givesE_b (by rw [HR.out]) (Ext.refl _)
  have HQ2 := hI (show R = l.all (itemB d) by
   rw [HQ.out]
   by_cases h : n = 0
   ·have : l = [] := List.eq_nil_of_length_eq_zero (by have := HN.out; omega)
    subst this; simp
   have hd1 : d ≠ 0 := fun e => h0 ⟨by omega, e⟩
   simp [hd1])
  clear HQ
  by_cases hn0 : 0 < n
  case neg =>
   obtain rfl : n = 0 := by omega
   have hl0 : l = [] := List.eq_nil_of_length_eq_zero HN.out.symm
   have HR := hI (show R = true by rw [HQ2.out, hl0]; rfl)
   clear h0 hl0 hn0
   go_enter Tryz.func84, Tryz.ntmps84
   go_wp2_with fail
   go_loop [5] (fun t => t = .int .i64 0) (fun _ => 0)
   case atStart => exact rfl
   case round =>
    subst hrel
    go_wp2_with fail
    all_goals (go_ret; exact givesE_b (by rw [HR.out]) (Ext.refl _))
  case pos =>
   have t0 : decide ((0 : Int) < (n : Int)) = true := decide_eq_true (by omega)
   have td : ((d : Int) == 0) = false := by have := fun e => h0 ⟨hn0, e⟩; simp; omega
   go_enter Tryz.func84, Tryz.ntmps84
   go_wp2_with fail
   go_loopw [5] (fun t wr => ∃ k : Nat, t = .int .i64 k /\ k <= n /\ (∀ j (h : j < l.length), j < k -> itemB d l[j] = true) /\ Ext w wr) (fun t _ => n - (intOf t).toNat)
   case atStart => exact ⟨0, rfl, by omega, fun j _ h => by omega, Ext.refl _⟩
   case round =>
    obtain ⟨k, rfl, hk, hall, hxr⟩ := hrel
    have HALL := hI hall
    have HXR := hI hxr
    clear hall hxr
    by_cases hkn : k < n
    ·have hkl : k < l.length := by have := HN.out; omega
     have t1 : decide ((k : Int) < (n : Int)) = true := decide_eq_true (by omega)
     have hd1 : 1 <= d := by have := fun e => h0 ⟨by omega, e⟩; omega
     obtain ⟨b, off, rfl, v, hv0, hrow, hv2, hv3, hv4, hv5, hv6⟩ := WbsD.at l _ (WbsD.mono HXR.out.sub _ _ HD.out) k hkl
     obtain ⟨c0, c1, c2, c3, c4, c5, c6, c7⟩ := hrow.eight
     obtain ⟨ho1, ho2, ho3, ho4, hou, ho5⟩ := wbFits_at l HOK.out k hkl
     have hvn : v.nu <= 1000000000000000 := by rw [hv3]; exact hou
     have HO4 := hI ho4
     have hwn := wbN_at l k hkl
     have HU := hI hv6
     have HUN := hI hv3
     have HEX := hI hv2
     have HO2 := hI ho2
     have HO3 := hI ho3
     have HO5 := hI ho5
     have HIT := hI (show itemB d l[k] = (nameB l[k].name && refExprB l[k].cond && backsB (d - 1) l[k].unl) from rfl)
     rw [hv0] at c0
     clear hrow hv0 hv2 hv3 hv4 hv5 hv6 ho2 ho3 ho5 ho4 hou
     have q1 : ((d : Int) - 1) = ((d - 1 : Nat) : Int) := by omega
     cases hnb : nameB l[k].name
     ·have HNB := hI hnb
      have HR := hI (show R = false by
       rw [HQ2.out, List.all_eq_false]
       exact ⟨l[k], List.getElem_mem hkl, by rw [HIT.out, hnb]; simp⟩)
      clear hnb q1
      go_wp2_with fail
      refine (rname_calls _ _ ho1).mono ?_
      rintro r w1 ⟨rfl, rfl⟩
      rw [HNB.out]
      go_wp2_with fail
      go_ret
      exact givesE_b (by rw [HR.out]) HXR.out
     have HNB := hI hnb
     cases hxb : refExprB l[k].cond
     ·have HXB := hI hxb
      have HR := hI (show R = false by
       rw [HQ2.out, List.all_eq_false]
       exact ⟨l[k], List.getElem_mem hkl, by rw [HIT.out, hxb]; simp⟩)
      clear hnb hxb q1
      go_wp2_with fail
      refine (rname_calls _ _ ho1).mono ?_
      rintro r w1 ⟨rfl, rfl⟩
      rw [HNB.out]
      go_wp2_with fail
      refine (rexpr_slim l[k].cond _ _ HEX.out HO4.out HO2.out HO3.out).mono ?_
      rintro r w1 ⟨rfl, hx1⟩
      rw [HXB.out]
      have HX1 := hI (HXR.out.trans hx1)
      clear hx1 c0 c1 c2 c3 c4 c5 c6 c7
      go_wp2_with fail
      go_ret
      exact givesE_b (by rw [HR.out]) HX1.out
     have HXB := hI hxb
     clear q1
     go_wp2_with fail
     refine (rname_calls _ _ ho1).mono ?_
     rintro r w1 ⟨rfl, rfl⟩
     rw [HNB.out]
     go_wp2_with fail
     refine (rexpr_slim l[k].cond _ _ HEX.out HO4.out HO2.out HO3.out).mono ?_
     rintro r w1 ⟨rfl, hx1⟩
     rw [HXB.out]
     have HX1 := hI (HXR.out.trans hx1)
     have c7' := hx1.cell c7
     have HU1 := hI (WbsD.mono hx1.sub _ _ HU.out)
     have q1 : ((d : Int) - 1) = ((d - 1 : Nat) : Int) := by omega
     clear hx1 c0 c1 c2 c3 c4 c5 c6 c7
     go_wp2_with fail
     refine (IH.out l[k].unl _ _ _ (d - 1) w1 (by omega) hvn HO5.out (by omega) HU1.out HUN.out).mono ?_
     rintro r w2 ⟨rfl, hx2⟩
     have HX2 := hI (HX1.out.trans hx2)
     clear hx2 c7' q1
     cases hbb : backsB (d - 1) l[k].unl
     ·have HR := hI (show R = false by
       rw [HQ2.out, List.all_eq_false]
       exact ⟨l[k], List.getElem_mem hkl, by rw [HIT.out, hbb]; simp⟩)
      clear hnb hxb
      go_wp2_with fail
      go_ret
      exact givesE_b (by rw [HR.out]) HX2.out
     have HI2 := hI (show itemB d l[k] = true by rw [HIT.out, hnb, hxb, hbb]; rfl)
     clear hnb hxb
     go_wp2_with fail
     go_roundw
     case rel =>
      refine ⟨k + 1, by go_num, by omega, fun j hj hjk => ?_, HX2.out⟩
      by_cases e : j = k
      ·subst e; exact HI2.out
      exact HALL.out j hj (by omega)
     case measure => simp [intOf]; omega
    have t1 : decide ((k : Int) < (n : Int)) = false := decide_eq_false (by omega)
    have HR := hI (show R = true by
     rw [HQ2.out, List.all_eq_true]
     intro x hx
     obtain ⟨j, hj, rfl⟩ := List.mem_iff_getElem.1 hx
     exact HALL.out j hj (by have := HN.out; omega))
    go_wp2_with fail
    go_ret
    exact givesE_b (by rw [HR.out]) HXR.out
theorem blk10r {w : World} {b : Nat} {v0 v1 v2 v3 v4 v5 v6 v7 v8 v9 : Value} {t : TypeId} (h : w.heap[b]? = some (.cells #[v0, v1, v2, v3, v4, v5, v6, v7, v8, v9] t (0, 0))) :
  w.cell? ⟨b, 0, none⟩ = some v0 /\ w.cell? ⟨b, 1, none⟩ = some v1 /\ w.cell? ⟨b, 2, none⟩ = some v2 /\ w.cell? ⟨b, 3, none⟩ = some v3 /\ w.cell? ⟨b, 4, none⟩ = some v4 /\ w.cell? ⟨b, 5, none⟩ = some v5 /\ w.cell? ⟨b, 6, none⟩ = some v6 /\ w.cell? ⟨b, 7, none⟩ = some v7 /\ w.cell? ⟨b, 8, none⟩ = some v8 /\ w.cell? ⟨b, 9, none⟩ = some v9 /\ (∀ j, w.frozen? ⟨b, j, none⟩ = false) :=
 ⟨blk_cell h 0, blk_cell h 1, blk_cell h 2, blk_cell h 3, blk_cell h 4, blk_cell h 5, blk_cell h 6, blk_cell h 7, blk_cell h 8, blk_cell h 9, fun j => blk_free h j⟩
def Cla.ok (c : Cla) : Prop := c.name.size <= 1000000000000000 /\ c.cond.fits /\ c.cond.few /\ c.cond.size <= 1000000000000000 /\ wbOk c.unl /\ wbN c.unl <= 1000000000000000
def Cla.fit (c : Cla) : Prop := c.name.size <= 1000000000000000 /\ c.cond.fits /\ c.cond.few /\ c.cond.slim /\ c.unl.length <= 1000000000000000 /\ wbFits c.unl
theorem Cla.ok.fit {c : Cla} (h : c.ok) : c.fit := ⟨h.1, h.2.1, h.2.2.1, slim_of_size _ h.2.2.2.1, Nat.le_trans (wbN_len _) h.2.2.2.2.2, wbFits_of_ok _ h.2.2.2.2.1 h.2.2.2.2.2⟩
def amountB (m amount : Int) : Bool := (decide (m = 0) && (amount == 0)) || (decide (0 < m) && decide (1 <= amount) && decide (amount <= m))
theorem rclause_fit (c : Cla) (v : ClV) (w : World) (hc : IsCla w c v) (hok : c.fit) :
  Calls Tryz.prog 57 #[.agg #[.int .i64 v.kind, .string v.name, .int .i64 v.x.op, .string v.x.name, .slice v.x.aw v.x.nw v.x.cw, .int .i64 v.x.lo, .int .i64 v.x.hi, .slice v.x.aa v.x.na v.x.ca, .slice v.au v.nu v.cu, .int .i64 v.amount]] w (GivesE (.bool (clauseB c)) w) := by
 obtain ⟨hk, hnm, hex, hnu, -, -, hwb, ham⟩ := hc
 obtain ⟨ho1, ho2, ho3, ho4, ho5, ho6⟩ := hok
 rw [hk, hnm, ham]
 have HEX := hI hex
 have HWB := hI hwb
 have HNU := hI hnu
 have HO2 := hI ho2
 have HO3 := hI ho3
 have HO4 := hI ho4
 have HO6 := hI ho6
 have hnu2 : v.nu <= 1000000000000000 := by rw [hnu]; exact ho5
 obtain ⟨R, hR⟩ : ∃ R, R = clauseB c := ⟨_, rfl⟩
 rw [<- hR]
 have HR := hI (show R = (decide (1 <= c.kind) && decide (c.kind <= 10) && nameB c.name && refExprB c.cond && (decide (c.unl.length = 0) || ((c.kind == 3) && decide (cntBacks c.unl <= 40) && backsB 16 c.unl)) && amountB (mostOf c.kind) c.amount) by rw [hR]; rfl)
 clear hk hnm hex hnu hwb ham ho2 ho3 ho4 ho5 ho6 hR
 obtain ⟨kind, name, cond, unl, amount⟩ := c
 simp only at *
 obtain ⟨vk, vn, x, au, nu, cu, va⟩ := v
 simp only at *
 obtain ⟨wa, hwa⟩ : ∃ wa, wa = w.alloc (.cells #[.int .i64 kind, .string name, .int .i64 x.op, .string x.name, .slice x.aw x.nw x.cw, .int .i64 x.lo, .int .i64 x.hi, .slice x.aa x.na x.ca, .slice au nu cu, .int .i64 amount] 67) := ⟨_, rfl⟩
 have hxa : Ext w wa := by rw [hwa]; exact (Ext.refl _).alloc _
 have hb : wa.heap[w.heap.size]? = some (.cells #[.int .i64 kind, .string name, .int .i64 x.op, .string x.name, .slice x.aw x.nw x.cw, .int .i64 x.lo, .int .i64 x.hi, .slice x.aa x.na x.ca, .slice au nu cu, .int .i64 amount] 67 (0, 0)) := by rw [hwa]; exact alloc_new w _
 have HXA := hI hxa
 have HB := hI hb
 clear hxa hb
 by_cases h1 : kind < 1
 ·have t1 : decide (kind < 1) = true := decide_eq_true h1
  have HF := hI (show R = false by rw [HR.out]; simp; intro h; omega)
  clear h1 hwa
  go_enter Tryz.func57, Tryz.ntmps57
  go_wp2_with fail
  go_ret
  exact givesE_b (by rw [HF.out]) ((Ext.refl w).alloc _)
 have t1 : decide (kind < 1) = false := decide_eq_false h1
 by_cases h10 : 10 < kind
 ·have t10 : decide (10 < kind) = true := decide_eq_true h10
  have HF := hI (show R = false by rw [HR.out]; simp; intro _ h; omega)
  clear h10 h1 hwa
  go_enter Tryz.func57, Tryz.ntmps57
  go_wp2_with fail
  go_ret
  exact givesE_b (by rw [HF.out]) ((Ext.refl w).alloc _)
 have t10 : decide (10 < kind) = false := decide_eq_false h10
 have hk1 : decide (1 <= kind) = true := decide_eq_true (by omega)
 have hk2 : decide (kind <= 10) = true := decide_eq_true (by omega)
 rw [hk1, hk2, Bool.true_and, Bool.true_and] at HR
 clear hk1 hk2 h1 h10
 go_enter Tryz.func57, Tryz.ntmps57
 go_wp2_with fail
 rw [<- hwa]
 clear hwa
 refine (rname_calls _ _ ho1).mono ?_
 rintro r w1 ⟨rfl, rfl⟩
 obtain ⟨b0, b1, b2, b3, b4, b5, b6, b7, b8, b9, bf⟩ := blk10r HB.out
 cases hnb : nameB name
 ·have HF := hI (show R = false by rw [HR.out, hnb]; rfl)
  go_wp2_with fail
  go_ret
  exact givesE_b (by rw [HF.out]) HXA.out
 rw [hnb, Bool.true_and] at HR
 clear hnb
 go_wp2_with fail
 refine (rexpr_slim cond _ _ (HEX.out.ext HXA.out) HO4.out HO2.out HO3.out).mono ?_
 rintro r w1 ⟨rfl, hx1⟩
 have HX1 := hI (HXA.out.trans hx1)
 have HB1 := hI (hx1.blk HB.out)
 clear hx1 b0 b1 b2 b3 b4 b5 b6 b7 b8 b9 bf HB
 obtain ⟨b0, b1, b2, b3, b4, b5, b6, b7, b8, b9, bf⟩ := blk10r HB1.out
 cases hxb : refExprB cond
 ·have HF := hI (show R = false by rw [HR.out, hxb]; rfl)
  go_wp2_with fail
  go_ret
  exact givesE_b (by rw [HF.out]) HX1.out
 rw [hxb, Bool.true_and] at HR
 clear hxb
 obtain ⟨U, hU⟩ : ∃ U, U = (decide (unl.length = 0) || ((kind == 3) && decide (cntBacks unl <= 40) && backsB 16 unl)) := ⟨_, rfl⟩
 rw [<- hU] at HR
 have HU := hI hU
 clear hU
 go_upto_region 3 with fail
 go_cut [44] (fun s44 wx => s44 = .bool (!U) /\ Ext w1 wx)
 case first =>
  by_cases h0 : nu = 0
  ·have t0 : decide ((0 : Int) < (nu : Int)) = false := decide_eq_false (by omega)
   have HF := hI (show U = true by rw [HU.out, <- HNU.out, h0]; simp)
   go_wp2_with fail
   go_meet
   case rel => exact ⟨by rw [HF.out]; rfl, Ext.refl _⟩
  have t0 : decide ((0 : Int) < (nu : Int)) = true := decide_eq_true (by omega)
  have hl0 : decide (unl.length = 0) = false := decide_eq_false (by have := HNU.out; omega)
  rw [hl0, Bool.false_or] at HU
  clear hl0
  by_cases h3 : kind = 3
  ·have t3 : (kind != 3) = false := by simp [h3]
   have e3 : (kind == 3) = true := by simp [h3]
   rw [e3, Bool.true_and] at HU
   clear e3 h3
   go_wp2_with fail
   refine (rcount_calls (wbN unl) unl _ _ _ w1 (Nat.le_refl _) hnu2 HO6.out (WbsD.mono HX1.out.sub _ _ HWB.out) HNU.out).mono ?_
   rintro r w2 ⟨rfl, rfl⟩
   obtain ⟨M, hM⟩ : ∃ M, M = (min (cntBacks unl) 41 : Nat) := ⟨_, rfl⟩
   rw [<- hM]
   have hMl : M <= 41 := by omega
   have HCB := hI (show decide (cntBacks unl <= 40) = decide (M <= 40) by rw [hM]; congr 1; exact propext ⟨fun h => by omega, fun h => by omega⟩)
   rw [HCB.out] at HU
   clear hM HCB
   by_cases h40 : M <= 40
   ·have t40 : decide ((40 : Int) < (M : Int)) = false := decide_eq_false (by omega)
    have e40 : decide (M <= 40) = true := decide_eq_true h40
    rw [e40, Bool.true_and] at HU
    clear e40
    go_wp2_with fail
    refine (rbacks_calls (wbN unl) unl _ _ _ 16 w1 (Nat.le_refl _) hnu2 HO6.out (by omega) (WbsD.mono HX1.out.sub _ _ HWB.out) HNU.out).mono ?_
    rw [<- HU.out]
    rintro r w2 ⟨rfl, hx2⟩
    have HX2 := hI hx2
    clear hx2
    go_wp2_with fail
    go_meet
    case rel => exact ⟨rfl, HX2.out⟩
   have t40 : decide ((40 : Int) < (M : Int)) = true := decide_eq_true (by omega)
   have HF := hI (show U = false by rw [HU.out, decide_eq_false h40]; rfl)
   go_wp2_with fail
   go_meet
   case rel => exact ⟨by rw [HF.out]; rfl, Ext.refl _⟩
  have t3 : (kind != 3) = true := by simp [h3]
  have HF := hI (show U = false by rw [HU.out]; simp [h3])
  clear h3
  go_wp2_with fail
  go_meet
  case rel => exact ⟨by rw [HF.out]; rfl, Ext.refl _⟩
 case rest =>
  obtain ⟨rfl, hx2⟩ := hcut
  have HX2 := hI (HX1.out.trans hx2)
  have HB2 := hI (hx2.blk HB1.out)
  clear b0 b1 b2 b3 b4 b5 b6 b7 b8 b9 bf hx2 HB1
  obtain ⟨b0, b1, b2, b3, b4, b5, b6, b7, b8, b9, bf⟩ := blk10r HB2.out
  cases hUc : U
  ·have HF := hI (show R = false by rw [HR.out, hUc]; rfl)
   go_wp2_with fail
   go_ret
   exact givesE_b (by rw [HF.out]) HX2.out
  rw [hUc, Bool.true_and] at HR
  clear hUc
  go_wp2_with fail
  refine (rMost_calls _ _).mono ?_
  rintro r w3 ⟨rfl, rfl⟩
  generalize mostOf kind = M at *
  go_wp2_with fail
  all_goals (go_ret; exact givesE_b (by rw [HR.out, amountB]; simp_all <;> omega) HX2.out)
def bndS : Nat -> Nat | 0 => 0 | 1 => 1 | d + 2 => 3 * bndS (d + 1) + 1
theorem schemas_ok3 : (schemas.all fun l => l.all fun a => decide (a.name.size <= 1000) && (decide (a.words.length <= 1000) && a.words.all fun x => decide (x.size <= 1000))) = true := by decide +kernel
theorem fitsAll_of : (l : List Ex) -> (∀ x ∈ l, x.fits) -> fitsAll l
 | [], _ => by unfold fitsAll; trivial
 | e :: r, h => by unfold fitsAll; exact ⟨h e (by simp), fitsAll_of r fun x hx => h x (by simp [hx])⟩
theorem fewAll_of : (l : List Ex) -> (∀ x ∈ l, x.few) -> fewAll l
 | [], _ => by unfold fewAll; trivial
 | e :: r, h => by unfold fewAll; exact ⟨h e (by simp), fewAll_of r fun x hx => h x (by simp [hx])⟩
theorem bareL_of : (l : List Ex) -> (∀ x ∈ l, bareE x = true) -> bareL l = true
 | [], _ => by unfold bareL; rfl
 | e :: r, h => by unfold bareL; rw [h e (by simp), bareL_of r fun x hx => h x (by simp [hx])]; rfl
theorem sizes_of {k : Nat} : (l : List Ex) -> (∀ x ∈ l, x.size <= k) -> sizes l <= l.length * k
 | [], _ => by simp [sizes]
 | e :: r, h => by
  have h1 := h e (by simp)
  have h2 := sizes_of r fun x hx => h x (by simp [hx])
  simp only [sizes, List.length_cons, Nat.succ_mul]
  omega
structure MadeOk (d : Nat) (e : Ex) : Prop where
 fits : e.fits
 few : e.few
 size : e.size <= bndS d
 bare : bareE e = true
theorem bndS_pos (d : Nat) : 1 <= bndS (d + 1) := by cases d with | zero => exact Nat.le_refl _ | succ d => simp only [bndS]; omega
theorem atom_okay {attrs : List Attr} (hs : attrs ∈ schemas) {names : ZB} (hn : ∀ x ∈ names, x.size <= 1000) {e : Ex} (h : AtomOf attrs names e) (d : Nat) : MadeOk (d + 1) e := by
 have hat : ∀ a ∈ attrs, _ := fun a ha => List.all_eq_true.1 (List.all_eq_true.1 schemas_ok3 attrs hs) a ha
 obtain ⟨op, name, words, lo, hi, args⟩ := e
 obtain ⟨ha, h⟩ := h
 simp only [Ex.args] at ha
 subst ha
 simp only [Ex.op, Ex.name, Ex.words, Ex.lo, Ex.hi] at h
 have key : name.size <= 1000 /\ words.length <= 1000 /\ ∀ x ∈ words, x.size <= 1000 := by
  rcases h with ⟨h1, h2, h3, h4, h5⟩ | ⟨h1, h2, h3, h4, h5⟩ | ⟨h1, h2, h3, h4, h5⟩ | ⟨h1, ⟨a, haa, hk, hnm, hne, hnd, hin⟩, h4, h5⟩ | ⟨h1, ⟨a, haa, hk, hnm, hl1, hl2, hl3⟩, h3⟩
  ·subst h2 h3; exact ⟨by decide, by simp, by simp⟩
  ·subst h2 h3; exact ⟨by decide, by simp, by simp⟩
  ·subst h3
   refine ⟨?_, by simp, by simp⟩
   rcases h2 with h2 | ⟨a, haa, _, h2⟩
   ·exact hn _ h2
   have := hat a haa
   simp only [Bool.and_eq_true, decide_eq_true_eq] at this
   rw [h2]; exact this.1
  ·have hq := hat a haa
   simp only [Bool.and_eq_true, decide_eq_true_eq, List.all_eq_true] at hq
   exact ⟨by rw [hnm]; exact hq.1, Nat.le_trans (List.Nodup.length_le_of_subset hnd (fun x hx => hin x hx)) hq.2.1, fun x hx => hq.2.2 x (hin x hx)⟩
  have hq := hat a haa
  simp only [Bool.and_eq_true, decide_eq_true_eq] at hq
  subst h3
  exact ⟨by rw [hnm]; exact hq.1, by simp, by simp⟩
 obtain ⟨k1, k2, k3⟩ := key
 have hb := bndS_pos d
 refine ⟨?_, ?_, ?_, ?_⟩
 ·unfold Ex.fits; exact ⟨by omega, fun x hx => by have := k3 x hx; omega, by unfold fitsAll; trivial⟩
 ·unfold Ex.few; exact ⟨by omega, by unfold fewAll; trivial⟩
 ·simp [Ex.size, sizes]; omega
 unfold bareE; simp [bareL]
theorem made_okay {attrs : List Attr} (hs : attrs ∈ schemas) {names : ZB} (hn : ∀ x ∈ names, x.size <= 1000) : (d : Nat) -> (e : Ex) -> MadeE attrs names d e -> MadeOk d e
 | 0, e, h => h.elim
 | d + 1, e, h => by
  rcases h with h | ⟨hl, h1, h2, h3, h4, h⟩
  ·exact atom_okay hs hn h d
  have ih := fun x hx => made_okay hs hn d x (h x hx)
  have hne : e.args ≠ [] := by intro e0; rw [e0] at hl; simp at hl
  obtain ⟨d, rfl⟩ : ∃ k, d = k + 1 := by
   cases d with
   | succ k => exact ⟨k, rfl⟩
   | zero =>
    obtain ⟨x, hx⟩ := List.exists_mem_of_ne_nil _ hne
    exact (h x hx).elim
  have h3l : e.args.length <= 3 := by omega
  have hop : e.op ≠ 3 := by omega
  clear hl
  obtain ⟨op, name, words, lo, hi, args⟩ := e
  simp only [Ex.args, Ex.name, Ex.words, Ex.op] at *
  subst h1 h2
  refine ⟨?_, ?_, ?_, ?_⟩
  ·unfold Ex.fits; exact ⟨by show (0 : Nat) <= _; omega, by simp, fitsAll_of _ fun x hx => (ih x hx).fits⟩
  ·unfold Ex.few; exact ⟨by simp, fewAll_of _ fun x hx => (ih x hx).few⟩
  ·have := sizes_of args fun x hx => (ih x hx).size
   have h5 : args.length * bndS (d + 1) <= 3 * bndS (d + 1) := Nat.mul_le_mul_right _ h3l
   simp only [Ex.size, bndS]; omega
  unfold bareE; rw [bareL_of _ fun x hx => (ih x hx).bare]; simp [hop]
def GrG (wr W : World) : Prop := Ext wr W
def GrE (_ : Nat) (W W' : World) : Prop := Ext W W'
def GrP (R : Nat -> Value -> World -> Prop) (j : Nat) (u : Value) (W : World) : Prop := R j u W
theorem wpOp_lastG {P : Program} {ops : Array Oper} {Q : Exit -> Act -> World -> Prop} {a : Act} {w : World} {i : Nat} {o : Oper} (ho : ops[i]? = some o) (h : wpList P ops Q [o] a w) : wpOp P ops Q i (fun a w => Q .normal a w) a w := by
 unfold wpOp
 rw [ho]
 exact h
theorem wpList_append_at {t e : TypeId} {z : Value} {size bytes : Nat} (E : ElemT t e z size bytes) {ops : Array Oper} {rest : List Oper} {o : Oper} {a : Act} {Q : Exit -> Act -> World -> Prop} {X : World} {arr : Array Value} {tt : TypeId}
  (hgd : o.guard = none) (s x : Operand) (ho : o.op = .call { callee := .builtin .append, args := #[s, x], argTypes := #[t, t] }) (base : Nat) (v : Value) (n : Nat) (xs : List Value) (hs : a.eval s = v) (hown : X.ownsRow base e size v n xs)
  (B m c : Nat) (hx : a.eval x = .slice (some ⟨B, 0, none⟩) m c) (hB : B = X.heap.size) (hl : arr.size = m * size) (h1 : ∀ u ∈ arr.toList, u.oneCell' = true) (hm : n + m <= maxLen) (hb : (n + m) * bytes <= 140737488355328) (hbase : base <= X.heap.size)
  (h : ∀ v' w', w'.ownsRow base e size v' (n + m) (xs ++ arr.toList) -> Chg (rowOf v) X w' -> (∀ k, v'.ownBlock = some k -> v.ownBlock = some k \/ X.heap.size <= k) -> wpList Tryz.prog ops Q rest (a.put o.dst v') w') : wpList Tryz.prog ops Q (o :: rest) a (X.alloc (.cells arr tt)) := by
 subst hB
 obtain ⟨i, hi, hz, hsz, hby⟩ := info_parts E.info
 refine wpList_append_own_at (w := X.alloc (.cells arr tt)) hgd s x t ho base e i z size bytes E.ht hi hz hsz hby E.hzs E.hsz v n xs hs (hown.alloc _) ⟨X.heap.size, 0, none⟩ m c arr.toList hx (by simpa using hl) ?_ h1 hm hb (by simp; omega) ?_
 ·intro j u hu
  have : (⟨X.heap.size, 0, none⟩ : Addr).add j = ⟨X.heap.size, j, none⟩ := by unfold Addr.add; split <;> simp_all
  rw [this, World.cell?_alloc_at _ _ _ _ rfl]
  simpa using hu
 intro v' w' h2 h3 _ h5
 refine h v' w' h2 ((((Ext.refl X).alloc _).chg _).trans (grown_chg h3) fun x hx => Or.inl hx) fun k hk => ?_
 rcases h5 with e | e
 ·exact Or.inl (e ▸ hk)
 rw [e] at hk; simp at hk; exact Or.inr (by omega)
theorem Chg.weak {N M : ZN} {w w' : World} (h : Chg N w w') (hs : ∀ x ∈ N, x ∈ M) : Chg M w w' := ⟨h.os, h.tape, h.output, h.size, fun k hk hn => h.block k hk fun hm => hn (hs k hm)⟩
theorem owns_formG {w : World} {base : Nat} {e : TypeId} {size : Nat} {v : Value} {n : Nat} {xs : List Value} (h : w.ownsRow base e size v n xs) : ∃ a c, v = .slice a n c := by
 rcases h.2 with ⟨rfl, rfl⟩ | ⟨g, cap, cur, rfl, _⟩
 ·exact ⟨none, 0, rfl⟩
 exact ⟨_, cap, rfl⟩
def IsWb (w : World) (x : Wb) (v : WbV) : Prop := v.name = x.name /\ IsEx w x.cond v.x.val /\ v.nu = x.unl.length /\ v.nu <= v.cu /\ OkAddr v.au v.cu /\ WbsD w x.unl v.au
theorem IsWb.mono {w w' : World} {x : Wb} {v : WbV} (h : IsWb w x v) (hs : Sub w w') : IsWb w' x v := ⟨h.1, h.2.1.mono hs, h.2.2.1, h.2.2.2.1, h.2.2.2.2.1, WbsD.mono hs _ _ h.2.2.2.2.2⟩
def WbsR (w : World) (l : List Wb) (vs : List WbV) : Prop := l.length = vs.length /\ ∀ i (h1 : i < l.length) (h2 : i < vs.length), IsWb w l[i] vs[i]
theorem WbsR.mono {w w' : World} {l : List Wb} {vs : List WbV} (h : WbsR w l vs) (hs : Sub w w') : WbsR w' l vs := ⟨h.1, fun i h1 h2 => (h.2 i h1 h2).mono hs⟩
theorem WbsR.nil (w : World) : WbsR w [] [] := ⟨rfl, fun i h => by simp at h⟩
theorem WbsR.snoc {w : World} {l : List Wb} {vs : List WbV} {c : Wb} {v : WbV} (h : WbsR w l vs) (hc : IsWb w c v) : WbsR w (l ++ [c]) (vs ++ [v]) := by
 refine ⟨by simp [h.1], fun i h1 h2 => ?_⟩
 by_cases hi : i < l.length
 ·have hi2 : i < vs.length := by rw [<- h.1]; exact hi
  simp only [List.getElem_append_left hi, List.getElem_append_left hi2]
  exact h.2 i hi hi2
 have e1 : i = l.length := by simp at h1; omega
 subst e1
 simp only [List.getElem_append_right (Nat.le_refl _), List.getElem_append_right (show vs.length <= l.length by rw [h.1]; exact Nat.le_refl _), Nat.sub_self, List.getElem_cons_zero]
 simpa [h.1] using hc
theorem elemWb : ElemT 65 121 (.agg #[.string ⟨#[]⟩, .int .i64 0, .string ⟨#[]⟩, .slice none 0 0, .int .i64 0, .int .i64 0, .slice none 0 0, .slice none 0 0]) 8 128 := ⟨by kernel_rfl, by kernel_rfl, rfl, by decide⟩
theorem wbs_owns {w : World} {M : ZN} {base : Nat} {v : Value} {l : List Wb} {vs : List WbV} (h : w.ownsRow base 121 8 v l.length (vs.flatMap WbV.cells)) (hM : ∀ k, v.ownBlock = some k -> k ∉ M) (hR : WbsR (mask w M) l vs) :
  ∃ a c, v = .slice a l.length c /\ l.length <= c /\ OkAddr a c /\ WbsD (mask w M) l a := by
 rw [hR.1] at h
 obtain ⟨a, c, rfl, hr⟩ := IsRows.of_owns WbV.len h
 refine ⟨a, c, by rw [hR.1], by rw [hR.1]; exact hr.2.1, hr.2.2.1, ?_⟩
 match l, hR with
 | [], _ => unfold WbsD; trivial
 | e :: r, hR =>
  obtain ⟨b, off, rfl, h1⟩ := hr.2.2.2 0 (by rw [<- hR.1]; simp)
  refine WbsD.of (e :: r) off vs hR.1 fun i h3 h4 => ?_
  obtain ⟨q1, q2, q3, q4, q5, q6⟩ := hR.2 i h3 h4
  refine ⟨q1, fun j hj => ?_, q2, q3, q4, q5, q6⟩
  obtain ⟨b', off', e1, h5⟩ := hr.2.2.2 i h4
  simp only [Option.some.injEq, Addr.mk.injEq, and_true] at e1
  obtain ⟨rfl, rfl⟩ := e1
  rw [mask_cell, if_neg (hM _ rfl), h5 j hj]
theorem wbOk_snoc : (l : List Wb) -> (n : BA) -> (c : Ex) -> (u : List Wb) -> wbOk l -> n.size <= 1000000000000000 -> c.fits -> c.few -> c.size <= 1000000000000000 -> wbOk u -> wbOk (l ++ [.mk n c u])
 | [], n, c, u, _, h1, h2, h3, h4, h5 => by simp only [List.nil_append, wbOk]; exact ⟨h1, h2, h3, h4, h5, trivial⟩
 | .mk n' c' u' :: r, n, c, u, h, h1, h2, h3, h4, h5 => by
  rw [wbOk] at h
  rw [List.cons_append, wbOk]
  exact ⟨h.1, h.2.1, h.2.2.1, h.2.2.2.1, h.2.2.2.2.1, wbOk_snoc r n c u h.2.2.2.2.2 h1 h2 h3 h4 h5⟩
theorem wbN_snoc : (l : List Wb) -> (n : BA) -> (c : Ex) -> (u : List Wb) -> wbN (l ++ [.mk n c u]) = wbN l + 1 + wbN u
 | [], n, c, u => by simp [wbN]
 | .mk n' c' u' :: r, n, c, u => by rw [List.cons_append, wbN, wbN, wbN_snoc r n c u]; omega
def bndB : Nat -> Nat | 0 => 0 | d + 1 => 2 * (1 + bndB d)
def BacksQ (d : Nat) (w0 : World) (bd : Nat) (M : ZN) (w : World) (e : Ending) (w' : World) : Prop := ∃ l a n c, e = .returned (.slice a n c) /\ n = l.length /\ n <= c /\ OkAddr a c /\ WbsD (mask w' M) l a /\ wbOk l /\ wbN l <= bndB d /\ DeckAt w0 w' bd /\ Chg [bd] w w'
def GnG (w0 wr : World) (bd : Nat) (W : World) : Prop := DeckAt w0 W bd /\ Chg [bd] wr W
def GnE (bd : Nat) (_ : Nat) (W W' : World) : Prop := Chg [bd] W W'
def GnB (bd q : Nat) (N : ZN) (k : Nat) (W W' : World) : Prop := Chg (if k = q then bd :: N else [bd]) W W'
def GnL (w0 wr : World) (bd q : Nat) (N : ZN) (L : ZN) (W : World) : Prop := DeckAt w0 W bd /\ Chg (bd :: N) wr W /\ (q ∉ L -> Chg [bd] wr W)
theorem gnl {w0 wr W W' : World} {bd q : Nat} {N L : ZN} (h : DeckAt w0 W bd /\ Chg [bd] wr W) (hd : DeckAt w0 W' bd) (hc : Chg [bd] W W') : GnL w0 wr bd q N L W' :=
 ⟨hd, (h.2.then hc).weak (fun y hy => by simp at hy; simp [hy]), fun _ => h.2.then hc⟩
theorem mask_step {W W' : World} {bd : Nat} {N : ZN} (h : Chg [bd] W W') (hb : bd ∈ N) : Sub (mask W N) (mask W' N) := mask_sub_mask fun k hk hn => ⟨hn, h.block k hk fun hm => hn (by simp only [List.mem_singleton] at hm; rw [hm]; exact hb)⟩
def BkL (w0 w : World) (d bd bw : Nat) (M : ZN) (sa : OA) (sn sc : Nat) (v k : Value) (wr : World) : Prop := ∃ (l : List Wb) (vs : List WbV) (q : Int), k = .int .i64 q /\ q + l.length <= 2 /\ 0 <= q /\ wr.ownsRow (bw + 1) 121 8 v l.length (vs.flatMap WbV.cells) /\ WbsR (mask wr (bd :: rowOf v ++ M)) l vs /\
 wbOk l /\ wbN l <= l.length * (1 + bndB d) /\ DeckAt w0 wr bd /\ Chg [bd] w wr /\ wr.heap[bw]? = some (.cells #[.slice sa sn sc] 31 (0, 0))
def PrsR (w : World) (l : List Pr) (vs : List PrV) : Prop := l.length = vs.length /\ ∀ i (h1 : i < l.length) (h2 : i < vs.length), IsPr w l[i] vs[i]
theorem PrsR.mono {w w' : World} {l : List Pr} {vs : List PrV} (h : PrsR w l vs) (hs : Sub w w') : PrsR w' l vs := ⟨h.1, fun i h1 h2 => (h.2 i h1 h2).mono hs⟩
theorem PrsR.nil (w : World) : PrsR w [] [] := ⟨rfl, fun i h => by simp at h⟩
theorem PrsR.snoc {w : World} {l : List Pr} {vs : List PrV} {c : Pr} {v : PrV} (h : PrsR w l vs) (hc : IsPr w c v) : PrsR w (l ++ [c]) (vs ++ [v]) := by
 refine ⟨by simp [h.1], fun i h1 h2 => ?_⟩
 by_cases hi : i < l.length
 ·have hi2 : i < vs.length := by rw [<- h.1]; exact hi
  simp only [List.getElem_append_left hi, List.getElem_append_left hi2]
  exact h.2 i hi hi2
 have e1 : i = l.length := by simp at h1; omega
 subst e1
 simp only [List.getElem_append_right (Nat.le_refl _), List.getElem_append_right (show vs.length <= l.length by rw [h.1]; exact Nat.le_refl _), Nat.sub_self, List.getElem_cons_zero]
 simpa [h.1] using hc
theorem elemPr : ElemT 38 40 (.agg #[.bool false, .int .i64 0, .slice none 0 0]) 3 40 := ⟨by kernel_rfl, by kernel_rfl, rfl, by decide⟩
theorem prs_owns {w : World} {M : ZN} {base : Nat} {v : Value} {l : List Pr} {vs : List PrV} (h : w.ownsRow base 40 3 v l.length (vs.flatMap PrV.cells)) (hM : ∀ k, v.ownBlock = some k -> k ∉ M) (hR : PrsR (mask w M) l vs) (b : Bool) (k : Int) :
  ∃ a c, v = .slice a l.length c /\ IsPr (mask w M) (.mk b k l) ⟨b, k, a, l.length, c⟩ := by
 have hl := hR.1
 rw [hl] at h
 obtain ⟨a, c, rfl, hr⟩ := IsRows.of_owns PrV.len h
 refine ⟨a, c, by rw [hl], .mk vs ⟨hl, by rw [hl]; exact hr.2.1, hr.2.2.1, fun i h4 => ?_⟩ hl.symm fun i h1 h2 => hR.2 i h1 h2⟩
 obtain ⟨b', off', e1, h5⟩ := hr.2.2.2 i h4
 subst e1
 exact ⟨b', off', rfl, fun j hj => by rw [mask_cell, if_neg (hM _ rfl)]; exact h5 j hj⟩
theorem isPr_none (w : World) (b : Bool) (k : Int) : IsPr w (.mk b k []) ⟨b, k, none, 0, 0⟩ := .mk [] ⟨rfl, Nat.le_refl _, Or.inl ⟨rfl, rfl⟩, fun i h => by simp at h⟩ rfl fun i h => by simp at h
theorem isPr_one {w : World} {M : ZN} {g : Nat} {q : Pr} {v : PrV} {t : TypeId} (h : w.heap[g]? = some (.cells v.cells.toArray t (0, 0))) (hg : g ∉ M) (hq : IsPr (mask w M) q v) (b : Bool) (k : Int) : IsPr (mask w M) (.mk b k [q]) ⟨b, k, some ⟨g, 0, none⟩, 1, 1⟩ := by
 refine .mk [v] ⟨rfl, Nat.le_refl _, Or.inr ⟨g, 0, rfl⟩, fun i hi => ⟨g, 0, rfl, fun j hj => ?_⟩⟩ rfl fun i h1 h2 => ?_
 ·have h0 : i = 0 := by simp at hi; omega
  subst h0
  simp only [List.getElem_cons_zero] at hj ⊢
  rw [mask_cell, if_neg hg, blk_cell h]
  simp
 have h0 : i = 0 := by simp at h1; omega
 subst h0
 exact hq
def ProveQ (p : Pr) (M : ZN) (w : World) (e : Ending) (w' : World) : Prop := ∃ v : PrV, e = .returned v.val /\ IsPr (mask w' M) p v /\ Ext w w'
def isDataG (e : Edge) : Bool := match e.ground with | .data => true | .guard => true | _ => false
def okGrowG (ops : Array Oper) (m n : Nat) : Bool :=
 Region.noSelect ops && decide (m <= ops.size) && decide (ops.size <= m + 1) &&
 ((List.range ops.size).all fun i => (List.range ops.size).all fun j => i == j || dstAt ops i == none || dstAt ops i != dstAt ops j) &&
 ((List.range ops.size).all fun i => match ops[i]? with
  | none => false
  | some o => ((match o.guard with | none => true | some (j, _) => (match dstAt ops j with | none => false | some t => decide (t < n)) && o.after.any (fun e => isDataG e && e.on == j)) || i == m) && (o.after.all fun e => (!Region.binds .any e || decide (e.on < i)) && (!isDataG e || Region.binds .any e)) &&
   ((List.range m).all fun j => match dstAt ops j with
    | none => true
    | some t => !(o.looksAt ops).contains t || (i == m) || o.after.any (fun e => Region.binds .any e && e.on == j)) &&
   (i != m || (List.range m).all fun j => o.after.any (fun e => Region.binds .any e && e.on == j)))
theorem okGrow_specG {ops : Array Oper} {m n : Nat} (h : okGrowG ops m n = true) : Region.noSelect ops = true /\ m <= ops.size /\ ops.size <= m + 1 /\ DstApart ops /\
  (∀ i o, ops[i]? = some o -> (i < m -> ∀ j b, o.guard = some (j, b) -> ∃ t, dstAt ops j = some t /\ t < n /\ ∃ e ∈ o.after, isDataG e = true /\ e.on = j) /\ (∀ e ∈ o.after, (Region.binds .any e = true -> e.on < i) /\ (isDataG e = true -> Region.binds .any e = true)) /\ (i < m -> ∀ j t, j < m -> dstAt ops j = some t -> t ∈ o.looksAt ops -> ∃ e ∈ o.after, Region.binds .any e = true /\ e.on = j) /\
   (i = m -> ∀ j, j < m -> ∃ e ∈ o.after, Region.binds .any e = true /\ e.on = j)) := by
 simp only [okGrowG, Bool.and_eq_true, decide_eq_true_eq] at h
 obtain ⟨⟨⟨⟨h1, h2⟩, h3⟩, h4⟩, h5⟩ := h
 refine ⟨h1, h2, h3, ?_, ?_⟩
 ·intro i j d hi hj
  have li : i < ops.size := by
   unfold dstAt at hi
   rcases Nat.lt_or_ge i ops.size with h | h
   ·exact h
   rw [Array.getElem?_eq_none h] at hi; simp at hi
  have lj : j < ops.size := by
   unfold dstAt at hj
   rcases Nat.lt_or_ge j ops.size with h | h
   ·exact h
   rw [Array.getElem?_eq_none h] at hj; simp at hj
  have := List.all_eq_true.1 (List.all_eq_true.1 h4 i (by simpa using li)) j (by simpa using lj)
  simpa [hi, hj] using this
 intro i o ho
 have li : i < ops.size := (Array.getElem?_eq_some_iff.1 ho).1
 have h6 := List.all_eq_true.1 h5 i (by simpa using li)
 simp only [ho, Bool.and_eq_true] at h6
 obtain ⟨⟨⟨g1, g2⟩, g3⟩, g4⟩ := h6
 refine ⟨fun hm => ?_, fun e he => ?_, fun hm j t hjm hj ht => ?_, fun hm j hj => ?_⟩
 ·intro j b hg
  rcases Bool.or_eq_true_iff.1 g1 with g | g
  ·rw [hg] at g
   simp only [Bool.and_eq_true] at g
   cases hd : dstAt ops j with
   | none => rw [hd] at g; simp at g
   | some t =>
    rw [hd] at g
    obtain ⟨e, he, hb⟩ := Array.any_eq_true'.1 g.2
    simp only [Bool.and_eq_true, beq_iff_eq] at hb
    exact ⟨t, rfl, by simpa using g.1, e, he, hb.1, hb.2⟩
  have : i = m := by simpa using g
  omega
 ·have := Array.all_eq_true_iff_forall_mem.1 g2 e he
  simp only [Bool.and_eq_true, Bool.or_eq_true, Bool.not_eq_true', decide_eq_true_eq] at this
  refine ⟨fun hb => ?_, fun hb => ?_⟩
  ·rcases this.1 with h | h
   ·rw [hb] at h; cases h
   exact h
  rcases this.2 with h | h
  ·rw [hb] at h; cases h
  exact h
 ·have := List.all_eq_true.1 g3 j (by simpa using hjm)
  rw [hj] at this
  simp only [Bool.or_eq_true, Bool.not_eq_true'] at this
  rcases this with (h | h) | h
  ·rw [List.contains_iff_mem.2 ht] at h; cases h
  ·have : i = m := by simpa using h
   omega
  obtain ⟨e, he, hb⟩ := Array.any_eq_true'.1 h
  simp only [Bool.and_eq_true, beq_iff_eq] at hb
  exact ⟨e, he, hb.1, hb.2⟩
 subst hm
 rcases Bool.or_eq_true_iff.1 g4 with g | g
 ·simp at g
 have := List.all_eq_true.1 g j (by simpa using hj)
 obtain ⟨e, he, hb⟩ := Array.any_eq_true'.1 this
 simp only [Bool.and_eq_true, beq_iff_eq] at hb
 exact ⟨e, he, hb.1, hb.2⟩
def looksToG (ops : Array Oper) (c i : Nat) : Bool := match ops[c]? with | none => false | some o => o.after.any fun e => isDataG e && e.on == i
def outlastsG (ops : Array Oper) (m : Nat) (Kp : ZN) (i k : Nat) : Bool := !comesAfter ops m i k && (Kp.contains i || (List.range m).any fun c => c != k && !comesAfter ops m k c && looksToG ops c i)
end Go.Proofs.YtpkljcgihobaiaaGreatDoor
