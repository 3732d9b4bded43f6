/-
  Texts of the claim, joined: RtE, RtAt, Conv1, Pos.
-/
import Derived.Test.YtefjomofjejklaaGreatCc22
namespace Go.Proofs.YtefjomofjejklaaGreat
set_option maxRecDepth 100000
set_option maxHeartbeats 32000000
open Go.RowKit
def ordR (l : List Rt) (r : Rt) : Bool := match l.getLast? with | none => false | some p => decide (r.cur < p.cur) || ((p.cur == r.cur) && decide (r.frm <= p.frm))
def rtErr (l : List Rt) (r : Rt) : Int :=
 if r.cur < 1 \/ 15 < r.cur then 15 else if inB 0 876599 r.frm = false \/ r.per < 1 \/ 1000000000 < r.per then 1 else if ordR l r = true then 13 else 0
def rt0 : Rt := ⟨0, 0, 0⟩
def rtsErr (l : List Rt) : Int := if 200 < l.length then 4 else (firstI (fun i => rtErr (l.take i) (l.getD i rt0)) l.length).2
theorem rtErr_at {l : List Rt} {k : Nat} (hk : k < l.length) : rtErr (l.take k) (l.getD k rt0) = rtErr (l.take k) l[k] := by rw [List.getD_eq_getElem?_getD, List.getElem?_eq_getElem hk]; rfl
theorem rtsErr_hit {l : List Rt} {k : Nat} (h2 : ¬ 200 < l.length) (hk : k < l.length) (h0 : ∀ j (h : j < l.length), j < k -> rtErr (l.take j) l[j] = 0) (h : rtErr (l.take k) l[k] ≠ 0) : rtsErr l = rtErr (l.take k) l[k] := by
 unfold rtsErr
 rw [if_neg h2, firstI_hit (k := k) (by rw [rtErr_at hk]; exact h) (fun j hj => by rw [rtErr_at (show j < l.length by omega)]; exact h0 j _ hj) l.length hk]
 exact rtErr_at hk
theorem rtsErr_zero {l : List Rt} (h2 : ¬ 200 < l.length) (h0 : ∀ j (h : j < l.length), rtErr (l.take j) l[j] = 0) : rtsErr l = 0 := by
 unfold rtsErr
 rw [if_neg h2, firstI_zero l.length fun j hj => by rw [rtErr_at hj]; exact h0 j hj]
theorem ordR_at {l : List Rt} {x : Rt} {p : Nat} (hp : p < l.length) : ordR (l.take (p + 1)) x = (decide (x.cur < l[p].cur) || ((l[p].cur == x.cur) && decide (x.frm <= l[p].frm))) := by
 unfold ordR
 have : (l.take (p + 1)).getLast? = some l[p] := by rw [List.take_succ_eq_append_getElem hp, List.getLast?_append]; rfl
 rw [this]
theorem IsRts.cell {w : World} {l : List Rt} {a : OA} {n c : Nat} (h : IsRts w l a n c) {k : Nat} (hk : k < l.length) : ∃ b off, a = some ⟨b, off, none⟩ /\ w.cell? ⟨b, off + k * 3, none⟩ = some (.int .i64 l[k].cur) /\ w.cell? ⟨b, off + k * 3 + 1, none⟩ = some (.int .i64 l[k].frm) /\ w.cell? ⟨b, off + k * 3 + 2, none⟩ = some (.int .i64 l[k].per) := by
 obtain ⟨b, off, e, hc⟩ := h.2.2.2 k hk
 exact ⟨b, off, e, hc 0 (by simp [Rt.len]), hc 1 (by simp [Rt.len]), hc 2 (by simp [Rt.len])⟩
def RtBox (r : Rt) : Obj := .cells #[.int .i64 r.cur, .int .i64 r.frm, .int .i64 r.per] 86 (0, 0)
theorem blk3r {w : World} {b : Nat} {v0 v1 v2 : Value} {t : TypeId} (h : w.heap[b]? = some (.cells #[v0, v1, v2] t (0, 0))) : w.cell? ⟨b, 0, none⟩ = some v0 /\ w.cell? ⟨b, 1, none⟩ = some v1 /\ w.cell? ⟨b, 2, none⟩ = some v2 /\ (∀ o, w.frozen? ⟨b, o, none⟩ = false) := ⟨blk_cell h 0, blk_cell h 1, blk_cell h 2, fun o => blk_free h o⟩
def RtI (l : List Rt) (n : Nat) (w : World) (i : Value) (wr : World) : Prop := ∃ k : Nat, i = .int .i64 k /\ k <= n /\ (∀ j (h : j < l.length), j < k -> rtErr (l.take j) l[j] = 0) /\ Ext w wr
theorem rRates_calls (l : List Rt) (a : OA) (n c : Nat) (w : World) (hi : IsRts w l a n c) (hn2 : n <= 1000000000000) : Calls Tryz.prog 18 #[.slice a n c] w (GivesE (.int .i64 (rtsErr l)) w) := by
 have HI := hI hi
 have HN := hI hi.1
 obtain ⟨R, hR⟩ : ∃ R, R = rtsErr l := ⟨_, rfl⟩
 rw [<- hR]
 have HR := hI hR
 clear hi hR
 by_cases h200 : 200 < n
 ·have u : decide ((200 : Int) < (n : Int)) = true := decide_eq_true (by omega)
  have HQ := hI (show R = 4 by rw [HR.out]; unfold rtsErr; rw [if_pos (by have := HN.out; omega)])
  clear h200
  go_enter Tryz.func18, Tryz.ntmps18
  go_wp2_with fail
  go_ret
  exact givesE_of (by rw [HQ.out]) (Ext.refl _)
 have u : decide ((200 : Int) < (n : Int)) = false := decide_eq_false (by omega)
 have H2 := hI (show ¬ 200 < l.length by have := HN.out; omega)
 clear h200
 go_enter Tryz.func18, Tryz.ntmps18
 go_wp2_with fail
 go_loopw [3] (RtI l n w) (fun t _ => n - (intOf t).toNat)
 case atStart => exact ⟨0, rfl, by omega, fun j _ h => by omega, Ext.refl _⟩
 case round =>
  obtain ⟨k, rfl, hk, hno, hx⟩ := hrel
  obtain ⟨wo, rfl⟩ : ∃ wo : World, wo = wr := ⟨_, rfl⟩
  have HNO := hI hno
  have HX := hI hx
  clear hno hx
  by_cases hkn : k < n
  ·have hkl : k < l.length := by have := HN.out; omega
   have t1 : decide ((k : Int) < (n : Int)) = true := decide_eq_true (by omega)
   have tk0 : (0 : Int) <= (k : Int) := by omega
   have tk1 : (k : Int) < (n : Int) := by omega
   have HHIT := hI (show rtErr (l.take k) l[k] ≠ 0 -> R = rtErr (l.take k) l[k] from fun h => by rw [HR.out, rtsErr_hit H2.out hkl (fun j hj hjk => HNO.out j hj hjk) h])
   obtain ⟨b, off, rfl, c0, c1, c2⟩ := IsRts.cell (IsRows.ext HI.out HX.out) hkl
   obtain ⟨x, hx⟩ : ∃ x, x = l[k] := ⟨_, rfl⟩
   rw [<- hx] at c0 c1 c2 HHIT
   have HXK := hI hx
   obtain ⟨EK, hEK⟩ : ∃ EK, EK = rtErr (l.take k) x := ⟨_, rfl⟩
   rw [<- hEK] at HHIT
   have HEK := hI (show EK = if x.cur < 1 \/ 15 < x.cur then 15 else if inB 0 876599 x.frm = false \/ x.per < 1 \/ 1000000000 < x.per then 1 else if ordR (l.take k) x = true then 13 else 0 from hEK)
   have HNEXT := hI (show EK = 0 -> ∀ j (h : j < l.length), j < k + 1 -> rtErr (l.take j) l[j] = 0 from fun h0 j hj hjk => by
    by_cases e : j = k
    ·subst e; rw [<- HXK.out, <- hEK]; exact h0
    exact HNO.out j hj (by omega))
   obtain ⟨wb, hwb⟩ : ∃ wb, wb = wo.alloc (.cells #[.int .i64 x.cur, .int .i64 x.frm, .int .i64 x.per] 86) := ⟨_, rfl⟩
   have HXB := hI (show Ext wo wb by rw [hwb]; exact (Ext.refl _).alloc _)
   have HEB := hI (show wb.heap[wo.heap.size]? = some (RtBox x) by rw [hwb]; exact alloc_new wo _)
   clear hEK hx
   go_upto_region 7 with fail
   rw [<- hwb]
   clear hwb c0 c1 c2
   obtain ⟨e0, e1, e2, ef⟩ := blk3r HEB.out
   by_cases q0 : x.cur < 1
   ·have v : decide (x.cur < 1) = true := decide_eq_true q0
    have hz : EK = 15 := by rw [HEK.out, if_pos (Or.inl q0)]
    have HQ := hI (show R = 15 by rw [HHIT.out (by rw [hz]; decide), hz])
    clear q0 hz
    go_wp2_with fail
    go_ret
    exact givesE_of (by rw [HQ.out]) (HX.out.trans HXB.out)
   have v0 : decide (x.cur < 1) = false := decide_eq_false q0
   by_cases q1 : 15 < x.cur
   ·have v : decide (15 < x.cur) = true := decide_eq_true q1
    have hz : EK = 15 := by rw [HEK.out, if_pos (Or.inr q1)]
    have HQ := hI (show R = 15 by rw [HHIT.out (by rw [hz]; decide), hz])
    clear q0 q1 hz
    go_wp2_with fail
    go_ret
    exact givesE_of (by rw [HQ.out]) (HX.out.trans HXB.out)
   have v1 : decide (15 < x.cur) = false := decide_eq_false q1
   have HEK2 := hI (show EK = if inB 0 876599 x.frm = false \/ x.per < 1 \/ 1000000000 < x.per then 1 else if ordR (l.take k) x = true then 13 else 0 by rw [HEK.out, if_neg (by omega)])
   clear q0 q1 HEK
   go_wp2_with fail
   refine (show Calls _ _ _ wb (GivesE (.bool (inB 0 876599 x.frm)) wb) from rHours_calls x.frm wb).mono ?_
   rintro r w6 ⟨rfl, hx6⟩
   have HX6 := hI (HXB.out.trans hx6)
   have HE6 := hI (hx6.blk HEB.out)
   clear hx6 e0 e1 e2 ef
   obtain ⟨e0, e1, e2, ef⟩ := blk3r HE6.out
   cases hh : inB 0 876599 x.frm
   ·have hz : EK = 1 := by rw [HEK2.out, if_pos (Or.inl hh)]
    have HQ := hI (show R = 1 by rw [HHIT.out (by rw [hz]; decide), hz])
    clear hh hz
    go_wp2_with fail
    go_ret
    exact givesE_of (by rw [HQ.out]) (HX.out.trans HX6.out)
   by_cases q0 : x.per < 1
   ·have v : decide (x.per < 1) = true := decide_eq_true q0
    have hz : EK = 1 := by rw [HEK2.out, if_pos (Or.inr (Or.inl q0))]
    have HQ := hI (show R = 1 by rw [HHIT.out (by rw [hz]; decide), hz])
    clear q0 hz hh
    go_wp2_with fail
    go_ret
    exact givesE_of (by rw [HQ.out]) (HX.out.trans HX6.out)
   have v2 : decide (x.per < 1) = false := decide_eq_false q0
   by_cases q1 : 1000000000 < x.per
   ·have v : decide (1000000000 < x.per) = true := decide_eq_true q1
    have hz : EK = 1 := by rw [HEK2.out, if_pos (Or.inr (Or.inr q1))]
    have HQ := hI (show R = 1 by rw [HHIT.out (by rw [hz]; decide), hz])
    clear q0 q1 hz hh
    go_wp2_with fail
    go_ret
    exact givesE_of (by rw [HQ.out]) (HX.out.trans HX6.out)
   have v3 : decide (1000000000 < x.per) = false := decide_eq_false q1
   have HEK3 := hI (show EK = if ordR (l.take k) x = true then 13 else 0 by rw [HEK2.out, if_neg (by rw [hh]; simp; omega)])
   clear q0 q1 hh HEK2
   obtain ⟨ORB, hOB⟩ : ∃ ORB, ORB = ordR (l.take k) x := ⟨_, rfl⟩
   have HOB := hI hOB
   rw [<- hOB] at HEK3
   clear hOB
   go_upto_region 11 with fail
   go_cut [74] (fun s74 wx => s74 = .bool ORB /\ Ext w6 wx)
   case first =>
    rcases Nat.eq_zero_or_pos k with hk0 | hk0
    ·have tz : decide (0 < k) = false := decide_eq_false (by omega)
     have HO := hI (show ORB = false by rw [HOB.out, hk0]; rfl)
     clear hk0
     go_wp2_with fail
     go_quiet (fail)
     go_wp2_with fail
     go_meet
     case rel => exact ⟨by rw [HO.out], (Ext.refl w6).drewN _⟩
    obtain ⟨p, rfl⟩ : ∃ p, k = p + 1 := ⟨k - 1, by omega⟩
    have hpl : p < l.length := by omega
    have HO := hI (show ORB = (decide (x.cur < l[p].cur) || ((l[p].cur == x.cur) && decide (x.frm <= l[p].frm))) by rw [HOB.out]; exact ordR_at hpl)
    obtain ⟨b', off', he, d0, d1, d2⟩ := IsRts.cell (IsRows.ext HI.out (HX.out.trans HX6.out)) hpl
    simp only [Option.some.injEq, Addr.mk.injEq, and_true] at he
    obtain ⟨rfl, rfl⟩ := he
    obtain ⟨y, hy⟩ : ∃ y, y = l[p] := ⟨_, rfl⟩
    rw [<- hy] at HO d0 d1 d2
    have tz : decide ((0 : Int) < ((p + 1 : Nat) : Int)) = true := decide_eq_true (by omega)
    have tp : ((p + 1 : Nat) : Int) - 1 = (p : Int) := by omega
    have tp0 : (0 : Int) <= (p : Int) := by omega
    have tp1 : (p : Int) < (n : Int) := by omega
    clear hk0 hy
    cases h1 : decide (x.cur < y.cur)
    ·cases h2 : (y.cur == x.cur)
     ·rw [h1, h2] at HO
      go_wp2_with fail
      go_quiet (fail)
      go_wp2_with fail
      go_meet
      case rel => exact ⟨by rw [HO.out]; rfl, (Ext.refl w6).drewN _⟩
     cases h3 : decide (x.frm <= y.frm)
     ·rw [h1, h2, h3] at HO
      go_wp2_with fail
      go_quiet (fail)
      go_wp2_with fail
      go_meet
      case rel => exact ⟨by rw [HO.out]; rfl, (Ext.refl w6).drewN _⟩
     rw [h1, h2, h3] at HO
     go_wp2_with fail
     go_quiet (fail)
     go_wp2_with fail
     go_meet
     case rel => exact ⟨by rw [HO.out]; rfl, (Ext.refl w6).drewN _⟩
    rw [h1] at HO
    go_wp2_with fail
    go_quiet (fail)
    go_wp2_with fail
    go_meet
    case rel => exact ⟨by rw [HO.out]; rfl, (Ext.refl w6).drewN _⟩
   case rest =>
   obtain ⟨rfl, hxc⟩ := hcut
   obtain ⟨w8, rfl⟩ : ∃ W : World, W = wc := ⟨_, rfl⟩
   have HX8 := hI (HX6.out.trans hxc)
   clear hxc HOB
   cases ORB
   ·have HQ := hI (show EK = 0 by rw [HEK3.out, if_neg (by simp)])
    go_wp2_with fail
    go_roundw
    case rel => exact ⟨k + 1, by go_num, by omega, HNEXT.out HQ.out, HX.out.trans HX8.out⟩
    case measure => simp [intOf]; omega
   have hz : EK = 13 := by rw [HEK3.out, if_pos rfl]
   have HQ := hI (show R = 13 by rw [HHIT.out (by rw [hz]; decide), hz])
   clear hz
   go_wp2_with fail
   go_ret
   exact givesE_of (by rw [HQ.out]) (HX.out.trans HX8.out)
  have t1 : decide ((k : Int) < (n : Int)) = false := decide_eq_false (by omega)
  have HQ := hI (show R = 0 by rw [HR.out, rtsErr_zero H2.out (fun j hj => HNO.out j hj (by have := HN.out; omega))])
  go_wp2_with fail
  go_ret
  exact givesE_of (by rw [HQ.out]) HX.out
def rateS (cur hour : Int) (m : Int) (x : Rt) : Int := if (x.cur == cur && decide (x.frm <= hour)) = true then x.per else m
def rateK (l : List Rt) (cur hour : Int) : Int := l.foldl (rateS cur hour) 0
theorem rateK_take (cur hour : Int) {l : List Rt} {k : Nat} (hk : k < l.length) : rateK (l.take (k + 1)) cur hour = rateS cur hour (rateK (l.take k) cur hour) l[k] := by
 unfold rateK
 rw [List.take_succ_eq_append_getElem hk, List.foldl_append]
 rfl
def rateAt (l : List Rt) (cur hour : Int) : Int × Int :=
 if rtsErr l ≠ 0 then (0, rtsErr l) else if inB 0 876599 hour = false then (0, 1) else if inB 0 15 cur = false then (0, 15) else if cur = 0 then (1000000, 0) else if rateK l cur hour = 0 then (0, 15) else (rateK l cur hour, 0)
def RtAQ (v : Int × Int) (w : World) (e : Ending) (w' : World) : Prop := e = .returned (.tuple #[.int .i64 v.1, .int .i64 v.2]) /\ Ext w w'
def RtAL (l : List Rt) (cur hour : Int) (n : Nat) (w : World) (v i : Value) (wr : World) : Prop := ∃ k : Nat, v = .int .i64 (rateK (l.take k) cur hour) /\ i = .int .i64 k /\ k <= n /\ Ext w wr
theorem rRateAt_calls (l : List Rt) (a : OA) (n c : Nat) (cur hour : Int) (w : World) (hi : IsRts w l a n c) (hn2 : n <= 1000000000000) : Calls Tryz.prog 59 #[.slice a n c, .int .i64 cur, .int .i64 hour] w (RtAQ (rateAt l cur hour) w) := by
 have HI := hI hi
 have HN := hI hi.1
 have HRT := hI (rRates_calls l a n c w hi hn2)
 obtain ⟨R, hR⟩ : ∃ R, R = rateAt l cur hour := ⟨_, rfl⟩
 rw [<- hR]
 obtain ⟨E, hE⟩ : ∃ E, E = rtsErr l := ⟨_, rfl⟩
 rw [<- hE] at HRT
 have HR := hI (show R = if E ≠ 0 then (0, E) else if inB 0 876599 hour = false then (0, 1) else if inB 0 15 cur = false then (0, 15) else if cur = 0 then (1000000, 0) else if rateK l cur hour = 0 then (0, 15) else (rateK l cur hour, 0) by rw [hR, hE]; rfl)
 clear hi hR hE
 unfold RtAQ
 go_enter Tryz.func59, Tryz.ntmps59
 go_wp2_with fail
 refine HRT.out.mono ?_
 rintro r w1 ⟨rfl, hx1⟩
 have HX1 := hI hx1
 clear hx1
 by_cases hE0 : E = 0
 case neg =>
  have te : (E != 0) = true := by simp [hE0]
  have HQ := hI (show R = (0, E) by rw [HR.out, if_pos hE0])
  clear hE0
  go_wp2_with fail
  go_ret2
  exact ⟨by rw [HQ.out]; rfl, HX1.out⟩
 subst hE0
 have HR2 := hI (show R = if inB 0 876599 hour = false then (0, 1) else if inB 0 15 cur = false then (0, 15) else if cur = 0 then (1000000, 0) else if rateK l cur hour = 0 then (0, 15) else (rateK l cur hour, 0) by rw [HR.out, if_neg (by simp)])
 clear HR
 go_wp2_with fail
 refine (show Calls _ _ _ w1 (GivesE (.bool (inB 0 876599 hour)) w1) from rHours_calls hour w1).mono ?_
 rintro r w2 ⟨rfl, hx2⟩
 have HX2 := hI (HX1.out.trans hx2)
 clear hx2
 cases hh : inB 0 876599 hour
 ·have HQ := hI (show R = (0, 1) by rw [HR2.out, if_pos hh])
  clear hh
  go_wp2_with fail
  go_ret2
  exact ⟨by rw [HQ.out]; rfl, HX2.out⟩
 have HR3 := hI (show R = if inB 0 15 cur = false then (0, 15) else if cur = 0 then (1000000, 0) else if rateK l cur hour = 0 then (0, 15) else (rateK l cur hour, 0) by rw [HR2.out, if_neg (by simp [hh])])
 clear hh HR2
 go_wp2_with fail
 refine (rCur_calls cur w2).mono ?_
 rintro r w3 ⟨rfl, hx3⟩
 have HX3 := hI (HX2.out.trans hx3)
 clear hx3
 cases hc : inB 0 15 cur
 ·have HQ := hI (show R = (0, 15) by rw [HR3.out, if_pos hc])
  clear hc
  go_wp2_with fail
  go_ret2
  exact ⟨by rw [HQ.out]; rfl, HX3.out⟩
 have HR4 := hI (show R = if cur = 0 then (1000000, 0) else if rateK l cur hour = 0 then (0, 15) else (rateK l cur hour, 0) by rw [HR3.out, if_neg (by simp [hc])])
 clear hc HR3
 by_cases hz : cur = 0
 ·have tz : (cur == 0) = true := by simp [hz]
  have HQ := hI (show R = (1000000, 0) by rw [HR4.out, if_pos hz])
  clear hz
  go_wp2_with fail
  go_ret2
  exact ⟨by rw [HQ.out]; rfl, HX3.out⟩
 have tz : (cur == 0) = false := by simp [hz]
 have HR5 := hI (show R = if rateK l cur hour = 0 then (0, 15) else (rateK l cur hour, 0) by rw [HR4.out, if_neg hz])
 clear hz HR4
 go_wp2_with fail
 go_loopw [9, 10] (RtAL l cur hour n w3) (fun _ i _ => n - (intOf i).toNat)
 case atStart => exact ⟨0, rfl, rfl, Nat.zero_le _, Ext.refl _⟩
 case round =>
  obtain ⟨k, rfl, rfl, hk, hx⟩ := hrel
  obtain ⟨wo, rfl⟩ : ∃ wo : World, wo = wr := ⟨_, rfl⟩
  have HX := hI hx
  clear hx
  by_cases hkn : k < n
  ·have hkl : k < l.length := by have := HN.out; omega
   have t1 : decide ((k : Int) < (n : Int)) = true := decide_eq_true (by omega)
   have tk0 : (0 : Int) <= (k : Int) := by omega
   have tk1 : (k : Int) < (n : Int) := by omega
   obtain ⟨b, off, rfl, c0, c1, c2⟩ := IsRts.cell (IsRows.ext HI.out (HX3.out.trans HX.out)) hkl
   have HST := hI (rateK_take cur hour hkl)
   obtain ⟨x, hx⟩ : ∃ x, x = l[k] := ⟨_, rfl⟩
   obtain ⟨M, hM⟩ : ∃ M, M = rateK (l.take k) cur hour := ⟨_, rfl⟩
   rw [<- hx, <- hM] at HST
   rw [<- hx] at c0 c1 c2
   rw [<- hM]
   have HST2 := hI (show rateK (l.take (k + 1)) cur hour = if (x.cur == cur && decide (x.frm <= hour)) = true then x.per else M from HST.out)
   clear hx hM HST
   cases h1 : (x.cur == cur)
   ·rw [h1] at HST2
    go_wp2_with fail
    go_roundw
    case rel => exact ⟨k + 1, by rw [HST2.out]; rfl, by go_num, by omega, HX.out⟩
    case measure => simp [intOf]; omega
   cases h2 : decide (x.frm <= hour)
   ·rw [h1, h2] at HST2
    go_wp2_with fail
    go_roundw
    case rel => exact ⟨k + 1, by rw [HST2.out]; rfl, by go_num, by omega, HX.out⟩
    case measure => simp [intOf]; omega
   rw [h1, h2] at HST2
   go_wp2_with fail
   go_roundw
   case rel => exact ⟨k + 1, by rw [HST2.out]; rfl, by go_num, by omega, HX.out⟩
   case measure => simp [intOf]; omega
  have t1 : decide ((k : Int) < (n : Int)) = false := decide_eq_false (by omega)
  have he : l.take k = l := List.take_of_length_le (by have := HN.out; omega)
  rw [he]
  obtain ⟨M, hM⟩ : ∃ M, M = rateK l cur hour := ⟨_, rfl⟩
  rw [<- hM] at HR5 ⊢
  clear he hM
  by_cases hm : M = 0
  ·have tm : (M == 0) = true := by simp [hm]
   have HQ := hI (show R = (0, 15) by rw [HR5.out, if_pos hm])
   clear hm
   go_wp2_with fail
   go_ret2
   exact ⟨by rw [HQ.out]; rfl, HX3.out.trans HX.out⟩
  have tm : (M == 0) = false := by simp [hm]
  have HQ := hI (show R = (M, 0) by rw [HR5.out, if_neg hm])
  clear hm
  go_wp2_with fail
  go_ret2
  exact ⟨by rw [HQ.out]; rfl, HX3.out.trans HX.out⟩
theorem per_of {l : List Rt} (h : rtsErr l = 0) : ∀ x ∈ l, 1 <= x.per /\ x.per <= 1000000000 := by
 intro x hx
 unfold rtsErr at h
 by_cases h2 : 200 < l.length
 ·rw [if_pos h2] at h; cases h
 rw [if_neg h2] at h
 obtain ⟨i, hi, rfl⟩ := List.getElem_of_mem hx
 have h3 := firstI_none _ h i hi
 rw [rtErr_at hi] at h3
 unfold rtErr at h3
 by_cases h4 : l[i].cur < 1 \/ 15 < l[i].cur
 ·rw [if_pos h4] at h3; cases h3
 rw [if_neg h4] at h3
 by_cases h5 : inB 0 876599 l[i].frm = false \/ l[i].per < 1 \/ 1000000000 < l[i].per
 ·rw [if_pos h5] at h3; cases h3
 omega
theorem rateK_in (cur hour : Int) : (l : List Rt) -> (m : Int) -> (∀ x ∈ l, 1 <= x.per /\ x.per <= 1000000000) -> 0 <= m -> m <= 1000000000 -> 0 <= l.foldl (rateS cur hour) m /\ l.foldl (rateS cur hour) m <= 1000000000
 | [], m, _, h0, h1 => ⟨h0, h1⟩
 | x :: r, m, h, h0, h1 => by
  rw [List.foldl_cons]
  have hx := h x (by simp)
  refine rateK_in cur hour r _ (fun y hy => h y (by simp [hy])) ?_ ?_
  ·unfold rateS; split <;> omega
  unfold rateS; split <;> omega
theorem rateAt_in {l : List Rt} {cur hour : Int} (h0 : (rateAt l cur hour).2 = 0) : ∃ p : Nat, (rateAt l cur hour).1 = p /\ 1 <= p /\ p <= 1000000000 := by
 unfold rateAt at h0 ⊢
 by_cases h1 : rtsErr l ≠ 0
 ·rw [if_pos h1] at h0; exact absurd h0 h1
 rw [if_neg h1] at h0 ⊢
 by_cases h2 : inB 0 876599 hour = false
 ·rw [if_pos h2] at h0; cases h0
 rw [if_neg h2] at h0 ⊢
 by_cases h3 : inB 0 15 cur = false
 ·rw [if_pos h3] at h0; cases h0
 rw [if_neg h3] at h0 ⊢
 by_cases h4 : cur = 0
 ·rw [if_pos h4]; exact ⟨1000000, rfl, by omega, by omega⟩
 rw [if_neg h4] at h0 ⊢
 by_cases h5 : rateK l cur hour = 0
 ·rw [if_pos h5] at h0; cases h0
 rw [if_neg h5]
 have h6 := rateK_in cur hour l 0 (per_of (by simpa using h1)) (by omega) (by omega)
 have h7 : rateK l cur hour = l.foldl (rateS cur hour) 0 := rfl
 exact ⟨(rateK l cur hour).toNat, by show rateK l cur hour = _; omega, by omega, by omega⟩
def convV (l : List Rt) (cur : Int) (amt : Nat) (tgt hour : Int) : Int × Int :=
 if rtsErr l ≠ 0 then (0, rtsErr l) else if amtB amt = false \/ inB 0 876599 hour = false then (0, 1) else if inB 0 15 cur = false \/ inB 0 15 tgt = false then (0, 15) else if cur = tgt then (amt, 0)
 else if (rateAt l cur hour).2 ≠ 0 \/ (rateAt l tgt hour).2 ≠ 0 then (0, 15) else ((mulH amt (rateAt l cur hour).1.toNat (rateAt l tgt hour).1.toNat).1, (mulH amt (rateAt l cur hour).1.toNat (rateAt l tgt hour).1.toNat).2)
theorem rConvert_calls (l : List Rt) (a : OA) (n c : Nat) (cur : Int) (amt : Nat) (tgt hour : Int) (w : World) (hi : IsRts w l a n c) (hn2 : n <= 1000000000000) (hamt : amt <= 1000000000000000000) : Calls Tryz.prog 26 #[.slice a n c, .agg #[.int .i64 cur, .int .i64 amt], .int .i64 tgt, .int .i64 hour] w (RtAQ (convV l cur amt tgt hour) w) := by
 have HRT := hI (fun W (hW : Ext w W) => rRates_calls l a n c W (IsRows.ext hi hW) hn2)
 have HRA := hI (fun (q : Int) W (hW : Ext w W) => rRateAt_calls l a n c q hour W (IsRows.ext hi hW) hn2)
 have HIN := hI (fun (q : Int) => rateAt_in (l := l) (cur := q) (hour := hour))
 obtain ⟨R, hR⟩ : ∃ R, R = convV l cur amt tgt hour := ⟨_, rfl⟩
 rw [<- hR]
 obtain ⟨E, hE⟩ : ∃ E, E = rtsErr l := ⟨_, rfl⟩
 rw [<- hE] at HRT
 have HR := hI (show R = if E ≠ 0 then (0, E) else if amtB amt = false \/ inB 0 876599 hour = false then (0, 1) else if inB 0 15 cur = false \/ inB 0 15 tgt = false then (0, 15) else if cur = tgt then ((amt : Int), 0)
  else if (rateAt l cur hour).2 ≠ 0 \/ (rateAt l tgt hour).2 ≠ 0 then (0, 15) else (((mulH amt (rateAt l cur hour).1.toNat (rateAt l tgt hour).1.toNat).1 : Int), ((mulH amt (rateAt l cur hour).1.toNat (rateAt l tgt hour).1.toNat).2 : Int)) by rw [hR, hE]; rfl)
 clear hi hR hE
 unfold RtAQ
 obtain ⟨wa, hwa⟩ : ∃ wa, wa = w.alloc (.cells #[.int .i64 cur, .int .i64 amt] 74) := ⟨_, rfl⟩
 have HXA := hI (show Ext w wa by rw [hwa]; exact (Ext.refl _).alloc _)
 have HB := hI (show wa.heap[w.heap.size]? = some (.cells #[.int .i64 cur, .int .i64 amt] 74 (0, 0)) by rw [hwa]; exact alloc_new w _)
 go_enter Tryz.func26, Tryz.ntmps26
 go_upto_region 1 with fail
 rw [<- hwa]
 clear hwa
 go_wp2_with fail
 refine (HRT.out wa HXA.out).mono ?_
 rintro r w1 ⟨rfl, hx1⟩
 have HX1 := hI (HXA.out.trans hx1)
 have HB1 := hI (hx1.blk HB.out)
 clear hx1 HB
 by_cases hE0 : E = 0
 case neg =>
  have te : (E != 0) = true := by simp [hE0]
  have HQ := hI (show R = (0, E) by rw [HR.out, if_pos hE0])
  clear hE0
  go_wp2_with fail
  go_ret2
  exact ⟨by rw [HQ.out]; rfl, HX1.out⟩
 subst hE0
 obtain ⟨b0, b1, bf⟩ := blk2 HB1.out
 have HR1 := hI (HR.out.trans (if_neg (by simp)))
 clear HR
 go_wp2_with fail
 refine (rAmt_calls (amt : Int) w1).mono ?_
 rintro r w2 ⟨rfl, hx2⟩
 have HX2 := hI (HX1.out.trans hx2)
 have HB2 := hI (hx2.blk HB1.out)
 clear hx2 b0 b1 bf HB1
 cases h1 : amtB (amt : Int)
 ·have HQ := hI (show R = (0, 1) from HR1.out.trans (if_pos (Or.inl h1)))
  clear h1
  go_wp2_with fail
  go_ret2
  exact ⟨by rw [HQ.out]; rfl, HX2.out⟩
 go_wp2_with fail
 refine (show Calls _ _ _ w2 (GivesE (.bool (inB 0 876599 hour)) w2) from rHours_calls hour w2).mono ?_
 rintro r w3 ⟨rfl, hx3⟩
 have HX3 := hI (HX2.out.trans hx3)
 have HB3 := hI (hx3.blk HB2.out)
 clear hx3 HB2
 cases h2 : inB 0 876599 hour
 ·have HQ := hI (show R = (0, 1) from HR1.out.trans (if_pos (Or.inr h2)))
  clear h1 h2
  go_wp2_with fail
  go_ret2
  exact ⟨by rw [HQ.out]; rfl, HX3.out⟩
 have HR2 := hI (HR1.out.trans (if_neg (by rw [h1, h2]; simp)))
 clear h1 h2 HR1
 obtain ⟨b0, b1, bf⟩ := blk2 HB3.out
 go_wp2_with fail
 refine (rCur_calls cur w3).mono ?_
 rintro r w4 ⟨rfl, hx4⟩
 have HX4 := hI (HX3.out.trans hx4)
 have HB4 := hI (hx4.blk HB3.out)
 clear hx4 b0 b1 bf HB3
 cases h1 : inB 0 15 cur
 ·have HQ := hI (show R = (0, 15) from HR2.out.trans (if_pos (Or.inl h1)))
  clear h1
  go_wp2_with fail
  go_ret2
  exact ⟨by rw [HQ.out]; rfl, HX4.out⟩
 go_wp2_with fail
 refine (rCur_calls tgt w4).mono ?_
 rintro r w5 ⟨rfl, hx5⟩
 have HX5 := hI (HX4.out.trans hx5)
 have HB5 := hI (hx5.blk HB4.out)
 clear hx5 HB4
 cases h2 : inB 0 15 tgt
 ·have HQ := hI (show R = (0, 15) from HR2.out.trans (if_pos (Or.inr h2)))
  clear h1 h2
  go_wp2_with fail
  go_ret2
  exact ⟨by rw [HQ.out]; rfl, HX5.out⟩
 have HR3 := hI (HR2.out.trans (if_neg (by rw [h1, h2]; simp)))
 clear h1 h2 HR2
 obtain ⟨b0, b1, bf⟩ := blk2 HB5.out
 by_cases hct : cur = tgt
 ·have tc : (cur == tgt) = true := by simp [hct]
  have HQ := hI (show R = ((amt : Int), 0) from HR3.out.trans (if_pos hct))
  clear hct
  go_wp2_with fail
  go_ret2
  exact ⟨by rw [HQ.out]; rfl, HX5.out⟩
 have tc : (cur == tgt) = false := by simp [hct]
 have HR4 := hI (HR3.out.trans (if_neg hct))
 clear hct HR3
 obtain ⟨A, hA⟩ : ∃ A, A = rateAt l cur hour := ⟨_, rfl⟩
 obtain ⟨B, hB⟩ : ∃ B, B = rateAt l tgt hour := ⟨_, rfl⟩
 have HA := hI (fun W hW => HRA.out cur W hW)
 have HBR := hI (fun W hW => HRA.out tgt W hW)
 have HIA := hI (HIN.out cur)
 have HIB := hI (HIN.out tgt)
 rw [<- hA] at HA HIA HR4
 rw [<- hB] at HBR HIB HR4
 unfold RtAQ at HA HBR
 obtain ⟨A1, A2⟩ := A
 obtain ⟨B1, B2⟩ := B
 dsimp only at HA HIA HBR HIB HR4
 clear hA hB HIN HRA
 go_wp2_with fail
 refine (HA.out w5 HX5.out).mono ?_
 rintro r w6 ⟨rfl, hx6⟩
 have HX6 := hI (HX5.out.trans hx6)
 have HB6 := hI (hx6.blk HB5.out)
 clear hx6 b0 b1 bf HB5
 go_wp2_with fail
 refine (HBR.out w6 HX6.out).mono ?_
 rintro r w7 ⟨rfl, hx7⟩
 have HX7 := hI (HX6.out.trans hx7)
 have HB7 := hI (hx7.blk HB6.out)
 clear hx7 HB6
 obtain ⟨b0, b1, bf⟩ := blk2 HB7.out
 by_cases hA2 : A2 = 0
 case neg =>
  have ta : (A2 != 0) = true := by simp [hA2]
  have HQ := hI (show R = (0, 15) from HR4.out.trans (if_pos (Or.inl hA2)))
  clear hA2
  go_wp2_with fail
  go_ret2
  exact ⟨by rw [HQ.out]; rfl, HX7.out⟩
 by_cases hB2 : B2 = 0
 case neg =>
  have tb : (B2 != 0) = true := by simp [hB2]
  have HQ := hI (show R = (0, 15) from HR4.out.trans (if_pos (Or.inr hB2)))
  subst hA2
  clear hB2
  go_wp2_with fail
  go_ret2
  exact ⟨by rw [HQ.out]; rfl, HX7.out⟩
 obtain ⟨pa, rfl, -, hpa⟩ := HIA.out hA2
 obtain ⟨pb, rfl, -, hpb⟩ := HIB.out hB2
 have HR5 := hI (HR4.out.trans (if_neg (by rw [hA2, hB2]; simp)))
 subst hA2
 subst hB2
 rw [Int.toNat_natCast, Int.toNat_natCast] at HR5
 clear HIA HIB HR4
 go_wp2_with fail
 refine (mulDiv_calls amt pa pb w7 hamt).mono ?_
 rintro r w8 ⟨rfl, hx8⟩
 have HX8 := hI (HX7.out.trans hx8)
 clear hx8
 go_wp2_with fail
 go_ret2
 exact ⟨by rw [HR5.out]; rfl, HX8.out⟩
structure Psn where
 opn : Bool
 net : Int
 paid : Int
 rcv : Int
 rsv : Int
 inc : Int
def Psn.cells (p : Psn) : Array Value := #[.bool p.opn, .int .i64 p.net, .int .i64 p.paid, .int .i64 p.rcv, .int .i64 p.rsv, .int .i64 p.inc]
def rsvB (o : Bool) (net paid : Int) : Int := if o = true then (if net - paid < 0 then 0 else net - paid) else 0
def posV (o : Bool) (net paid rcv : Int) : Psn := ⟨o, net, paid, rcv, rsvB o net paid, paid + rsvB o net paid - rcv⟩
theorem position_calls (o : Bool) (net paid rcv : Int) (w : World) (h1 : -1000000000000000 <= net /\ net <= 1000000000000000) (h2 : -1000000000000000 <= paid /\ paid <= 1000000000000000) (h3 : -1000000000000000 <= rcv /\ rcv <= 1000000000000000) :
  Calls Tryz.prog 27 #[.bool o, .int .i64 net, .int .i64 paid, .int .i64 rcv] w (GivesE (.agg (posV o net paid rcv).cells) w) := by
 cases o
 ·go_enter Tryz.func27, Tryz.ntmps27
  go_wp2_with fail
  refine bodyPost_ret (v := .agg (posV false net paid rcv).cells) (by simp [results, Tryz.results27, go_sem, Psn.cells, posV, rsvB]) rfl ⟨rfl, ((Ext.refl _).alloc _).alloc _⟩
 by_cases hn : net - paid < 0
 ·have hr : rsvB true net paid = 0 := by unfold rsvB; rw [if_pos rfl, if_pos hn]
  have hP : posV true net paid rcv = ⟨true, net, paid, rcv, 0, paid + 0 - rcv⟩ := by unfold posV; rw [hr]
  rw [hP]
  go_enter Tryz.func27, Tryz.ntmps27
  go_wp2_with fail
  refine bodyPost_ret (v := .agg (Psn.mk true net paid rcv 0 (paid + 0 - rcv)).cells) (by simp [results, Tryz.results27, go_sem, Psn.cells] <;> omega) rfl ⟨rfl, ((Ext.refl _).alloc _).alloc _⟩
 have hr : rsvB true net paid = net - paid := by unfold rsvB; rw [if_pos rfl, if_neg hn]
 have hP : posV true net paid rcv = ⟨true, net, paid, rcv, net - paid, paid + (net - paid) - rcv⟩ := by unfold posV; rw [hr]
 rw [hP]
 go_enter Tryz.func27, Tryz.ntmps27
 go_wp2_with fail
 refine bodyPost_ret (v := .agg (Psn.mk true net paid rcv (net - paid) (paid + (net - paid) - rcv)).cells) (by simp [results, Tryz.results27, go_sem, Psn.cells] <;> omega) rfl ⟨rfl, ((Ext.refl _).alloc _).alloc _⟩
def capV (p : Psn) (most : Int) : Psn := posV p.opn (if most < p.net then most else p.net) p.paid p.rcv
def smallP (p : Psn) : Prop := (-1000000000000000 <= p.net /\ p.net <= 1000000000000000) /\ (-1000000000000000 <= p.paid /\ p.paid <= 1000000000000000) /\ (-1000000000000000 <= p.rcv /\ p.rcv <= 1000000000000000)
theorem rCapped_calls (p : Psn) (most : Int) (w : World) (hp : smallP p) (hm : -1000000000000000 <= most /\ most <= 1000000000000000) : Calls Tryz.prog 9 #[.agg p.cells, .int .i64 most] w (GivesE (.agg (capV p most).cells) w) := by
 obtain ⟨k, hk, hkb⟩ : ∃ k, k = (if most < p.net then most else p.net) /\ (-1000000000000000 <= k /\ k <= 1000000000000000) := ⟨_, rfl, by have := hp.1; split <;> omega⟩
 have HP := hI (fun (w : World) => position_calls p.opn k p.paid p.rcv w hkb hp.2.1 hp.2.2)
 obtain ⟨Rc, hRc⟩ : ∃ Rc, Rc = Value.agg (capV p most).cells := ⟨_, rfl⟩
 rw [<- hRc]
 have HR := hI (show Rc = .agg (posV p.opn k p.paid p.rcv).cells by rw [hRc, hk]; rfl)
 clear hRc
 obtain ⟨o, net, paid, rcv, rsv, inc⟩ := p
 obtain ⟨⟨a1, a2⟩, ⟨b1, b2⟩, ⟨c1, c2⟩⟩ := hp
 obtain ⟨m1, m2⟩ := hm
 dsimp only at a1 a2 b1 b2 c1 c2 HP HR hk
 unfold Psn.cells
 dsimp only
 obtain ⟨q, hq⟩ : ∃ q, q = posV o k paid rcv := ⟨_, rfl⟩
 rw [<- hq] at HP HR
 obtain ⟨q0, q1, q2, q3, q4, q5⟩ := q
 clear hq
 obtain ⟨wa, hwa⟩ : ∃ wa, wa = (w.alloc (.cells #[.bool o, .int .i64 net, .int .i64 paid, .int .i64 rcv, .int .i64 rsv, .int .i64 inc] 40)).alloc (.cells #[.bool false, .int .i64 0, .int .i64 0, .int .i64 0, .int .i64 0, .int .i64 0] 40) := ⟨_, rfl⟩
 have HXA := hI (show Ext w wa by rw [hwa]; exact ((Ext.refl _).alloc _).alloc _)
 have HA6 := hI (show wa.heap[w.heap.size + 1]? = some (.cells #[.bool false, .int .i64 0, .int .i64 0, .int .i64 0, .int .i64 0, .int .i64 0] 40 (0, 0)) by rw [hwa]; exact alloc_at (by simp))
 obtain ⟨b3, hb3⟩ : ∃ b3, b3 = w.heap.size := ⟨_, rfl⟩
 have hlw : w.heap.size <= b3 := by omega
 have HB := hI hb3
 by_cases hl : most < net
 ·rw [if_pos hl] at hk
  subst hk
  go_enter Tryz.func9, Tryz.ntmps9
  go_wp2_with fail
  try rw [show min net k = k by omega]
  rw [<- hwa, <- hb3]
  rw [<- hb3] at HA6
  clear hwa hb3
  refine (HP.out wa).mono ?_
  rintro r w1 ⟨rfl, hx1⟩
  have HX1 := hI (HXA.out.trans hx1)
  have hz := hx1.blk HA6.out
  clear hx1
  obtain ⟨z0, z1, z2, z3, z4, z5, zf⟩ := blk6d hz
  unfold Psn.cells
  dsimp only
  go_wp2_with fail
  obtain ⟨w8, hw8⟩ : ∃ w8, w8 = put6d w1 (b3 + 1) (.bool q0) (.int .i64 q1) (.int .i64 q2) (.int .i64 q3) (.int .i64 q4) (.int .i64 q5) := ⟨_, rfl⟩
  have HX8 := hI (show Ext w w8 by rw [hw8]; exact (put6d_chg _ _).ext HX1.out (by simp; omega))
  have h8 : w8.heap[b3 + 1]? = some (.cells #[.bool q0, .int .i64 q1, .int .i64 q2, .int .i64 q3, .int .i64 q4, .int .i64 q5] 40 (0, 0)) := by rw [hw8]; exact put6d_blk hz
  unfold put6d at hw8
  rw [<- hw8]
  clear hw8 z0 z1 z2 z3 z4 z5 zf hz
  obtain ⟨z0, z1, z2, z3, z4, z5, zf⟩ := blk6d h8
  rw [HR.out]
  refine bodyPost_ret (v := .agg (Psn.mk q0 q1 q2 q3 q4 q5).cells) (by simp [results, Tryz.results9, go_sem, Psn.cells, z0, z1, z2, z3, z4, z5]) rfl ?_
  exact ⟨rfl, HX8.out⟩
 rw [if_neg hl] at hk
 subst hk
 go_enter Tryz.func9, Tryz.ntmps9
 go_wp2_with fail
 try rw [show min k most = k by omega]
 rw [<- hwa, <- hb3]
 rw [<- hb3] at HA6
 clear hwa hb3
 refine (HP.out wa).mono ?_
 rintro r w1 ⟨rfl, hx1⟩
 have HX1 := hI (HXA.out.trans hx1)
 have hz := hx1.blk HA6.out
 clear hx1
 obtain ⟨z0, z1, z2, z3, z4, z5, zf⟩ := blk6d hz
 unfold Psn.cells
 dsimp only
 go_wp2_with fail
 obtain ⟨w8, hw8⟩ : ∃ w8, w8 = put6d w1 (b3 + 1) (.bool q0) (.int .i64 q1) (.int .i64 q2) (.int .i64 q3) (.int .i64 q4) (.int .i64 q5) := ⟨_, rfl⟩
 have HX8 := hI (show Ext w w8 by rw [hw8]; exact (put6d_chg _ _).ext HX1.out (by simp; omega))
 have h8 : w8.heap[b3 + 1]? = some (.cells #[.bool q0, .int .i64 q1, .int .i64 q2, .int .i64 q3, .int .i64 q4, .int .i64 q5] 40 (0, 0)) := by rw [hw8]; exact put6d_blk hz
 unfold put6d at hw8
 rw [<- hw8]
 clear hw8 z0 z1 z2 z3 z4 z5 zf hz
 obtain ⟨z0, z1, z2, z3, z4, z5, zf⟩ := blk6d h8
 rw [HR.out]
 refine bodyPost_ret (v := .agg (Psn.mk q0 q1 q2 q3 q4 q5).cells) (by simp [results, Tryz.results9, go_sem, Psn.cells, z0, z1, z2, z3, z4, z5]) rfl ?_
 exact ⟨rfl, HX8.out⟩
theorem cCapped_calls (p : Psn) (most : Int) (w : World) (hp : smallP p) (hm : -1000000000000000 <= most /\ most <= 1000000000000000) : Calls Tryz.prog 8 #[.agg p.cells, .int .i64 most] w (GivesE (.agg (capV p most).cells) w) := by
 obtain ⟨k, hk, hkb⟩ : ∃ k, k = (if most < p.net then most else p.net) /\ (-1000000000000000 <= k /\ k <= 1000000000000000) := ⟨_, rfl, by have := hp.1; split <;> omega⟩
 obtain ⟨Rc, hRc⟩ : ∃ Rc, Rc = Value.agg (capV p most).cells := ⟨_, rfl⟩
 rw [<- hRc]
 have HR := hI (show Rc = .agg (posV p.opn k p.paid p.rcv).cells by rw [hRc, hk]; rfl)
 clear hRc
 obtain ⟨o, net, paid, rcv, rsv, inc⟩ := p
 obtain ⟨⟨a1, a2⟩, ⟨b1, b2⟩, ⟨c1, c2⟩⟩ := hp
 obtain ⟨m1, m2⟩ := hm
 dsimp only at a1 a2 b1 b2 c1 c2 HR hk
 unfold Psn.cells
 dsimp only
 cases o
 ·have HQ := hI (show Rc = .agg (Psn.mk false k paid rcv 0 (paid + 0 - rcv)).cells by rw [HR.out]; unfold posV rsvB; rw [if_neg (by decide)])
  by_cases hl : most < net
  ·rw [if_pos hl] at hk
   subst hk
   go_enter Tryz.func8, Tryz.ntmps8
   go_wp2_with fail
   all_goals try simp only [show min net k = k by omega]
   all_goals try simp only [show min k most = k by omega]
   all_goals rw [HQ.out]
   all_goals refine bodyPost_ret (v := .agg (Psn.mk false _ paid rcv 0 (paid + 0 - rcv)).cells) (by simp [results, Tryz.results8, go_sem, Psn.cells] <;> omega) rfl ⟨rfl, ?_⟩
   all_goals exact ((Ext.refl w).alloc _).alloc _
  rw [if_neg hl] at hk
  subst hk
  go_enter Tryz.func8, Tryz.ntmps8
  go_wp2_with fail
  all_goals try simp only [show min net k = k by omega]
  all_goals try simp only [show min k most = k by omega]
  all_goals rw [HQ.out]
  all_goals refine bodyPost_ret (v := .agg (Psn.mk false _ paid rcv 0 (paid + 0 - rcv)).cells) (by simp [results, Tryz.results8, go_sem, Psn.cells] <;> omega) rfl ⟨rfl, ?_⟩
  all_goals exact ((Ext.refl w).alloc _).alloc _
 by_cases hn : k - paid < 0
 ·have HQ := hI (show Rc = .agg (Psn.mk true k paid rcv 0 (paid + 0 - rcv)).cells by rw [HR.out]; unfold posV rsvB; rw [if_pos rfl, if_pos hn])
  by_cases hl : most < net
  ·rw [if_pos hl] at hk
   subst hk
   go_enter Tryz.func8, Tryz.ntmps8
   go_wp2_with fail
   all_goals try simp only [show min net k = k by omega]
   all_goals try simp only [show min k most = k by omega]
   all_goals rw [HQ.out]
   all_goals refine bodyPost_ret (v := .agg (Psn.mk true _ paid rcv 0 (paid + 0 - rcv)).cells) (by simp [results, Tryz.results8, go_sem, Psn.cells] <;> omega) rfl ⟨rfl, ?_⟩
   all_goals exact ((Ext.refl w).alloc _).alloc _
  rw [if_neg hl] at hk
  subst hk
  go_enter Tryz.func8, Tryz.ntmps8
  go_wp2_with fail
  all_goals try simp only [show min net k = k by omega]
  all_goals try simp only [show min k most = k by omega]
  all_goals rw [HQ.out]
  all_goals refine bodyPost_ret (v := .agg (Psn.mk true _ paid rcv 0 (paid + 0 - rcv)).cells) (by simp [results, Tryz.results8, go_sem, Psn.cells] <;> omega) rfl ⟨rfl, ?_⟩
  all_goals exact ((Ext.refl w).alloc _).alloc _
 have HQ := hI (show Rc = .agg (Psn.mk true k paid rcv (k - paid) (paid + (k - paid) - rcv)).cells by rw [HR.out]; unfold posV rsvB; rw [if_pos rfl, if_neg hn])
 by_cases hl : most < net
 ·rw [if_pos hl] at hk
  subst hk
  go_enter Tryz.func8, Tryz.ntmps8
  go_wp2_with fail
  all_goals try simp only [show min net k = k by omega]
  all_goals try simp only [show min k most = k by omega]
  all_goals rw [HQ.out]
  all_goals refine bodyPost_ret (v := .agg (Psn.mk true _ paid rcv (_ - paid) (paid + (_ - paid) - rcv)).cells) (by simp [results, Tryz.results8, go_sem, Psn.cells] <;> omega) rfl ⟨rfl, ?_⟩
  all_goals exact ((Ext.refl w).alloc _).alloc _
 rw [if_neg hl] at hk
 subst hk
 go_enter Tryz.func8, Tryz.ntmps8
 go_wp2_with fail
 all_goals try simp only [show min net k = k by omega]
 all_goals try simp only [show min k most = k by omega]
 all_goals rw [HQ.out]
 all_goals refine bodyPost_ret (v := .agg (Psn.mk true _ paid rcv (_ - paid) (paid + (_ - paid) - rcv)).cells) (by simp [results, Tryz.results8, go_sem, Psn.cells] <;> omega) rfl ⟨rfl, ?_⟩
 all_goals exact ((Ext.refl w).alloc _).alloc _
end Go.Proofs.YtefjomofjejklaaGreat
