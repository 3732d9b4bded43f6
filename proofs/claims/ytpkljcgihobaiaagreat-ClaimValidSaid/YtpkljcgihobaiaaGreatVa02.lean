/-
  Texts of the claim, joined: RClE, Cln, Spt.
-/
import Derived.Test.YtpkljcgihobaiaaGreatVa01
import Derived.Lib.SliceRun
namespace Go.Proofs.YtpkljcgihobaiaaGreat
set_option maxRecDepth 100000
set_option maxHeartbeats 32000000
open Go.RowKit
theorem rBefore_calls (c : Clm) (a : OA) (n cap i : Nat) (t : Int) (w : World) (hi : IsEvs w c.events a n cap) (hin : i <= n) (hn2 : n <= 1000000000000) :
  Calls Tryz.prog 37 #[ClmArg c a n cap, .int .i64 i, .int .i64 t] w (GivesE (.bool ((c.events.take i).any fun y => y.number == t)) w) := by
 have HN := hI hi.len
 obtain ⟨l, hl⟩ : ∃ l, l = c.events := ⟨_, rfl⟩
 have HI := hI (show IsEvs w l a n cap by rw [hl]; exact hi)
 rw [<- hl] at HN ⊢
 obtain ⟨R, hR⟩ : ∃ R, R = (l.take i).any fun y => y.number == t := ⟨_, rfl⟩
 rw [<- hR]
 have HR := hI hR
 clear hi hl hR
 unfold ClmArg
 obtain ⟨wa, hwa⟩ : ∃ wa, wa = w.alloc (.cells #[.int .i64 c.id, .int .i64 c.policy, .int .i64 c.risk, .int .i64 c.hour, .int .i64 c.peril, .int .i64 c.area, .slice a n cap] 27) := ⟨_, rfl⟩
 have HXA := hI (show Ext w wa by rw [hwa]; exact (Ext.refl _).alloc _)
 have HB0 := hI (show wa.heap[w.heap.size]? = some (.cells #[.int .i64 c.id, .int .i64 c.policy, .int .i64 c.risk, .int .i64 c.hour, .int .i64 c.peril, .int .i64 c.area, .slice a n cap] 27 (0, 0)) by rw [hwa]; exact alloc_new w _)
 go_enter Tryz.func37, Tryz.ntmps37
 go_upto_region 1 with fail
 rw [<- hwa]
 clear hwa
 go_wp2_with fail
 go_loopw [7] (fun q wr => ∃ k : Nat, q = .int .i64 k /\ k <= i /\ ((l.take k).any fun y => y.number == t) = false /\ Ext wa wr) (fun q _ => i - (intOf q).toNat)
 case atStart => exact ⟨0, rfl, Nat.zero_le _, rfl, Ext.refl _⟩
 case round =>
  obtain ⟨k, rfl, hk, hno, hx⟩ := hrel
  obtain ⟨wo, rfl⟩ : ∃ wo : World, wo = wr := ⟨_, rfl⟩
  have HNO := hI hno
  have HX := hI hx
  obtain ⟨a0, a1, a2, a3, a4, a5, a6, af⟩ := blk7 (hx.blk HB0.out)
  clear hno hx
  by_cases hki : k < i
  ·have hkl : k < l.length := by have := HN.out; omega
   have t1 : decide ((k : Int) < (i : Int)) = true := decide_eq_true (by omega)
   obtain ⟨b, off, v, rfl, hvx, -, hrow⟩ := (HI.out.ext (HXA.out.trans HX.out)).at hkl
   obtain ⟨c0, c1, c2, c3, c4, c5, c6⟩ := hrow.seven
   have HT := hI (show ((l.take (k + 1)).any fun y => y.number == t) = (v.x.number == t) by
    rw [List.take_succ_eq_append_getElem hkl, List.any_append, HNO.out, hvx]; simp)
   have tn0 : (0 : Int) <= (k : Int) := by omega
   have tn1 : (k : Int) < (n : Int) := by omega
   clear hvx hrow c1 c2 c3 c4 c5 c6
   cases hq : (v.x.number == t)
   ·rw [hq] at HT
    go_wp2_with fail
    go_roundw
    case rel => exact ⟨k + 1, by go_num, by omega, HT.out, HX.out⟩
    case measure => simp [intOf]; omega
   rw [hq] at HT
   have HQ := hI (show R = true by
    rw [HR.out, List.any_eq_true]
    obtain ⟨y, hy, he⟩ := List.any_eq_true.1 HT.out
    have : y ∈ l.take i := by
     have h1 : l.take (k + 1) = (l.take i).take (k + 1) := by rw [List.take_take]; congr 1; omega
     rw [h1] at hy
     exact List.mem_of_mem_take hy
    exact ⟨y, this, he⟩)
   go_wp2_with fail
   go_ret
   exact givesE_bool (by rw [HQ.out]) (HXA.out.trans HX.out)
  have t1 : decide ((k : Int) < (i : Int)) = false := decide_eq_false (by omega)
  have HQ := hI (show R = false by rw [HR.out, show i = k by omega]; exact HNO.out)
  go_wp2_with fail
  go_ret
  exact givesE_bool (by rw [HQ.out]) (HXA.out.trans HX.out)
theorem evErr_ref (s : List Attr) (l : List Ev) (x : Ev) : evErr s l x = if inB 1 1048576 x.number = false \/ inB 0 876599 x.known = false then 1 else if orderB l x = true then 13 else if rEvErr s x ≠ 0 then rEvErr s x else if isVoid x = true /\ (l.any fun y => y.number == x.target) = false then 7 else 0 := by
 unfold evErr rEvErr
 by_cases h1 : inB 1 1048576 x.number = false \/ inB 0 876599 x.known = false
 ·rw [if_pos h1, if_pos h1]
 rw [if_neg h1, if_neg h1]
 by_cases h2 : orderB l x = true
 ·rw [if_pos h2, if_pos h2]
 rw [if_neg h2, if_neg h2]
 by_cases h3 : inB 1 7 x.kind = false
 ·rw [if_pos h3, if_pos h3, if_pos (by decide)]
 rw [if_neg h3, if_neg h3]
 by_cases h4 : fieldB x = true
 ·rw [if_pos h4, if_pos h4, if_pos (by decide)]
 rw [if_neg h4, if_neg h4]
 unfold partErr rPart
 by_cases k1 : x.kind = 1 \/ x.kind = 2
 ·have hv : ¬ (isVoid x = true /\ (l.any fun y => y.number == x.target) = false) := fun h => by have := h.1; unfold isVoid at this; simp at this; omega
  rw [if_pos k1, if_pos k1, if_neg hv]
  by_cases hz : (if 64 < x.items.length then 4 else itsErr s x.items) = 0
  ·rw [hz]; simp
  rw [if_pos hz]
 rw [if_neg k1, if_neg k1]
 by_cases k3 : x.kind = 3 \/ x.kind = 4
 ·have hv : ¬ (isVoid x = true /\ (l.any fun y => y.number == x.target) = false) := fun h => by have := h.1; unfold isVoid at this; simp at this; omega
  rw [if_pos k3, if_pos k3, if_neg hv]
  by_cases hz : cashErr x.cur x.amount = 0
  ·rw [hz]; simp
  rw [if_pos hz]
 rw [if_neg k3, if_neg k3, if_neg (show ¬ ((0 : Int) ≠ 0) by simp)]
 by_cases k7 : x.kind = 7
 ·have hv : isVoid x = true := by unfold isVoid; simp [k7]
  rw [if_pos k7]
  cases hb : (l.any fun y => y.number == x.target) <;> simp [hv]
 have hv : isVoid x = false := by unfold isVoid; simp [k7]
 rw [if_neg k7, if_neg (by simp [hv])]
def RClI (s : List Attr) (l : List Ev) (n : Nat) (w : World) (i : Value) (wr : World) : Prop := ∃ k : Nat, i = .int .i64 k /\ k <= n /\ (∀ j (h : j < l.length), j < k -> evErr s (l.take j) l[j] = 0) /\ Ext w wr
theorem orderB_at {l : List Ev} {x : Ev} {p : Nat} (hp : p < l.length) : orderB (l.take (p + 1)) x = (decide (x.number <= l[p].number) || decide (x.known < l[p].known)) := by
 unfold orderB
 have : (l.take (p + 1)).getLast? = some l[p] := by rw [List.take_succ_eq_append_getElem hp, List.getLast?_append]; rfl
 rw [this]
theorem rClaimErr_calls (s : List Attr) (v : Value) (c : Clm) (a : OA) (n cap : Nat) (w : World) (hs : IsSchema w s v) (hf : ∀ x ∈ s, x.fits) (hl : s.length <= 1000000000000000) (hi : IsEvs w c.events a n cap) (hn2 : n <= 1000000000000) (hfew : ∀ x ∈ c.events, fewEv x) :
  Calls Tryz.prog 11 #[v, ClmArg c a n cap] w (GivesE (.int .i64 (clmErr s c)) w) := by
 obtain ⟨sa, sn, sc, rfl, -⟩ := hs.slice
 have HS := hI hs
 have HF := hI hf
 have HL := hI hl
 have HI := hI hi
 have HN := hI hi.len
 have HFEW := hI hfew
 obtain ⟨R, hR⟩ : ∃ R, R = clmErr s c := ⟨_, rfl⟩
 rw [<- hR]
 have HR1 := hI (show schemaErr s ≠ 0 -> R = schemaErr s from fun h => hR.trans (clm_schema h))
 have HR2 := hI (show schemaErr s = 0 -> idsB c = false -> R = 1 from fun h h1 => hR.trans (clm_ids h h1))
 have HR3 := hI (show schemaErr s = 0 -> idsB c = true -> 64 < c.events.length -> R = 4 from fun h h1 h2 => hR.trans (clm_many h h1 h2))
 have HR4 := hI (show schemaErr s = 0 -> idsB c = true -> ¬ 64 < c.events.length -> R = evsErr s c.events from fun h h1 h2 => hR.trans (clm_evs h h1 h2))
 have HID := hI (show idsB c = (inB 1 1048576 c.id && inB 1 1048576 c.policy && inB 1 1048576 c.risk && inB 0 876599 c.hour && inB 0 15 c.peril && inB 0 15 c.area) from rfl)
 have HBF := hI (fun (i : Nat) (t : Int) W (hW : Ext w W) (hin : i <= n) => rBefore_calls c a n cap i t W (hi.ext hW) hin hn2)
 obtain ⟨I1, hI1⟩ : ∃ I1, I1 = inB 1 1048576 c.id := ⟨_, rfl⟩
 obtain ⟨I2, hI2⟩ : ∃ I2, I2 = inB 1 1048576 c.policy := ⟨_, rfl⟩
 obtain ⟨I3, hI3⟩ : ∃ I3, I3 = inB 1 1048576 c.risk := ⟨_, rfl⟩
 obtain ⟨I4, hI4⟩ : ∃ I4, I4 = inB 0 876599 c.hour := ⟨_, rfl⟩
 obtain ⟨I5, hI5⟩ : ∃ I5, I5 = inB 0 15 c.peril := ⟨_, rfl⟩
 obtain ⟨I6, hI6⟩ : ∃ I6, I6 = inB 0 15 c.area := ⟨_, rfl⟩
 have HC1 := hI (fun W => rId_calls c.id W)
 have HC2 := hI (fun W => rId_calls c.policy W)
 have HC3 := hI (fun W => rId_calls c.risk W)
 have HC4 := hI (fun W => (show Calls _ _ _ W (GivesE (.bool (inB 0 876599 c.hour)) W) from rHours_calls c.hour W))
 rw [<- hI1] at HC1 HID
 rw [<- hI2] at HC2 HID
 rw [<- hI3] at HC3 HID
 rw [<- hI4] at HC4 HID
 rw [<- hI5, <- hI6] at HID
 have HI5 := hI hI5
 have HI6 := hI hI6
 unfold ClmArg at HBF ⊢
 clear hs hf hl hi hfew hR hI1 hI2 hI3 hI4 hI5 hI6
 obtain ⟨wa, hwa⟩ : ∃ wa, wa = (w.alloc (.cells #[.slice sa sn sc] 24)).alloc (.cells #[.int .i64 c.id, .int .i64 c.policy, .int .i64 c.risk, .int .i64 c.hour, .int .i64 c.peril, .int .i64 c.area, .slice a n cap] 27) := ⟨_, rfl⟩
 have HXA := hI (show Ext w wa by rw [hwa]; exact ((Ext.refl _).alloc _).alloc _)
 have HB0 := hI (show wa.heap[w.heap.size]? = some (SchBox sa sn sc) by rw [hwa]; exact blk_alloc (alloc_new w _))
 have HB1 := hI (show wa.heap[w.heap.size + 1]? = some (ClmBox c a n cap) by rw [hwa]; have := alloc_new (w.alloc (.cells #[.slice sa sn sc] 24)) (.cells #[.int .i64 c.id, .int .i64 c.policy, .int .i64 c.risk, .int .i64 c.hour, .int .i64 c.peril, .int .i64 c.area, .slice a n cap] 27); rwa [World.size_alloc] at this)
 obtain ⟨s0, sf⟩ := blk1 HB0.out
 go_enter Tryz.func11, Tryz.ntmps11
 go_upto_region 1 with fail
 rw [<- hwa]
 clear hwa
 go_wp2_with fail
 refine (rSchema_calls s _ wa (HS.out.ext HXA.out) HF.out HL.out).mono ?_
 rintro r w1 ⟨rfl, hx1⟩
 have HX1 := hI (HXA.out.trans hx1)
 have HS1 := hI (hx1.blk HB0.out)
 have HB11 := hI (hx1.blk HB1.out)
 clear hx1 s0 sf HB0 HB1
 obtain ⟨E, hE⟩ : ∃ E, E = schemaErr s := ⟨_, rfl⟩
 rw [<- hE] at HR1 HR2 HR3 HR4 ⊢
 clear hE
 by_cases hE0 : E = 0
 case neg =>
  have te : (E != 0) = true := by simp [hE0]
  have HQ := hI (HR1.out hE0)
  clear hE0
  go_wp2_with fail
  go_ret
  exact givesE_of (by rw [HQ.out]) HX1.out
 subst hE0
 have HQ1 := hI (HR2.out rfl)
 have HQ2 := hI (HR3.out rfl)
 have HQ3 := hI (HR4.out rfl)
 clear HR1 HR2 HR3 HR4
 rw [HID.out] at HQ1 HQ2 HQ3
 clear HID
 obtain ⟨a0, a1, a2, a3, a4, a5, a6, af⟩ := blk7 HB11.out
 go_wp2_with fail
 refine (HC1.out _).mono ?_
 rintro r w2 ⟨rfl, hx2⟩
 have HX2 := hI (HX1.out.trans hx2)
 have HS2 := hI (hx2.blk HS1.out)
 have HB2 := hI (hx2.blk HB11.out)
 clear hx2 a0 a1 a2 a3 a4 a5 a6 af
 obtain ⟨a0, a1, a2, a3, a4, a5, a6, af⟩ := blk7 HB2.out
 cases I1
 ·have HQ := hI (HQ1.out (by simp))
  go_wp2_with fail
  go_ret
  exact givesE_of (by rw [HQ.out]) HX2.out
 go_wp2_with fail
 refine (HC2.out _).mono ?_
 rintro r w3 ⟨rfl, hx3⟩
 have HX3 := hI (HX2.out.trans hx3)
 have HS3 := hI (hx3.blk HS2.out)
 have HB3 := hI (hx3.blk HB2.out)
 clear hx3 a0 a1 a2 a3 a4 a5 a6 af
 obtain ⟨a0, a1, a2, a3, a4, a5, a6, af⟩ := blk7 HB3.out
 cases I2
 ·have HQ := hI (HQ1.out (by simp))
  go_wp2_with fail
  go_ret
  exact givesE_of (by rw [HQ.out]) HX3.out
 go_wp2_with fail
 refine (HC3.out _).mono ?_
 rintro r w4 ⟨rfl, hx4⟩
 have HX4 := hI (HX3.out.trans hx4)
 have HS4 := hI (hx4.blk HS3.out)
 have HB4 := hI (hx4.blk HB3.out)
 clear hx4 a0 a1 a2 a3 a4 a5 a6 af
 obtain ⟨a0, a1, a2, a3, a4, a5, a6, af⟩ := blk7 HB4.out
 cases I3
 ·have HQ := hI (HQ1.out (by simp))
  go_wp2_with fail
  go_ret
  exact givesE_of (by rw [HQ.out]) HX4.out
 go_wp2_with fail
 refine (HC4.out _).mono ?_
 rintro r w5 ⟨rfl, hx5⟩
 have HX5 := hI (HX4.out.trans hx5)
 have HS5 := hI (hx5.blk HS4.out)
 have HB5 := hI (hx5.blk HB4.out)
 clear hx5 a0 a1 a2 a3 a4 a5 a6 af
 obtain ⟨a0, a1, a2, a3, a4, a5, a6, af⟩ := blk7 HB5.out
 cases I4
 ·have HQ := hI (HQ1.out (by simp))
  go_wp2_with fail
  go_ret
  exact givesE_of (by rw [HQ.out]) HX5.out
 by_cases p0 : c.peril < 0
 ·have u : decide (c.peril < 0) = true := decide_eq_true p0
  have HQ := hI (HQ1.out (by rw [HI5.out]; unfold inB; simp; omega))
  clear p0
  go_wp2_with fail
  go_ret
  exact givesE_of (by rw [HQ.out]) HX5.out
 have u1 : decide (c.peril < 0) = false := decide_eq_false p0
 by_cases p1 : 15 < c.peril
 ·have u : decide (15 < c.peril) = true := decide_eq_true p1
  have HQ := hI (HQ1.out (by rw [HI5.out]; unfold inB; simp; omega))
  clear p0 p1
  go_wp2_with fail
  go_ret
  exact givesE_of (by rw [HQ.out]) HX5.out
 have u2 : decide (15 < c.peril) = false := decide_eq_false p1
 obtain rfl : I5 = true := by rw [HI5.out]; unfold inB; simp; omega
 by_cases q0 : c.area < 0
 ·have u : decide (c.area < 0) = true := decide_eq_true q0
  have HQ := hI (HQ1.out (by rw [HI6.out]; unfold inB; simp; omega))
  clear p0 p1 q0
  go_wp2_with fail
  go_ret
  exact givesE_of (by rw [HQ.out]) HX5.out
 have u3 : decide (c.area < 0) = false := decide_eq_false q0
 by_cases q1 : 15 < c.area
 ·have u : decide (15 < c.area) = true := decide_eq_true q1
  have HQ := hI (HQ1.out (by rw [HI6.out]; unfold inB; simp; omega))
  clear p0 p1 q0 q1
  go_wp2_with fail
  go_ret
  exact givesE_of (by rw [HQ.out]) HX5.out
 have u4 : decide (15 < c.area) = false := decide_eq_false q1
 obtain rfl : I6 = true := by rw [HI6.out]; unfold inB; simp; omega
 clear p0 p1 q0 q1
 have HQ4 := hI (HQ2.out rfl)
 have HQ5 := hI (HQ3.out rfl)
 clear HQ1 HQ2 HQ3 HI5 HI6
 rw [<- HN.out] at HQ4 HQ5
 by_cases h64 : 64 < n
 ·have u : decide ((64 : Int) < (n : Int)) = true := decide_eq_true (by omega)
  have HQ := hI (HQ4.out h64)
  clear h64
  go_wp2_with fail
  go_ret
  exact givesE_of (by rw [HQ.out]) HX5.out
 have u5 : decide ((64 : Int) < (n : Int)) = false := decide_eq_false (by omega)
 have HRE := hI (HQ5.out h64)
 clear h64 HQ4 HQ5
 go_wp2_with fail
 clear a0 a1 a2 a3 a4 a5 a6 af u1 u2 u3 u4 u5
 go_loopw [6] (RClI s c.events n w5) (fun t _ => n - (intOf t).toNat)
 case atStart => exact ⟨0, rfl, by omega, fun j _ h => by omega, Ext.refl _⟩
 case round =>
  obtain ⟨k, rfl, hk, hno, hx⟩ := hrel
  obtain ⟨wo, rfl⟩ : ∃ wo : World, wo = wr := ⟨_, rfl⟩
  have HNO := hI hno
  have HX := hI hx
  have HBO := hI (hx.blk HB5.out)
  have HSO := hI (hx.blk HS5.out)
  obtain ⟨a0, a1, a2, a3, a4, a5, a6, af⟩ := blk7 HBO.out
  clear hno hx
  by_cases hkn : k < n
  ·have hkl : k < c.events.length := by have := HN.out; omega
   have t1 : decide ((k : Int) < (n : Int)) = true := decide_eq_true (by omega)
   have tk0 : (0 : Int) <= (k : Int) := by omega
   have tk1 : (k : Int) < (n : Int) := by omega
   have HEVS := hI (HI.out.ext (HX5.out.trans HX.out))
   obtain ⟨b, off, ev, hab, hxv, hits, hrow⟩ := HEVS.out.at hkl
   obtain ⟨c0, c1, c2, c3, c4, c5, c6⟩ := hrow.seven
   have HXV := hI hxv
   have HITS := hI (show IsIts wo ev.x.items ev.a ev.n ev.c by rw [hxv]; exact hits)
   have hevn : ev.n <= 1000000000000000 := by
    have h1 := HITS.out.len
    have h2 := (HFEW.out _ (List.getElem_mem hkl)).1
    rw [<- hxv] at h2
    omega
   clear hxv hits hrow
   have HHIT := hI (show evErr s (c.events.take k) c.events[k] ≠ 0 -> R = evErr s (c.events.take k) c.events[k] from fun h => by rw [HRE.out, evsErr_hit hkl (fun j hj hjk => HNO.out j hj hjk) h])
   have HEK := hI (evErr_ref s (c.events.take k) c.events[k])
   obtain ⟨EK, hEK⟩ : ∃ EK, EK = evErr s (c.events.take k) c.events[k] := ⟨_, rfl⟩
   have HKK := hI hEK
   rw [<- hEK] at HHIT HEK
   rw [<- HXV.out] at HEK
   subst hab
   obtain ⟨J1, hJ1⟩ : ∃ J1, J1 = inB 1 1048576 ev.x.number := ⟨_, rfl⟩
   obtain ⟨J2, hJ2⟩ : ∃ J2, J2 = inB 0 876599 ev.x.known := ⟨_, rfl⟩
   have HJ1 := hI (fun W => rId_calls ev.x.number W)
   have HJ2 := hI (fun W => (show Calls _ _ _ W (GivesE (.bool (inB 0 876599 ev.x.known)) W) from rHours_calls ev.x.known W))
   rw [<- hJ1] at HJ1 HEK
   rw [<- hJ2] at HJ2 HEK
   obtain ⟨ORB, hOB⟩ : ∃ ORB, ORB = orderB (c.events.take k) ev.x := ⟨_, rfl⟩
   have HOB := hI hOB
   obtain ⟨F, hF⟩ : ∃ F, F = rEvErr s ev.x := ⟨_, rfl⟩
   obtain ⟨B, hB⟩ : ∃ B, B = (c.events.take k).any fun y => y.number == ev.x.target := ⟨_, rfl⟩
   have HBC := hI (fun W (hW : Ext w W) => HBF.out k ev.x.target W hW (by omega))
   rw [<- hB] at HBC HEK
   rw [<- hOB, <- hF] at HEK
   have HFF := hI hF
   obtain ⟨wb, hwb⟩ : ∃ wb, wb = wo.alloc (.cells #[.int .i64 ev.x.number, .int .i64 ev.x.known, .int .i64 ev.x.kind, .slice ev.a ev.n ev.c, .int .i64 ev.x.cur, .int .i64 ev.x.amount, .int .i64 ev.x.target] 30) := ⟨_, rfl⟩
   have HXB := hI (show Ext wo wb by rw [hwb]; exact (Ext.refl _).alloc _)
   have HEB := hI (show wb.heap[wo.heap.size]? = some (EvBox ev) by rw [hwb]; exact alloc_new wo _)
   clear hEK hJ1 hJ2 hOB hF hB
   go_upto_region 12 with fail
   rw [<- hwb]
   clear hwb c0 c1 c2 c3 c4 c5 c6 a0 a1 a2 a3 a4 a5 a6 af
   obtain ⟨e0, e1, e2, e3, e4, e5, e6, ef⟩ := blk7 HEB.out
   go_wp2_with fail
   refine (HJ1.out _).mono ?_
   rintro r w6 ⟨rfl, hx6⟩
   have HX6 := hI (HXB.out.trans hx6)
   have HE6 := hI (hx6.blk HEB.out)
   clear hx6 e0 e1 e2 e3 e4 e5 e6 ef
   obtain ⟨e0, e1, e2, e3, e4, e5, e6, ef⟩ := blk7 HE6.out
   cases J1
   ·have h1 := HEK.out
    rw [if_pos (Or.inl rfl)] at h1
    have HQ := hI (show R = 1 by rw [HHIT.out (by rw [h1]; decide), h1])
    clear h1
    go_wp2_with fail
    go_ret
    exact givesE_of (by rw [HQ.out]) ((HX5.out.trans HX.out).trans HX6.out)
   go_wp2_with fail
   refine (HJ2.out _).mono ?_
   rintro r w7 ⟨rfl, hx7⟩
   have HX7 := hI (HX6.out.trans hx7)
   have HE7 := hI (hx7.blk HE6.out)
   have HC7 := hI (HX7.out.blk HBO.out)
   have HXW7 := hI ((HX5.out.trans HX.out).trans HX7.out)
   clear hx7 e0 e1 e2 e3 e4 e5 e6 ef
   obtain ⟨e0, e1, e2, e3, e4, e5, e6, ef⟩ := blk7 HE7.out
   obtain ⟨a0, a1, a2, a3, a4, a5, a6, af⟩ := blk7 HC7.out
   cases J2
   ·have h1 := HEK.out
    rw [if_pos (Or.inr rfl)] at h1
    have HQ := hI (show R = 1 by rw [HHIT.out (by rw [h1]; decide), h1])
    clear h1
    go_wp2_with fail
    go_ret
    exact givesE_of (by rw [HQ.out]) HXW7.out
   have h1 := HEK.out
   rw [if_neg (by simp)] at h1
   have HEK2 := hI h1
   clear h1 HEK HJ1 HJ2
   go_upto_region 14 with fail
   go_cut [107] (fun s107 wx => s107 = .bool ORB /\ Ext w7 wx)
   case first =>
    rcases Nat.eq_zero_or_pos k with hk0 | hk0
    ·have tz : decide (0 < k) = false := decide_eq_false (by omega)
     have HO := hI (show ORB = false by rw [HOB.out, hk0]; rfl)
     clear hk0
     go_wp2_with fail
     go_quiet (fail)
     go_wp2_with fail
     go_meet
     case rel => exact ⟨by rw [HO.out], (Ext.refl w7).drewN _⟩
    obtain ⟨p, rfl⟩ : ∃ p, k = p + 1 := ⟨k - 1, by omega⟩
    have hpl : p < c.events.length := by omega
    have HO := hI (show ORB = (decide (ev.x.number <= c.events[p].number) || decide (ev.x.known < c.events[p].known)) by rw [HOB.out]; exact orderB_at hpl)
    obtain ⟨b', off', yv, he, hyv, -, hyr⟩ := (HI.out.ext HXW7.out).at hpl
    simp only [Option.some.injEq, Addr.mk.injEq, and_true] at he
    obtain ⟨rfl, rfl⟩ := he
    obtain ⟨d0, d1, d2, d3, d4, d5, d6⟩ := hyr.seven
    rw [<- hyv] at HO
    have tz : decide ((0 : Int) < ((p + 1 : Nat) : Int)) = true := decide_eq_true (by omega)
    have tp : ((p + 1 : Nat) : Int) - 1 = (p : Int) := by omega
    have tp0 : (0 : Int) <= (p : Int) := by omega
    have tp1 : (p : Int) < (n : Int) := by omega
    clear hk0 hyv hyr
    by_cases h1 : ev.x.number <= yv.x.number
    ·have q1 : decide (ev.x.number <= yv.x.number) = true := decide_eq_true h1
     rw [q1] at HO
     clear h1
     go_wp2_with fail
     go_quiet (fail)
     go_wp2_with fail
     go_meet
     case rel => exact ⟨by rw [HO.out]; rfl, (Ext.refl w7).drewN _⟩
    have q1 : decide (ev.x.number <= yv.x.number) = false := decide_eq_false h1
    clear h1
    by_cases h2 : ev.x.known < yv.x.known
    ·have q2 : decide (ev.x.known < yv.x.known) = true := decide_eq_true h2
     rw [q1, q2] at HO
     clear h2
     go_wp2_with fail
     go_quiet (fail)
     go_wp2_with fail
     go_meet
     case rel => exact ⟨by rw [HO.out]; rfl, (Ext.refl w7).drewN _⟩
    have q2 : decide (ev.x.known < yv.x.known) = false := decide_eq_false h2
    rw [q1, q2] at HO
    clear h2
    go_wp2_with fail
    go_quiet (fail)
    go_wp2_with fail
    go_meet
    case rel => exact ⟨by rw [HO.out]; rfl, (Ext.refl w7).drewN _⟩
   case rest =>
   obtain ⟨rfl, hxc⟩ := hcut
   obtain ⟨w8, rfl⟩ : ∃ W : World, W = wc := ⟨_, rfl⟩
   have HX8 := hI (HXW7.out.trans hxc)
   have HXX8 := hI (HX7.out.trans hxc)
   have HE8 := hI (hxc.blk HE7.out)
   have HC8 := hI (hxc.blk HC7.out)
   have HS8 := hI ((HX7.out.trans hxc).blk HSO.out)
   clear hxc HOB e0 e1 e2 e3 e4 e5 e6 ef a0 a1 a2 a3 a4 a5 a6 af
   obtain ⟨e0, e1, e2, e3, e4, e5, e6, ef⟩ := blk7 HE8.out
   obtain ⟨s0, sf⟩ := blk1 HS8.out
   cases ORB
   case true =>
    have h1 := HEK2.out
    rw [if_pos rfl] at h1
    have HQ := hI (show R = 13 by rw [HHIT.out (by rw [h1]; decide), h1])
    clear h1
    go_wp2_with fail
    go_ret
    exact givesE_of (by rw [HQ.out]) HX8.out
   have h1 := HEK2.out
   rw [if_neg (by simp)] at h1
   have HEK3 := hI h1
   have HEC := hI (rEvent_calls s _ ev w8 (HS.out.ext HX8.out) HF.out HL.out (HITS.out.ext HXX8.out) hevn)
   rw [<- HFF.out] at HEC
   unfold EvV.val at HEC
   clear h1 HEK2 HFF
   go_wp2_with fail
   refine HEC.out.mono ?_
   rintro r w9 ⟨rfl, hx9⟩
   have HX9 := hI (HX8.out.trans hx9)
   have HXX9 := hI (HXX8.out.trans hx9)
   have HE9 := hI (hx9.blk HE8.out)
   have HC9 := hI (hx9.blk HC8.out)
   clear hx9 HEC e0 e1 e2 e3 e4 e5 e6 ef s0 sf
   obtain ⟨e0, e1, e2, e3, e4, e5, e6, ef⟩ := blk7 HE9.out
   obtain ⟨a0, a1, a2, a3, a4, a5, a6, af⟩ := blk7 HC9.out
   by_cases hF0 : F = 0
   case neg =>
    have te : (F != 0) = true := by simp [hF0]
    have h1 := HEK3.out
    rw [if_pos hF0] at h1
    have HQ := hI (show R = F by rw [HHIT.out (by rw [h1]; exact hF0), h1])
    clear h1 hF0
    go_wp2_with fail
    go_ret
    exact givesE_of (by rw [HQ.out]) HX9.out
   subst hF0
   have h1 := HEK3.out
   rw [if_neg (show ¬ ((0 : Int) ≠ 0) by simp)] at h1
   have HEK4 := hI h1
   clear h1 HEK3
   have HNEXT := hI (show EK = 0 -> ∀ j (h : j < c.events.length), j < k + 1 -> evErr s (c.events.take j) c.events[j] = 0 from fun h0 j hj hjk => by
    by_cases e : j = k
    ·subst e; rw [<- HKK.out]; exact h0
    exact HNO.out j hj (by omega))
   cases k7 : (ev.x.kind == 7)
   ·have HQ := hI (show EK = 0 by rw [HEK4.out, if_neg (by unfold isVoid; rw [k7]; simp)])
    go_wp2_with fail
    go_roundw
    case rel => exact ⟨k + 1, by go_num, by omega, HNEXT.out HQ.out, HX.out.trans HXX9.out⟩
    case measure => simp [intOf]; omega
   have HV7 := hI (show isVoid ev.x = true from k7)
   go_wp2_with fail
   refine (HBC.out w9 HX9.out).mono ?_
   rintro r w10 ⟨rfl, hx10⟩
   have HX10 := hI (HX9.out.trans hx10)
   have HXX10 := hI (HXX9.out.trans hx10)
   clear hx10
   cases B
   ·have h1 := HEK4.out
    rw [if_pos ⟨HV7.out, rfl⟩] at h1
    have HQ := hI (show R = 7 by rw [HHIT.out (by rw [h1]; decide), h1])
    clear h1
    go_wp2_with fail
    go_ret
    exact givesE_of (by rw [HQ.out]) HX10.out
   have HQ := hI (show EK = 0 by rw [HEK4.out, if_neg (by simp)])
   go_wp2_with fail
   go_roundw
   case rel => exact ⟨k + 1, by go_num, by omega, HNEXT.out HQ.out, HX.out.trans HXX10.out⟩
   case measure => simp [intOf]; omega
  have t1 : decide ((k : Int) < (n : Int)) = false := decide_eq_false (by omega)
  have HQ := hI (show R = 0 by rw [HRE.out, evsErr_zero (fun j hj => HNO.out j hj (by have := HN.out; omega))])
  go_wp2_with fail
  go_ret
  exact givesE_of (by rw [HQ.out]) (HX5.out.trans HX.out)
theorem it_flatC (l : List ItV) : (l.flatMap ItV.cells).length = l.length * 4 := by
 have := length_flatMap_of ItV.cells 4 (fun _ => rfl) l
 omega
theorem it_srcC {w : World} {l : List ItV} {a : OA} {n c : Nat} (h : IsRows w 4 ItV.cells l a n c) : 0 < n -> ∃ b off, a = some ⟨b, off, none⟩ /\ ∀ j (hj : j < (l.flatMap ItV.cells).length), w.cell? ⟨b, off + j, none⟩ = some (l.flatMap ItV.cells)[j] := by
 intro hn
 have hl : 0 < l.length := by have := h.1; omega
 obtain ⟨b, off, rfl, _⟩ := h.2.2.2 0 hl
 refine ⟨b, off, rfl, fun j hj => ?_⟩
 have hlen := it_flatC l
 have hi : j / 4 < l.length := by omega
 obtain ⟨b', off', e3, hc⟩ := h.2.2.2 (j / 4) hi
 simp only [Option.some.injEq, Addr.mk.injEq, and_true] at e3
 obtain ⟨rfl, rfl⟩ := e3
 have h6 := hc (j % 4) (by rw [ItV.len]; omega)
 have e4 : off + j / 4 * 4 + j % 4 = off + j := by omega
 rw [e4] at h6
 rw [h6]
 have := flatMap_at ItV.cells 4 (fun _ => rfl) l (j / 4) hi (j % 4) (by rw [ItV.len]; omega)
 rw [show j / 4 * 4 + j % 4 = j by omega, List.getElem?_eq_getElem hj] at this
 exact this.symm
theorem it_onesC (l : List ItV) : ∀ u ∈ l.flatMap ItV.cells, u.oneCell' = true := by
 intro u hu
 obtain ⟨x, _, hx⟩ := List.mem_flatMap.1 hu
 simp only [ItV.cells, List.mem_cons, List.not_mem_nil, or_false] at hx
 rcases hx with rfl | rfl | rfl | rfl <;> rfl
theorem ev_flatC (l : List EvV) : (l.flatMap EvV.cells).length = l.length * 7 := by
 have := length_flatMap_of EvV.cells 7 (fun _ => rfl) l
 omega
theorem ev_srcC {w : World} {l : List EvV} {b off n c : Nat} (h : IsRows w 7 EvV.cells l (some ⟨b, off, none⟩) n c) : ∀ j (hj : j < (l.flatMap EvV.cells).length), w.cell? ⟨b, off + j, none⟩ = some (l.flatMap EvV.cells)[j] := by
 intro j hj
 have hlen := ev_flatC l
 have hi : j / 7 < l.length := by omega
 obtain ⟨b', off', e3, hc⟩ := h.2.2.2 (j / 7) hi
 simp only [Option.some.injEq, Addr.mk.injEq, and_true] at e3
 obtain ⟨rfl, rfl⟩ := e3
 have h6 := hc (j % 7) (by rw [EvV.len]; omega)
 have e4 : off + j / 7 * 7 + j % 7 = off + j := by omega
 rw [e4] at h6
 rw [h6]
 have := flatMap_at EvV.cells 7 (fun _ => rfl) l (j / 7) hi (j % 7) (by rw [EvV.len]; omega)
 rw [show j / 7 * 7 + j % 7 = j by omega, List.getElem?_eq_getElem hj] at this
 exact this.symm
theorem ev_onesC (l : List EvV) : ∀ u ∈ l.flatMap EvV.cells, u.oneCell' = true := by
 intro u hu
 obtain ⟨x, _, hx⟩ := List.mem_flatMap.1 hu
 simp only [EvV.cells, List.mem_cons, List.not_mem_nil, or_false] at hx
 rcases hx with rfl | rfl | rfl | rfl | rfl | rfl | rfl <;> rfl
theorem sub_maskD {w w' : World} {M : ZN} (h : Ext w w') (hM : ∀ k ∈ M, w.heap.size <= k) : Sub w (mask w' M) := fun p v hp => by
 rw [mask_cell, if_neg (fun hm => by have := hM _ hm; have := block_lt hp; omega)]
 exact h.cell hp
def put7at (w : World) (B o : Nat) (v0 v1 v2 v3 v4 v5 v6 : Value) : World := ((((((w.setCell ⟨B, o, none⟩ v0).setCell ⟨B, o + 1, none⟩ v1).setCell ⟨B, o + 2, none⟩ v2).setCell ⟨B, o + 3, none⟩ v3).setCell ⟨B, o + 4, none⟩ v4).setCell ⟨B, o + 5, none⟩ v5).setCell ⟨B, o + 6, none⟩ v6
theorem put7at_chg (w : World) (B o : Nat) {v0 v1 v2 v3 v4 v5 v6 : Value} : Chg [B] w (put7at w B o v0 v1 v2 v3 v4 v5 v6) := by
 unfold put7at
 repeat (with_reducible (refine Chg.setCell ?_ ?_ _))
 exact Chg.refl _ _
 all_goals exact Or.inl (by simp)
theorem cells_set7 : (VS : List EvV) -> (k : Nat) -> (u : EvV) -> k < VS.length -> (((((((VS.flatMap EvV.cells).set (k * 7) (.int .i64 u.x.number)).set (k * 7 + 1) (.int .i64 u.x.known)).set (k * 7 + 2) (.int .i64 u.x.kind)).set (k * 7 + 3) (.slice u.a u.n u.c)).set (k * 7 + 4) (.int .i64 u.x.cur)).set (k * 7 + 5) (.int .i64 u.x.amount)).set (k * 7 + 6) (.int .i64 u.x.target) = (VS.set k u).flatMap EvV.cells
 | [], k, _, hk => by simp at hk
 | v :: r, 0, u, _ => by simp [EvV.cells]
 | v :: r, k + 1, u, hk => by
  have ih := cells_set7 r k u (by simpa using hk)
  have e : ∀ j, (k + 1) * 7 + j = v.cells.length + (k * 7 + j) := fun j => by rw [EvV.len]; omega
  have e0 : (k + 1) * 7 = v.cells.length + k * 7 := by rw [EvV.len]; omega
  rw [List.flatMap_cons, List.set_cons_succ, List.flatMap_cons, <- ih, e, e, e, e, e, e, e0]
  simp only [List.set_append_right _ _ (Nat.le_add_right _ _), Nat.add_sub_cancel_left]
theorem own_set7 {W : World} {base n g cap k : Nat} {VS : List EvV} {u : EvV} (h : W.ownsRow base 30 7 (.slice (some ⟨g, 0, none⟩) n cap) n (VS.flatMap EvV.cells)) (hk : k < VS.length) :
  (put7at W g (k * 7) (.int .i64 u.x.number) (.int .i64 u.x.known) (.int .i64 u.x.kind) (.slice u.a u.n u.c) (.int .i64 u.x.cur) (.int .i64 u.x.amount) (.int .i64 u.x.target)).ownsRow base 30 7 (.slice (some ⟨g, 0, none⟩) n cap) n ((VS.set k u).flatMap EvV.cells) := by
 obtain ⟨h0, h1⟩ := h
 rcases h1 with ⟨h1, _⟩ | ⟨g', cap', cur, e, r1, r2, r3, r4, r5, r6⟩
 ·cases h1
 injection e with e1 e2 e3
 injection e1 with e1
 injection e1 with e1
 subst e1 e3
 have hs := heap_setCell_same _ g (k * 7 + 6) _ _ (.int .i64 u.x.target) (heap_setCell_same _ g (k * 7 + 5) _ _ (.int .i64 u.x.amount) (heap_setCell_same _ g (k * 7 + 4) _ _ (.int .i64 u.x.cur) (heap_setCell_same _ g (k * 7 + 3) _ _ (.slice u.a u.n u.c) (heap_setCell_same _ g (k * 7 + 2) _ _ (.int .i64 u.x.kind) (heap_setCell_same _ g (k * 7 + 1) _ _ (.int .i64 u.x.known) (heap_setCell_same W g (k * 7) cur _ (.int .i64 u.x.number) r2))))))
 refine ⟨by rw [ev_flatC, List.length_set, <- ev_flatC]; exact h0, Or.inr ⟨g, cap, _, rfl, r1, hs, r3, r4, by simpa using r5, ?_⟩⟩
 simp only [Array.toList_setIfInBounds, List.take_set, r6]
 exact cells_set7 VS k u hk
def SptQ (M : ZN) (w0 w : World) (bd : Nat) (e : Ending) (w' : World) : Prop := ∃ (c' : Clm) (a : OA) (n cap : Nat), e = .returned (ClmArg c' a n cap) /\ IsEvs (mask w' M) c'.events a n cap /\ c'.events.length <= 100 /\ (∀ y ∈ c'.events, fewEv y) /\ Ext w0 w' /\ Chg [bd] w w'
structure Spt (w0 w : World) (bd b3 b5 b6 b9 g en cap : Nat) (ea : OA) (ec : Nat) (VS : List EvV) (xv : EvV) (M : ZN) (C : Clm) (u : EvV) (W : World) : Prop where
 deck : DeckAt w0 W bd
 chg : Chg [bd] w W
 hc : W.heap[b3]? = some (ClmBox C ea en ec)
 hx : W.heap[b5]? = some (EvBox xv)
 hz : W.heap[b6]? = some (ClmO 0 0 0 0 0 0 (.slice none 0 0))
 hy : W.heap[b9]? = some (EvBox u)
 own : W.ownsRow w0.heap.size 30 7 (.slice (some ⟨g, 0, none⟩) en cap) en (VS.flatMap EvV.cells)
 its : IsIts (mask W (b3 :: b6 :: b9 :: g :: bd :: M)) u.x.items u.a u.n u.c
 few : fewEv u.x
structure SptD (w0 w : World) (bd b3 b5 b6 b9 g : Nat) : Prop where
 m3 : w.heap.size <= b3 /\ w.heap.size <= b6 /\ w.heap.size <= b9 /\ w.heap.size <= g
 l3 : w0.heap.size <= b3
 l5 : w0.heap.size <= b5
 l6 : w0.heap.size <= b6
 l9 : w0.heap.size <= b9
 lg : w0.heap.size <= g
 n3 : b3 ≠ bd /\ b5 ≠ bd /\ b6 ≠ bd /\ b9 ≠ bd /\ g ≠ bd
 n35 : b3 ≠ b5 /\ b3 ≠ b6 /\ b3 ≠ b9 /\ b3 ≠ g
 n5 : b5 ≠ b6 /\ b5 ≠ b9 /\ b5 ≠ g
 n6 : b6 ≠ b9 /\ b6 ≠ g /\ b9 ≠ g
theorem mask_step' {W W' : World} {b : Nat} {N : ZN} (h : Chg [b] W W') (hb : b ∈ N) : Sub (mask W N) (mask W' N) := mask_sub_mask fun k hk hn => ⟨hn, h.block k hk fun hm => hn (by simp only [List.mem_singleton] at hm; rw [hm]; exact hb)⟩
theorem Spt.keep {w0 w W : World} {bd b3 b5 b6 b9 g en cap : Nat} {ea : OA} {ec : Nat} {VS : List EvV} {xv : EvV} {M : ZN} {C : Clm} {u : EvV} {C' : Clm} {u' : EvV} {W' : World} {N : ZN} (h : Spt w0 w bd b3 b5 b6 b9 g en cap ea ec VS xv M C u W) (hc : Chg N W W') (hN : b5 ∉ N /\ b6 ∉ N /\ g ∉ N) (hcw : ∀ x ∈ N, x = bd \/ w.heap.size <= x) (hd : DeckAt w0 W' bd) (h3 : W'.heap[b3]? = some (ClmBox C' ea en ec)) (hy : W'.heap[b9]? = some (EvBox u')) (hi : IsIts (mask W' (b3 :: b6 :: b9 :: g :: bd :: M)) u'.x.items u'.a u'.n u'.c) (hf : fewEv u'.x) : Spt w0 w bd b3 b5 b6 b9 g en cap ea ec VS xv M C' u' W' :=
 ⟨hd, h.chg.trans hc (fun x hx => by rcases hcw x hx with e | e; exact Or.inl (by simp [e]); exact Or.inr e), h3, hc.blk h.hx hN.1, hc.blk h.hz hN.2.1, hy, owns_chg h.own hc (fun k hk => by simp only [Value.ownBlock, Option.some.injEq] at hk; rw [<- hk]; exact hN.2.2), hi, hf⟩
theorem Spt.draw {w0 w W : World} {bd b3 b5 b6 b9 g en cap : Nat} {ea : OA} {ec : Nat} {VS : List EvV} {xv : EvV} {M : ZN} {C : Clm} {u : EvV} {W' : World} (h : Spt w0 w bd b3 b5 b6 b9 g en cap ea ec VS xv M C u W) (hD : SptD w0 w bd b3 b5 b6 b9 g) (hc : Chg [bd] W W') (hd : DeckAt w0 W' bd) : Spt w0 w bd b3 b5 b6 b9 g en cap ea ec VS xv M C u W' := by
 have h1 := hD.n3
 exact h.keep hc (by simp; omega) (by simp) hd (hc.blk h.hc (by simp; omega)) (hc.blk h.hy (by simp; omega)) (h.its.mono (mask_step hc (by simp))) h.few
theorem Spt.more {w0 w W : World} {bd b3 b5 b6 b9 g en cap : Nat} {ea : OA} {ec : Nat} {VS : List EvV} {xv : EvV} {M : ZN} {C : Clm} {u : EvV} {W' : World} (h : Spt w0 w bd b3 b5 b6 b9 g en cap ea ec VS xv M C u W) (hx : Ext W W') : Spt w0 w bd b3 b5 b6 b9 g en cap ea ec VS xv M C u W' :=
 h.keep (hx.chg []) (by simp) (by simp) (h.deck.ext hx) (hx.blk h.hc) (hx.blk h.hy) (h.its.mono (mask_sub_mask fun k hk hn => ⟨hn, hx.block k hk⟩)) h.few
theorem Spt.field {w0 w W : World} {bd b3 b5 b6 b9 g en cap : Nat} {ea : OA} {ec : Nat} {VS : List EvV} {xv : EvV} {M : ZN} {C : Clm} {u : EvV} {u' : EvV} {j : Nat} {v : Value} (h : Spt w0 w bd b3 b5 b6 b9 g en cap ea ec VS xv M C u W) (hD : SptD w0 w bd b3 b5 b6 b9 g) (hs : (#[.int .i64 u.x.number, .int .i64 u.x.known, .int .i64 u.x.kind, .slice u.a u.n u.c, .int .i64 u.x.cur, .int .i64 u.x.amount, .int .i64 u.x.target] : Array Value).setIfInBounds j v = #[.int .i64 u'.x.number, .int .i64 u'.x.known, .int .i64 u'.x.kind, .slice u'.a u'.n u'.c, .int .i64 u'.x.cur, .int .i64 u'.x.amount, .int .i64 u'.x.target]) (hi : IsIts (mask W (b3 :: b6 :: b9 :: g :: bd :: M)) u'.x.items u'.a u'.n u'.c) (hf : fewEv u'.x) : Spt w0 w bd b3 b5 b6 b9 g en cap ea ec VS xv M C u' (W.setCell ⟨b9, j, none⟩ v) := by
 have h1 := hD.n3
 have h2 := hD.n35
 have h3 := hD.n5
 have h4 := hD.n6
 have hc : Chg [b9] W (W.setCell ⟨b9, j, none⟩ v) := (Chg.refl [b9] _).setCell (Or.inl (by simp)) v
 have hy : (W.setCell ⟨b9, j, none⟩ v).heap[b9]? = some (EvBox u') := by
  have hy := h.hy
  unfold EvBox at hy
  rw [heap_setCell_same _ _ _ _ _ _ hy, hs]
  rfl
 exact h.keep hc (by simp; omega) (by have := hD.m3; simp; omega) (h.deck.chg hc (by simp; omega) (by simp; exact hD.l9)) (hc.blk h.hc (by simp; omega)) hy (hi.mono (mask_step' hc (by simp))) hf
theorem Spt.cfield {w0 w W : World} {bd b3 b5 b6 b9 g en cap : Nat} {ea : OA} {ec : Nat} {VS : List EvV} {xv : EvV} {M : ZN} {C : Clm} {u : EvV} {C' : Clm} {j : Nat} {v : Value} (h : Spt w0 w bd b3 b5 b6 b9 g en cap ea ec VS xv M C u W) (hD : SptD w0 w bd b3 b5 b6 b9 g) (hs : (#[.int .i64 C.id, .int .i64 C.policy, .int .i64 C.risk, .int .i64 C.hour, .int .i64 C.peril, .int .i64 C.area, .slice ea en ec] : Array Value).setIfInBounds j v = #[.int .i64 C'.id, .int .i64 C'.policy, .int .i64 C'.risk, .int .i64 C'.hour, .int .i64 C'.peril, .int .i64 C'.area, .slice ea en ec]) : Spt w0 w bd b3 b5 b6 b9 g en cap ea ec VS xv M C' u (W.setCell ⟨b3, j, none⟩ v) := by
 have h1 := hD.n3
 have h2 := hD.n35
 have h3 := hD.n5
 have h4 := hD.n6
 have hc : Chg [b3] W (W.setCell ⟨b3, j, none⟩ v) := (Chg.refl [b3] _).setCell (Or.inl (by simp)) v
 have hb : (W.setCell ⟨b3, j, none⟩ v).heap[b3]? = some (ClmBox C' ea en ec) := by
  have hy := h.hc
  unfold ClmBox at hy
  rw [heap_setCell_same _ _ _ _ _ _ hy, hs]
  rfl
 exact h.keep hc (by simp; omega) (by have := hD.m3; simp; omega) (h.deck.chg hc (by simp; omega) (by simp; exact hD.l3)) hb (hc.blk h.hy (by simp; omega)) (h.its.mono (mask_step' hc (by simp))) h.few
theorem Spt.put {w0 w W : World} {bd b3 b5 b6 b9 g en cap : Nat} {ea : OA} {ec : Nat} {VS : List EvV} {xv : EvV} {M : ZN} {C : Clm} {u : EvV} (h : Spt w0 w bd b3 b5 b6 b9 g en cap ea ec VS xv M C u W) (hD : SptD w0 w bd b3 b5 b6 b9 g) (hi : IsIts (mask W (b3 :: b6 :: b9 :: g :: bd :: M)) xv.x.items xv.a xv.n xv.c) (hf : fewEv xv.x) : Spt w0 w bd b3 b5 b6 b9 g en cap ea ec VS xv M C xv (put7 W b9 (.int .i64 xv.x.number) (.int .i64 xv.x.known) (.int .i64 xv.x.kind) (.slice xv.a xv.n xv.c) (.int .i64 xv.x.cur) (.int .i64 xv.x.amount) (.int .i64 xv.x.target)) := by
 have h1 := hD.n3
 have h2 := hD.n35
 have h3 := hD.n5
 have h4 := hD.n6
 have hc := put7_chg W b9 (v0 := .int .i64 xv.x.number) (v1 := .int .i64 xv.x.known) (v2 := .int .i64 xv.x.kind) (v3 := .slice xv.a xv.n xv.c) (v4 := .int .i64 xv.x.cur) (v5 := .int .i64 xv.x.amount) (v6 := .int .i64 xv.x.target)
 exact h.keep hc (by simp; omega) (by have := hD.m3; simp; omega) (h.deck.chg hc (by simp; omega) (by simp; exact hD.l9)) (hc.blk h.hc (by simp; omega)) (put7_blk h.hy) (hi.mono (mask_step' hc (by simp))) hf
theorem spoilt_calls (c : Clm) (a : OA) (en ec : Nat) (xv : EvV) {w0 w : World} {bd : Nat} (hd : DeckAt w0 w bd) (hi : IsEvs w0 c.events a en ec) (hx : IsIts w0 xv.x.items xv.a xv.n xv.c) (he1 : 0 < en) (he2 : en <= 100) (hf : ∀ y ∈ c.events, fewEv y /\ y.items.length <= 1000) (hfx : fewEv xv.x /\ xv.x.items.length <= 1000) (M : ZN) (hM : ∀ y ∈ M, w0.heap.size <= y /\ y < w.heap.size) :
  Calls Tryz.prog 8 #[ClmArg c a en ec, .pointer (some ⟨bd, 0, none⟩), xv.val] w (SptQ M w0 w bd) := by
 have HN := hI hi.len
 have HM := hI hM
 clear hM
 obtain ⟨vs, hrows, hvs, hits⟩ := hi
 have hxw : Ext w0 w := by obtain ⟨_, _, _, _, _, _, _, _, hx, _⟩ := hd; exact hx
 have h0d : w0.heap.size <= bd := by obtain ⟨_, _, _, _, _, _, _, _, _, h⟩ := hd; exact h
 have hbd : bd < w.heap.size := hd.lt
 have hzw := hxw.size
 have hvl : vs.length = en := hrows.1.symm
 obtain ⟨gb, go, rfl, -⟩ := rows_seven hrows (k := 0) (by omega)
 have HROWS := hI hrows
 have HVS := hI hvs
 have HITS := hI hits
 have HXI := hI hx
 have HF := hI hf
 have HFX := hI hfx
 have HD := hI hd
 have HXW := hI hxw
 have HLEN := hI (show (vs.flatMap EvV.cells).length = en * 7 by rw [ev_flatC, hvl])
 have HVL := hI hvl
 have HONE := hI (ev_onesC vs)
 clear hrows hvs hits hx hf hfx hd hxw
 unfold ClmArg EvV.val
 obtain ⟨wa, hwa⟩ : ∃ wa, wa = ((w.alloc (.cells #[.int .i64 c.id, .int .i64 c.policy, .int .i64 c.risk, .int .i64 c.hour, .int .i64 c.peril, .int .i64 c.area, .slice (some ⟨gb, go, none⟩) en ec] 27)).alloc (.cells #[.int .i64 xv.x.number, .int .i64 xv.x.known, .int .i64 xv.x.kind, .slice xv.a xv.n xv.c, .int .i64 xv.x.cur, .int .i64 xv.x.amount, .int .i64 xv.x.target] 30)).alloc (.cells #[.int .i64 0, .int .i64 0, .int .i64 0, .int .i64 0, .int .i64 0, .int .i64 0, .slice none 0 0] 27) := ⟨_, rfl⟩
 have HXA := hI (show Ext w wa by rw [hwa]; exact (((Ext.refl _).alloc _).alloc _).alloc _)
 have HA3 := hI (show wa.heap[w.heap.size]? = some (ClmBox c (some ⟨gb, go, none⟩) en ec) by rw [hwa]; exact blk_alloc (blk_alloc (alloc_new w _)))
 have HA5 := hI (show wa.heap[w.heap.size + 1]? = some (EvBox xv) by rw [hwa]; exact blk_alloc (by have := alloc_new (w.alloc (.cells #[.int .i64 c.id, .int .i64 c.policy, .int .i64 c.risk, .int .i64 c.hour, .int .i64 c.peril, .int .i64 c.area, .slice (some ⟨gb, go, none⟩) en ec] 27)) (.cells #[.int .i64 xv.x.number, .int .i64 xv.x.known, .int .i64 xv.x.kind, .slice xv.a xv.n xv.c, .int .i64 xv.x.cur, .int .i64 xv.x.amount, .int .i64 xv.x.target] 30); rwa [World.size_alloc] at this))
 have HA6 := hI (show wa.heap[w.heap.size + 1 + 1]? = some (ClmO 0 0 0 0 0 0 (.slice none 0 0)) by rw [hwa]; exact alloc_at (by simp))
 have hza : w.heap.size + 1 + 1 < wa.heap.size := blk_lt HA6.out
 have hz30 : w.heap.size < wa.heap.size := by omega
 obtain ⟨b0, b1, b2, b3', b4, b5, b6, bf⟩ := blk7 HA3.out
 go_enter Tryz.func8, Tryz.ntmps8
 go_upto_region 1 with fail
 rw [<- hwa]
 clear hwa
 have HOWN := hI (show (wa.alloc (.cells #[] 30)).ownsRow wa.heap.size 30 7 (.slice (some ⟨wa.heap.size, 0, none⟩) 0 0) 0 [] from ⟨rfl, Or.inr ⟨wa.heap.size, 0, #[], rfl, Nat.le_refl _, alloc_new wa _, Nat.le_refl _, by unfold maxLen; omega, rfl, rfl⟩⟩)
 have HSRC := hI (fun j (hj : j < (vs.flatMap EvV.cells).length) => (HXW.out.trans (HXA.out.trans ((Ext.refl wa).alloc (.cells #[] 30)))).cell (ev_srcC HROWS.out j hj))
 go_wp2_with (at_builtin; refine wpList_append_all elemEv rfl _ _ rfl wa.heap.size _ 0 [] rfl HOWN.out (some ⟨gb, go, none⟩) en ec (vs.flatMap EvV.cells) rfl HLEN.out ?f0 HONE.out (by omega) (by omega) ?f1 ?_)
 case f0 => exact fun _ => ⟨gb, go, rfl, HSRC.out⟩
 case f1 => simp
 intro v1 w1 hown1 hg1 hb1
 have HX1 := hI (show Ext wa w1 from ((Ext.refl wa).alloc _).grown hg1 (fun k hk => by simp [Value.ownBlock] at hk; omega))
 replace hown1 : w1.ownsRow wa.heap.size 30 7 v1 en (vs.flatMap EvV.cells) := by simpa using hown1
 obtain ⟨g1, cap, rfl⟩ : ∃ g1 cap, v1 = .slice (some ⟨g1, 0, none⟩) en cap := by
  rcases hown1.2 with ⟨_, h⟩ | ⟨g, cap, cur, e, _⟩
  ·omega
  exact ⟨g, cap, e⟩
 have HO1 := hI hown1
 have HD1 := hI ((HD.out.ext HXA.out).ext HX1.out)
 have hgl := (hown1.lt g1 rfl)
 clear hown1 hg1 hb1 HOWN HSRC b0 b1 b2 b3' b4 b5 b6 bf
 go_wp2_with fail
 refine (next_calls HD1.out en (by omega) (by omega)).mono ?_
 rintro r w2 ⟨k, rfl, hk0, hk1, hd2, hc2⟩
 have HD2 := hI hd2
 have HC2 := hI hc2
 obtain ⟨kn, rfl⟩ : ∃ kn : Nat, k = (kn : Int) := ⟨k.toNat, by omega⟩
 have hkn : kn < en := by omega
 have hkv : kn < vs.length := by have := HVL.out; omega
 have HO2 := hI (owns_chg HO1.out hc2 (fun k hk => by simp [Value.ownBlock] at hk; simp; omega))
 have h23 := hc2.blk (HX1.out.blk HA3.out) (by simp; omega)
 have h25 := hc2.blk (HX1.out.blk HA5.out) (by simp; omega)
 have h26 := hc2.blk (HX1.out.blk HA6.out) (by simp; omega)
 have HB23 := hI h23
 have HB25 := hI h25
 have HB26 := hI h26
 obtain ⟨ax, cx, ex, hrx⟩ := IsRows.of_owns (f := EvV.cells) (fun _ => rfl) (by rw [HVL.out]; exact HO2.out)
 injection ex with ex1 ex2 ex3
 subst ex1
 obtain ⟨bb, oo, e, c0, c1, c2, c3, c4, c5, c6⟩ := rows_seven hrx hkv
 simp only [Option.some.injEq, Addr.mk.injEq, and_true] at e
 obtain ⟨rfl, rfl⟩ := e
 have tk0 : (0 : Int) <= (kn : Int) := by omega
 have tk1 : (kn : Int) < (en : Int) := by omega
 have hz2 := hc2.size
 have hz1 := HX1.out.size
 simp only [Nat.zero_add] at c0 c1 c2 c3 c4 c5 c6
 clear hd2 hc2 hrx h23 h25 h26 hk0 hk1 ex2 ex3 hvl
 go_upto_region 4 with fail
 obtain ⟨w3, hw3⟩ : ∃ w3, w3 = w2.alloc (.cells #[.int .i64 vs[kn].x.number, .int .i64 vs[kn].x.known, .int .i64 vs[kn].x.kind, .slice vs[kn].a vs[kn].n vs[kn].c, .int .i64 vs[kn].x.cur, .int .i64 vs[kn].x.amount, .int .i64 vs[kn].x.target] 30) := ⟨_, rfl⟩
 have hx3 : Ext w2 w3 := by rw [hw3]; exact (Ext.refl _).alloc _
 have HB39 := hI (show w3.heap[w2.heap.size]? = some (EvBox vs[kn]) by rw [hw3]; exact alloc_new w2 _)
 rw [<- hw3]
 clear hw3 c0 c1 c2 c3 c4 c5 c6
 have HSD := hI (show SptD w0 w bd w.heap.size (w.heap.size + 1) (w.heap.size + 1 + 1) w2.heap.size g1 from ⟨by omega, by omega, by omega, by omega, by omega, by omega, by omega, by omega, by omega, by omega⟩)
 have hitk : IsIts w0 vs[kn].x.items vs[kn].a vs[kn].n vs[kn].c := HITS.out _ (List.getElem_mem hkv)
 have HIK := hI hitk
 have HFK := hI (HF.out vs[kn].x (by rw [HVS.out]; exact List.mem_map_of_mem (List.getElem_mem hkv)))
 have HSP := hI (show Spt w0 w bd w.heap.size (w.heap.size + 1) (w.heap.size + 1 + 1) w2.heap.size g1 en cap (some ⟨gb, go, none⟩) ec vs xv M c vs[kn] w3 from
  ⟨HD2.out.ext hx3, ((((HXA.out.chg [bd]).then (HX1.out.chg [bd])).then HC2.out).then (hx3.chg [bd])), hx3.blk HB23.out, hx3.blk HB25.out, hx3.blk HB26.out, HB39.out, by have := owns_ext HO2.out hx3; exact ⟨this.1, by rcases this.2 with h | ⟨g, cp, cur, e, r1, r2⟩; exact Or.inl h; exact Or.inr ⟨g, cp, cur, e, by omega, r2⟩⟩, hitk.mono (sub_maskD (show Ext w0 w3 by obtain ⟨_, _, _, _, _, _, _, _, hx, _⟩ := HD2.out.ext hx3; exact hx) (fun k hk => by simp only [List.mem_cons] at hk; rcases hk with h | h | h | h | h | h; omega; omega; omega; omega; omega; exact (HM.out k h).1)), HFK.out.1⟩)
 clear hitk hx3
 go_wp2_with fail
 refine (next_calls HSP.out.deck 10 (by omega) (by omega)).mono ?_
 rintro r w4 ⟨q, rfl, hq0, hq1, hd4, hc4⟩
 have HS4 := hI (HSP.out.draw HSD.out hc4 hd4)
 have HI4 := hI (show IsIts (mask w4 (w.heap.size :: (w.heap.size + 1 + 1) :: w2.heap.size :: g1 :: bd :: M)) xv.x.items xv.a xv.n xv.c from HXI.out.mono (sub_maskD (show Ext w0 w4 by obtain ⟨_, _, _, _, _, _, _, _, hx, _⟩ := hd4; exact hx) (fun k hk => by simp only [List.mem_cons] at hk; rcases hk with h | h | h | h | h | h; omega; omega; omega; omega; omega; exact (HM.out k h).1)))
 have hz4 : w2.heap.size < w4.heap.size := blk_lt HS4.out.hy
 obtain ⟨b9, hb9⟩ : ∃ b9, b9 = w2.heap.size := ⟨_, rfl⟩
 have hw39 : w.heap.size < b9 := by omega
 rw [<- hb9] at HS4 HSD HI4 hz4 ⊢
 have HB9 := hI hb9
 clear hd4 hc4 hb9 HSP HB39 HD2 HC2 HB23 HB25 HB26 HO2 HO1 HD1 HX1 HA3 HA5 HA6 HXA
 go_upto_block 0 with fail
 go_cut [] (fun wx => ∃ (C : Clm) (u : EvV), Spt w0 w bd w.heap.size (w.heap.size + 1) (w.heap.size + 1 + 1) b9 g1 en cap (some ⟨gb, go, none⟩) ec vs xv M C u wx)
 case first =>
  obtain ⟨y0, y1, y2, y3, y4, y5, y6, yf⟩ := blk7 HS4.out.hy
  obtain ⟨x0, x1, x2, x3, x4, x5, x6, xf⟩ := blk7 HS4.out.hx
  have hl0 := blk_lt HS4.out.hy
  rcases (show q = 0 \/ q = 1 \/ q = 2 \/ q = 3 \/ q = 4 \/ q = 5 \/ q = 6 \/ q = 7 \/ q = 8 \/ q = 9 by omega) with rfl | rfl | rfl | rfl | rfl | rfl | rfl | rfl | rfl | rfl
  ·clear hq0 hq1
   go_wp2_with fail
   go_meet
   case rel => exact ⟨c, xv, HS4.out.put HSD.out HI4.out HFX.out.1⟩
  ·clear hq0 hq1 x0 x1 x2 x3 x4 x5 x6 xf
   go_wp2_with fail
   refine (range_calls HS4.out.deck (-1) 12 (by omega) (by omega) (by omega)).mono ?_
   rintro r w5 ⟨z, rfl, -, -, hd5, hc5⟩
   have HS5 := hI (HS4.out.draw HSD.out hc5 hd5)
   clear hd5 hc5 y0 y1 y2 y3 y4 y5 y6 yf hl0
   obtain ⟨y0, y1, y2, y3, y4, y5, y6, yf⟩ := blk7 HS5.out.hy
   have hl0 := blk_lt HS5.out.hy
   go_wp2_with fail
   go_meet
   case rel => exact ⟨c, ⟨{ vs[kn].x with number := z }, vs[kn].a, vs[kn].n, vs[kn].c⟩, HS5.out.field HSD.out rfl HS5.out.its HS5.out.few⟩
  ·clear hq0 hq1 x0 x1 x2 x3 x4 x5 x6 xf
   go_wp2_with fail
   refine (range_calls HS4.out.deck (-1) 60 (by omega) (by omega) (by omega)).mono ?_
   rintro r w5 ⟨z, rfl, -, -, hd5, hc5⟩
   have HS5 := hI (HS4.out.draw HSD.out hc5 hd5)
   clear hd5 hc5 y0 y1 y2 y3 y4 y5 y6 yf hl0
   obtain ⟨y0, y1, y2, y3, y4, y5, y6, yf⟩ := blk7 HS5.out.hy
   have hl0 := blk_lt HS5.out.hy
   go_wp2_with fail
   go_meet
   case rel => exact ⟨c, ⟨{ vs[kn].x with known := z }, vs[kn].a, vs[kn].n, vs[kn].c⟩, HS5.out.field HSD.out rfl HS5.out.its HS5.out.few⟩
  ·clear hq0 hq1 x0 x1 x2 x3 x4 x5 x6 xf
   go_wp2_with fail
   refine (range_calls HS4.out.deck (0) 8 (by omega) (by omega) (by omega)).mono ?_
   rintro r w5 ⟨z, rfl, -, -, hd5, hc5⟩
   have HS5 := hI (HS4.out.draw HSD.out hc5 hd5)
   clear hd5 hc5 y0 y1 y2 y3 y4 y5 y6 yf hl0
   obtain ⟨y0, y1, y2, y3, y4, y5, y6, yf⟩ := blk7 HS5.out.hy
   have hl0 := blk_lt HS5.out.hy
   go_wp2_with fail
   go_meet
   case rel => exact ⟨c, ⟨{ vs[kn].x with kind := z }, vs[kn].a, vs[kn].n, vs[kn].c⟩, HS5.out.field HSD.out rfl HS5.out.its HS5.out.few⟩
  ·clear hq0 hq1 x0 x1 x2 x3 x4 x5 x6 xf
   go_wp2_with fail
   refine (range_calls HS4.out.deck (-1) 16 (by omega) (by omega) (by omega)).mono ?_
   rintro r w5 ⟨z, rfl, -, -, hd5, hc5⟩
   have HS5 := hI (HS4.out.draw HSD.out hc5 hd5)
   clear hd5 hc5 y0 y1 y2 y3 y4 y5 y6 yf hl0
   obtain ⟨y0, y1, y2, y3, y4, y5, y6, yf⟩ := blk7 HS5.out.hy
   have hl0 := blk_lt HS5.out.hy
   go_wp2_with fail
   go_meet
   case rel => exact ⟨c, ⟨{ vs[kn].x with cur := z }, vs[kn].a, vs[kn].n, vs[kn].c⟩, HS5.out.field HSD.out rfl HS5.out.its HS5.out.few⟩
  ·clear hq0 hq1 x0 x1 x2 x3 x4 x5 x6 xf
   go_wp2_with fail
   refine (next_calls (HS4.out.deck.ext ((Ext.refl w4).alloc (.cells #[.int .i64 0, .int .i64 (-1), .int .i64 1073741825, .int .i64 1] 3))) 4 (by omega) (by omega)).mono ?_
   rintro r w5 ⟨z, rfl, hz0, hz1, hd5, hc5⟩
   have HS5 := hI ((HS4.out.more ((Ext.refl w4).alloc (.cells #[.int .i64 0, .int .i64 (-1), .int .i64 1073741825, .int .i64 1] 3))).draw HSD.out hc5 hd5)
   have hb5 := hc5.blk (alloc_new w4 (.cells #[.int .i64 0, .int .i64 (-1), .int .i64 1073741825, .int .i64 1] 3)) (by simp; omega)
   obtain ⟨f0, f1, f2, f3, ff⟩ := blk4c hb5
   clear hd5 hc5 hb5 y0 y1 y2 y3 y4 y5 y6 yf hl0
   obtain ⟨y0, y1, y2, y3, y4, y5, y6, yf⟩ := blk7 HS5.out.hy
   have hl0 := blk_lt HS5.out.hy
   rcases (show z = 0 \/ z = 1 \/ z = 2 \/ z = 3 by omega) with rfl | rfl | rfl | rfl
   all_goals
    go_wp2_with fail
    go_meet
    case rel =>
     first
     | exact ⟨c, ⟨{ vs[kn].x with amount := 0 }, vs[kn].a, vs[kn].n, vs[kn].c⟩, HS5.out.field HSD.out rfl HS5.out.its HS5.out.few⟩
     | exact ⟨c, ⟨{ vs[kn].x with amount := -1 }, vs[kn].a, vs[kn].n, vs[kn].c⟩, HS5.out.field HSD.out rfl HS5.out.its HS5.out.few⟩
     | exact ⟨c, ⟨{ vs[kn].x with amount := 1073741825 }, vs[kn].a, vs[kn].n, vs[kn].c⟩, HS5.out.field HSD.out rfl HS5.out.its HS5.out.few⟩
     | exact ⟨c, ⟨{ vs[kn].x with amount := 1 }, vs[kn].a, vs[kn].n, vs[kn].c⟩, HS5.out.field HSD.out rfl HS5.out.its HS5.out.few⟩
  ·clear hq0 hq1 x0 x1 x2 x3 x4 x5 x6 xf
   go_wp2_with fail
   refine (range_calls HS4.out.deck (0) 9 (by omega) (by omega) (by omega)).mono ?_
   rintro r w5 ⟨z, rfl, -, -, hd5, hc5⟩
   have HS5 := hI (HS4.out.draw HSD.out hc5 hd5)
   clear hd5 hc5 y0 y1 y2 y3 y4 y5 y6 yf hl0
   obtain ⟨y0, y1, y2, y3, y4, y5, y6, yf⟩ := blk7 HS5.out.hy
   have hl0 := blk_lt HS5.out.hy
   go_wp2_with fail
   go_meet
   case rel => exact ⟨c, ⟨{ vs[kn].x with target := z }, vs[kn].a, vs[kn].n, vs[kn].c⟩, HS5.out.field HSD.out rfl HS5.out.its HS5.out.few⟩
  ·clear hq0 hq1 x0 x1 x2 x3 x4 x5 x6 xf
   obtain ⟨iv, hir, him, hif⟩ := HIK.out
   have hin : vs[kn].n = iv.length := hir.1
   have hinb : vs[kn].n <= 1000 := by have h1 := HFK.out.2; rw [him, List.length_map] at h1; omega
   have HIM := hI him
   have HIF := hI hif
   have HIN := hI hin
   have HX04 := hI (show Ext w0 w4 by obtain ⟨_, _, _, _, _, _, _, _, hx, _⟩ := HS4.out.deck; exact hx)
   have HIS := hI (it_srcC hir)
   have HIL := hI (show (iv.flatMap ItV.cells).length = vs[kn].n * 4 by rw [it_flatC, <- hin])
   have HI1 := hI (it_onesC iv)
   have HOZ := hI (show (w4.alloc (.cells #[] 72)).ownsRow w4.heap.size 72 4 (.slice (some ⟨w4.heap.size, 0, none⟩) 0 0) 0 [] from ⟨rfl, Or.inr ⟨w4.heap.size, 0, #[], rfl, Nat.le_refl _, alloc_new w4 _, Nat.le_refl _, by unfold maxLen; omega, rfl, rfl⟩⟩)
   have hzw4 : w0.heap.size <= w4.heap.size := HX04.out.size
   clear hir him hif hin
   go_wp2_with (at_builtin; refine wpList_append_all elemIt rfl _ _ rfl w4.heap.size _ 0 [] rfl HOZ.out vs[kn].a vs[kn].n vs[kn].c (iv.flatMap ItV.cells) rfl HIL.out ?f0 HI1.out (by omega) (by omega) ?f1 ?_)
   case f0 =>
    intro hp
    obtain ⟨b, off, e, hcl⟩ := HIS.out hp
    exact ⟨b, off, e, fun j hj => (HX04.out.trans ((Ext.refl w4).alloc _)).cell (hcl j hj)⟩
   case f1 => simp
   intro v5 w5 hown5 hg5 hb5
   have hx5 : Ext w4 w5 := ((Ext.refl w4).alloc _).grown hg5 (fun k hk => by simp [Value.ownBlock] at hk; omega)
   replace hown5 : w5.ownsRow w4.heap.size 72 4 v5 vs[kn].n (iv.flatMap ItV.cells) := by simpa using hown5
   have HS5 := hI (HS4.out.more hx5)
   have HO5 := hI hown5
   have hz5 := hx5.size
   clear hx5 hown5 hg5 hb5 y0 y1 y2 y3 y4 y5 y6 yf hl0 HOZ
   go_wp2_with fail
   refine (next_calls HS5.out.deck 3 (by omega) (by omega)).mono ?_
   rintro r w6 ⟨z, rfl, hz0, hz1, hd6, hc6⟩
   have HS6 := hI (HS5.out.draw HSD.out hc6 hd6)
   have HO6 := hI (owns_chg HO5.out hc6 (fun k hk => by have := (HO5.out.lt k hk).1; simp; omega))
   have hz6 := hc6.size
   clear hd6 hc6
   go_wp2_with fail
   have hx7 : Ext w6 (w6.alloc (.cells #[.int .i64 z] 3)) := (Ext.refl w6).alloc _
   refine (range_calls (HS6.out.deck.ext hx7) (-1) 1 (by omega) (by omega) (by omega)).mono ?_
   rintro r w8 ⟨z2, rfl, -, -, hd8, hc8⟩
   have HS8 := hI ((HS6.out.more hx7).draw HSD.out hc8 hd8)
   have HO8 := hI (owns_chg (owns_ext HO6.out hx7) hc8 (fun k hk => by have := (HO5.out.lt k hk).1; simp; omega))
   have HB8 := hI (hc8.blk (alloc_new w6 (.cells #[.int .i64 z] 3)) (by simp; omega))
   have hz8 := Nat.le_trans hx7.size hc8.size
   have hlf := blk_lt HB8.out
   have hz0' : v5.ownBlock = some w6.heap.size -> False := fun hk => by have := (HO6.out.lt _ hk).2; omega
   obtain ⟨inn, hinn⟩ : ∃ inn, inn = vs[kn].n := ⟨_, rfl⟩
   rw [<- hinn] at HO8 hinb HIN
   clear hd8 hc8 hx7
   go_wp2_with (at_builtin; refine wpList_append_at elemIt rfl _ _ rfl w4.heap.size _ inn _ rfl HO8.out _ 1 1 rfl (by simp) rfl (by simp [Value.oneCell']) (by unfold maxLen; omega) (by omega) (by omega) ?_)
   intro v9 w9 hown9 hc9 hb9
   have hN : ∀ y ∈ rowOf v5, w4.heap.size <= y := fun y hy => (HO8.out.lt y (mem_rowOf.1 hy)).1
   have hd9 : DeckAt w0 w9 bd := HS8.out.deck.chg hc9 (fun hm => by have := hN _ hm; omega) (fun y hy => by have := hN y hy; omega)
   have HX9 := hI (show Ext w0 w9 by obtain ⟨_, _, _, _, _, _, _, _, hx, _⟩ := hd9; exact hx)
   have hg1w : g1 < w4.heap.size := (HS4.out.own.lt g1 rfl).2
   have HS9 := hI (HS8.out.keep hc9 ⟨fun hm => by have := hN _ hm; omega, fun hm => by have := hN _ hm; omega, fun hm => by have := hN _ hm; omega⟩ (fun x hx => Or.inr (by have := hN x hx; omega)) hd9 (hc9.blk HS8.out.hc (fun hm => by have := hN _ hm; omega)) (hc9.blk HS8.out.hy (fun hm => by have := hN _ hm; omega)) (HIK.out.mono (sub_maskD HX9.out (fun k hk => by simp only [List.mem_cons] at hk; rcases hk with h | h | h | h | h | h; omega; omega; omega; omega; omega; exact (HM.out k h).1))) HS8.out.few)
   have HB9' := hI (hc9.blk HB8.out (fun hm => hz0' (mem_rowOf.1 hm)))
   rw [<- hinn] at hown9
   have HO9 := hI (own_snocIt (u := ⟨⟨[z], 0, 0, z2⟩, some ⟨w6.heap.size, 0, none⟩, 1, 1⟩) HIN.out hown9)
   obtain ⟨a9, c9, hv9⟩ := owns_formG hown9
   subst hv9
   clear hown9 hc9 hd9 hb9 hN
   obtain ⟨y0, y1, y2, y3, y4, y5, y6, yf⟩ := blk7 HS9.out.hy
   have hl0 := blk_lt HS9.out.hy
   go_wp2_with fail
   go_meet
   case rel =>
    have hmem : ∀ y ∈ (w.heap.size :: (w.heap.size + 1 + 1) :: b9 :: g1 :: bd :: M), y < w4.heap.size := by
     intro y hy
     simp only [List.mem_cons] at hy
     rcases hy with h | h | h | h | h | h
     ·omega
     ·omega
     ·omega
     ·omega
     ·omega
     have := (HM.out y h).2; omega
    obtain ⟨ax, cx, ex, hits⟩ := its_own (M := (w.heap.size :: (w.heap.size + 1 + 1) :: b9 :: g1 :: bd :: M)) HO9.out (fun k hk hm => by have h1 := (HO9.out.lt k hk).1; have h2 := hmem k hm; omega) (fun y hy => by
     rcases List.mem_append.1 hy with h | h
     ·exact (HIF.out y h).mono (sub_maskD HX9.out (fun k hk => by simp only [List.mem_cons] at hk; rcases hk with h | h | h | h | h | h; omega; omega; omega; omega; omega; exact (HM.out k h).1))
     simp only [List.mem_singleton] at h
     subst h
     refine ⟨rfl, fun i hi => ⟨w6.heap.size, 0, rfl, ?_⟩⟩
     have hi0 : i = 0 := by simpa using hi
     subst hi0
     rw [mask_cell, if_neg (fun hm => by have := hmem _ hm; simp at this; omega), blk_cell HB9'.out]
     rfl)
    injection ex with ex1 ex2 ex3
    subst ex1
    subst ex3
    have hlen : ((iv ++ [(⟨⟨[z], 0, 0, z2⟩, some ⟨w6.heap.size, 0, none⟩, 1, 1⟩ : ItV)]).map (·.x)).length = inn + 1 := by rw [List.length_map, List.length_append, <- HIN.out]; rfl
    rw [hlen, hinn] at hits
    refine ⟨c, ⟨{ vs[kn].x with items := (iv ++ [(⟨⟨[z], 0, 0, z2⟩, some ⟨w6.heap.size, 0, none⟩, 1, 1⟩ : ItV)]).map (·.x) }, _, vs[kn].n + 1, _⟩, HS9.out.field HSD.out rfl hits ⟨by show List.length _ <= _; rw [hlen]; omega, fun y hy => ?_⟩⟩
    have hy : y ∈ (iv ++ [(⟨⟨[z], 0, 0, z2⟩, some ⟨w6.heap.size, 0, none⟩, 1, 1⟩ : ItV)]).map (·.x) := hy
    rw [List.map_append] at hy
    rcases List.mem_append.1 hy with h | h
    ·exact HFK.out.1.2 y (by rw [HIM.out]; exact h)
    simp only [List.map_cons, List.map_nil, List.mem_singleton] at h
    subst h
    simp
  ·clear hq0 hq1 x0 x1 x2 x3 x4 x5 x6 xf y0 y1 y2 y3 y4 y5 y6 yf hl0
   go_wp2_with fail
   refine (range_calls HS4.out.deck (-1) 16 (by omega) (by omega) (by omega)).mono ?_
   rintro r w5 ⟨z, rfl, -, -, hd5, hc5⟩
   have HS5 := hI (HS4.out.draw HSD.out hc5 hd5)
   clear hd5 hc5
   go_wp2_with fail
   refine (range_calls HS5.out.deck (-1) 16 (by omega) (by omega) (by omega)).mono ?_
   rintro r w6 ⟨z2, rfl, -, -, hd6, hc6⟩
   have HS6 := hI (HS5.out.draw HSD.out hc6 hd6)
   clear hd6 hc6
   obtain ⟨y0, y1, y2, y3, y4, y5, y6, yf⟩ := blk7 HS6.out.hc
   have hl0 := blk_lt HS6.out.hc
   go_wp2_with fail
   go_meet
   case rel =>
    have h7 := HS6.out.cfield (j := 5) (v := .int .i64 z) (C' := { c with area := z }) HSD.out rfl
    exact ⟨{ c with area := z, peril := z2 }, vs[kn], h7.cfield (j := 4) (v := .int .i64 z2) (C' := { c with area := z, peril := z2 }) HSD.out rfl⟩
  clear hq0 hq1 x0 x1 x2 x3 x4 x5 x6 xf y0 y1 y2 y3 y4 y5 y6 yf hl0
  go_wp2_with fail
  refine (range_calls HS4.out.deck (-1) 1 (by omega) (by omega) (by omega)).mono ?_
  rintro r w5 ⟨z, rfl, -, -, hd5, hc5⟩
  have HS5 := hI (HS4.out.draw HSD.out hc5 hd5)
  clear hd5 hc5
  go_wp2_with fail
  refine (range_calls HS5.out.deck (0) 1 (by omega) (by omega) (by omega)).mono ?_
  rintro r w6 ⟨z2, rfl, -, -, hd6, hc6⟩
  have HS6 := hI (HS5.out.draw HSD.out hc6 hd6)
  clear hd6 hc6
  obtain ⟨y0, y1, y2, y3, y4, y5, y6, yf⟩ := blk7 HS6.out.hc
  have hl0 := blk_lt HS6.out.hc
  go_wp2_with fail
  go_meet
  case rel =>
   have h7 := HS6.out.cfield (j := 3) (v := .int .i64 z) (C' := { c with hour := z }) HSD.out rfl
   exact ⟨{ c with hour := z, risk := z2 }, vs[kn], h7.cfield (j := 2) (v := .int .i64 z2) (C' := { c with hour := z, risk := z2 }) HSD.out rfl⟩
 case rest =>
 obtain ⟨w5, rfl⟩ : ∃ W : World, W = wc := ⟨_, rfl⟩
 obtain ⟨C, u, hs5⟩ := hcut
 have HS5 := hI hs5
 clear hs5
 obtain ⟨ax, cx, ex, hrx⟩ := IsRows.of_owns (f := EvV.cells) (fun _ => rfl) (by rw [HVL.out]; exact HS5.out.own)
 injection ex with ex1 ex2 ex3
 subst ex1
 obtain ⟨bb, oo, e, c0, c1, c2, c3, c4, c5, c6⟩ := rows_seven hrx hkv
 simp only [Option.some.injEq, Addr.mk.injEq, and_true] at e
 obtain ⟨rfl, rfl⟩ := e
 simp only [Nat.zero_add] at c0 c1 c2 c3 c4 c5 c6
 have hfz : ∀ o, w5.frozen? ⟨g1, o, none⟩ = false := by
  rcases HS5.out.own.2 with ⟨h, _⟩ | ⟨g', cp, cur, e, r1, r2, _⟩
  ·cases h
  injection e with e1 e2 e3
  injection e1 with e1
  injection e1 with e1
  subst e1
  exact fun o => blk_free r2 _
 obtain ⟨y0, y1, y2, y3, y4, y5, y6, yf⟩ := blk7 HS5.out.hy
 clear ex2 ex3 hrx
 go_upto_region 26 with fail
 obtain ⟨w6, hw6⟩ : ∃ w6, w6 = put7at w5 g1 (kn * 7) (.int .i64 u.x.number) (.int .i64 u.x.known) (.int .i64 u.x.kind) (.slice u.a u.n u.c) (.int .i64 u.x.cur) (.int .i64 u.x.amount) (.int .i64 u.x.target) := ⟨_, rfl⟩
 have hc6 : Chg [g1] w5 w6 := by rw [hw6]; exact put7at_chg _ _ _
 have HO6 := hI (show w6.ownsRow w0.heap.size 30 7 (.slice (some ⟨g1, 0, none⟩) en cap) en ((vs.set kn u).flatMap EvV.cells) by rw [hw6]; exact own_set7 HS5.out.own hkv)
 unfold put7at at hw6
 rw [<- hw6]
 have d1 := HSD.out.n35
 have d2 := HSD.out.n6
 have h63 := hc6.blk HS5.out.hc (by simp; omega)
 have h66 := hc6.blk HS5.out.hz (by simp; omega)
 obtain ⟨a0, a1, a2, a3, a4, a5, a6, af⟩ := blk7 h63
 clear hw6 c0 c1 c2 c3 c4 c5 c6 hfz y0 y1 y2 y3 y4 y5 y6 yf
 go_upto_region 27 with fail
 obtain ⟨w7, hw7⟩ : ∃ w7, w7 = w6.setCell ⟨w.heap.size, 6, none⟩ (.slice (some ⟨g1, 0, none⟩) en cap) := ⟨_, rfl⟩
 have hc7 : Chg [w.heap.size] w6 w7 := by rw [hw7]; exact (Chg.refl [_] _).setCell (Or.inl (by simp)) _
 have h73 : w7.heap[w.heap.size]? = some (ClmBox C (some ⟨g1, 0, none⟩) en cap) := by
  rw [hw7]
  unfold ClmBox at h63
  rw [heap_setCell_same _ _ _ _ _ _ h63]
  rfl
 have h76 := hc7.blk h66 (by simp; omega)
 have HO7 := hI (owns_chg HO6.out hc7 (fun k hk => by simp only [Value.ownBlock, Option.some.injEq] at hk; simp; omega))
 rw [<- hw7]
 clear hw7 a0 a1 a2 a3 a4 a5 a6 af
 obtain ⟨a0, a1, a2, a3, a4, a5, a6, af⟩ := blk7 h73
 unfold ClmO at h76
 obtain ⟨z0, z1, z2, z3, z4, z5, z6, zf⟩ := blk7 h76
 have h76b := h76
 clear h63 h66 h73
 go_wp2_with fail
 obtain ⟨w8, hw8⟩ : ∃ w8, w8 = put7 w7 (w.heap.size + 1 + 1) (.int .i64 C.id) (.int .i64 C.policy) (.int .i64 C.risk) (.int .i64 C.hour) (.int .i64 C.peril) (.int .i64 C.area) (.slice (some ⟨g1, 0, none⟩) en cap) := ⟨_, rfl⟩
 have hc8 : Chg [w.heap.size + 1 + 1] w7 w8 := by rw [hw8]; exact put7_chg _ _
 have h86 : w8.heap[w.heap.size + 1 + 1]? = some (ClmBox C (some ⟨g1, 0, none⟩) en cap) := by rw [hw8]; exact put7_blk h76b
 have HO8 := hI (owns_chg HO7.out hc8 (fun k hk => by simp only [Value.ownBlock, Option.some.injEq] at hk; simp; omega))
 unfold put7 at hw8
 rw [<- hw8]
 clear hw8 z0 z1 z2 z3 z4 z5 z6 zf
 obtain ⟨z0, z1, z2, z3, z4, z5, z6, zf⟩ := blk7 h86
 refine bodyPost_ret (v := ClmArg { C with events := (vs.set kn u).map (·.x) } (some ⟨g1, 0, none⟩) en cap) (by simp [results, Tryz.results8, go_sem, ClmArg, z0, z1, z2, z3, z4, z5, z6]) rfl ?_
 have hx05 : Ext w0 w5 := by obtain ⟨_, _, _, _, _, _, _, _, hx, _⟩ := HS5.out.deck; exact hx
 have hx08 : Ext w0 w8 := hc8.ext (hc7.ext (hc6.ext hx05 (by simp; omega)) (by simp; omega)) (by simp; omega)
 obtain ⟨ay, cy, ey, hry⟩ := IsRows.of_owns (f := EvV.cells) (l := vs.set kn u) (fun _ => rfl) (by rw [List.length_set, HVL.out]; exact HO8.out)
 injection ey with ey1 ey2 ey3
 subst ey1
 subst ey3
 rw [List.length_set, HVL.out] at hry
 have hgM : g1 ∉ M := fun hm => by have := (HM.out _ hm).2; have := HSD.out.m3; omega
 have hry2 : IsRows (mask w8 M) 7 EvV.cells (vs.set kn u) (some ⟨g1, 0, none⟩) en cap := ⟨hry.1, hry.2.1, hry.2.2.1, fun i hi => by
  obtain ⟨b, off, e, hcl⟩ := hry.2.2.2 i hi
  refine ⟨b, off, e, fun j hj => ?_⟩
  simp only [Option.some.injEq, Addr.mk.injEq, and_true] at e
  rw [mask_cell, if_neg (by show ¬ b ∈ M; rw [<- e.1]; exact hgM)]
  exact hcl j hj⟩
 have hsub : Sub (mask w5 (w.heap.size :: (w.heap.size + 1 + 1) :: b9 :: g1 :: bd :: M)) (mask w8 M) := ((mask_step' hc6 (by simp)).trans ((mask_step' hc7 (by simp)).trans (mask_step' hc8 (by simp)))).trans (mask_sub_mask fun k hk hn => ⟨fun hm => hn (by simp [hm]), rfl⟩)
 refine ⟨_, _, _, _, rfl, ⟨vs.set kn u, hry2, rfl, fun y hy => ?_⟩, ?_, fun y hy => ?_, hx08, ((HS5.out.chg.trans hc6 (fun x hx => Or.inr (by have := HSD.out.m3; simp at hx; omega))).trans hc7 (fun x hx => Or.inr (by simp at hx; omega))).trans hc8 (fun x hx => Or.inr (by simp at hx; omega))⟩
 ·rcases List.mem_or_eq_of_mem_set hy with h | h
  ·exact (HITS.out y h).mono (sub_maskD hx08 (fun k hk => (HM.out k hk).1))
  subst h
  exact HS5.out.its.mono hsub
 ·show ((vs.set kn u).map (·.x)).length <= 100
  rw [List.length_map, List.length_set, HVL.out]
  exact he2
 have hy : y ∈ (vs.set kn u).map (·.x) := hy
 obtain ⟨y', hy', rfl⟩ := List.mem_map.1 hy
 rcases List.mem_or_eq_of_mem_set hy' with h | h
 ·exact (HF.out y'.x (by rw [HVS.out]; exact List.mem_map_of_mem h)).1
 subst h
 exact HS5.out.few
end Go.Proofs.YtpkljcgihobaiaaGreat
