/-
  Texts of the claim, joined: RSta, SameF, Awk18, GnBd.
-/
import Derived.Test.YtefjomofjejklaaGreatCc23
namespace Go.Proofs.YtefjomofjejklaaGreat
set_option maxRecDepth 100000
set_option maxHeartbeats 32000000
open Go.RowKit
def PsnOk (p : Psn) : Prop := (0 <= p.net /\ p.net <= 100000000000) /\ (0 <= p.paid /\ p.paid <= 17592186044416) /\ (0 <= p.rcv /\ p.rcv <= 17592186044416) /\ p = posV p.opn p.net p.paid p.rcv
theorem psn_zero : PsnOk ⟨false, 0, 0, 0, 0, 0⟩ := ⟨by decide, by decide, by decide, by simp [posV, rsvB]⟩
def StQ (w : World) (e : Ending) (w' : World) : Prop := ∃ (p : Psn) (z : Int), e = .returned (.tuple #[.agg p.cells, .int .i64 z]) /\ (z = 0 -> PsnOk p) /\ Ext w w'
theorem clm_items {s : List Attr} {c : Clm} (h : clmErr s c = 0) : c.events.length <= 64 /\ ∀ x ∈ c.events, evErr s [] x = evErr s [] x /\ x.items.length <= 64 /\ (∀ y ∈ x.items, ItOk s y) /\ ((x.kind = 3 \/ x.kind = 4) -> 1 <= x.amount /\ x.amount <= 1073741824) /\ 1 <= x.kind /\ x.kind <= 7 := by
 unfold clmErr at h
 by_cases h1 : schemaErr s ≠ 0
 ·rw [if_pos h1] at h; exact absurd h h1
 rw [if_neg h1] at h
 by_cases h2 : idsB c = false
 ·rw [if_pos h2] at h; cases h
 rw [if_neg h2] at h
 by_cases h3 : 64 < c.events.length
 ·rw [if_pos h3] at h; cases h
 rw [if_neg h3] at h
 have hz := firstI_none c.events.length h
 refine ⟨by omega, fun x hx => ⟨rfl, ?_⟩⟩
 obtain ⟨i, hi, rfl⟩ := List.getElem_of_mem hx
 have g := hz i hi
 rw [show c.events.getD i ev0 = c.events[i] by simp [hi]] at g
 obtain ⟨x, hxx⟩ : ∃ x, x = c.events[i] := ⟨_, rfl⟩
 rw [<- hxx] at g ⊢
 unfold evErr at g
 by_cases g1 : inB 1 1048576 x.number = false \/ inB 0 876599 x.known = false
 ·rw [if_pos g1] at g; cases g
 rw [if_neg g1] at g
 by_cases g2 : orderB (c.events.take i) x = true
 ·rw [if_pos g2] at g; cases g
 rw [if_neg g2] at g
 by_cases g3 : inB 1 7 x.kind = false
 ·rw [if_pos g3] at g; cases g
 rw [if_neg g3] at g
 by_cases g4 : fieldB x = true
 ·rw [if_pos g4] at g; cases g
 rw [if_neg g4] at g
 unfold partErr at g
 have hk : 1 <= x.kind /\ x.kind <= 7 := by unfold inB at g3; simpa using g3
 have hno : ¬ (x.kind = 1 \/ x.kind = 2) -> x.items = [] := fun hn => by
  unfold fieldB at g4
  simp only [not_or] at hn
  simp [hn.1, hn.2] at g4
  have := g4.1.1
  exact List.eq_nil_of_length_eq_zero (by simpa using this)
 have hpd : (x.kind = 3 \/ x.kind = 4) -> 1 <= x.amount /\ x.amount <= 1073741824 := fun hp => by
  rw [if_neg (by omega), if_pos hp] at g
  unfold cashErr at g
  by_cases q1 : inB 0 15 x.cur = false
  ·rw [if_pos q1] at g; cases g
  rw [if_neg q1] at g
  by_cases q2 : inB 1 1073741824 x.amount = false
  ·rw [if_pos q2] at g; cases g
  unfold inB at q2; simpa using q2
 by_cases hr : x.kind = 1 \/ x.kind = 2
 ·rw [if_pos hr] at g
  by_cases g5 : 64 < x.items.length
  ·rw [if_pos g5] at g; cases g
  rw [if_neg g5] at g
  have hy := firstI_none x.items.length g
  refine ⟨by omega, fun y hyy => ?_, hpd, hk⟩
  obtain ⟨j, hj, rfl⟩ := List.getElem_of_mem hyy
  have q := hy j hj
  rw [show x.items.getD j ⟨[], 0, 0, 0⟩ = x.items[j] by simp [hj]] at q
  unfold itErr at q
  by_cases q1 : factsB s x.items[j].facts = false
  ·rw [if_pos q1] at q; cases q
  rw [if_neg q1] at q
  by_cases q2 : (moneyB x.items[j].value && moneyB x.items[j].sum && moneyB x.items[j].gross) = false
  ·rw [if_pos q2] at q; cases q
  have q1' : factsB s x.items[j].facts = true := by simpa using q1
  have q2' : (moneyB x.items[j].value && moneyB x.items[j].sum && moneyB x.items[j].gross) = true := by rw [<- Bool.not_eq_false]; exact q2
  unfold factsB at q1'
  simp only [Bool.and_eq_true, moneyB, inB, decide_eq_true_eq] at q1' q2'
  exact ⟨q1'.2, q2'.1.1, q2'.1.2, q2'.2⟩
 rw [hno hr]
 exact ⟨by simp, fun y hy => by simp at hy, hpd, hk⟩
theorem mulH_cap (a num den : Nat) : (mulH a num den).1 <= 17592186044416 := by
 unfold mulH
 by_cases h1 : 17592186044416 < a \/ 17592186044416 < num \/ 17592186044416 < den
 ·rw [if_pos h1]; exact Nat.zero_le _
 rw [if_neg h1]
 by_cases h2 : den = 0
 ·rw [if_pos h2]; exact Nat.zero_le _
 rw [if_neg h2]
 by_cases h3 : divOk a num den = false
 ·rw [if_pos h3]; exact Nat.zero_le _
 rw [if_neg h3]
 by_cases h4 : 17592186044416 < halfUp a num den
 ·rw [if_pos h4]; exact Nat.zero_le _
 rw [if_neg h4]
 exact Nat.le_of_not_lt h4
theorem convV_in {l : List Rt} {cur tgt hour : Int} {amt : Nat} (h : (convV l cur amt tgt hour).2 = 0) (ha : amt <= 1073741824) : 0 <= (convV l cur amt tgt hour).1 /\ (convV l cur amt tgt hour).1 <= 17592186044416 := by
 unfold convV at *
 by_cases h1 : rtsErr l ≠ 0
 ·rw [if_pos h1] at h; exact absurd h h1
 rw [if_neg h1] at h ⊢
 by_cases h2 : amtB amt = false \/ inB 0 876599 hour = false
 ·rw [if_pos h2] at h; cases h
 rw [if_neg h2] at h ⊢
 by_cases h3 : inB 0 15 cur = false \/ inB 0 15 tgt = false
 ·rw [if_pos h3] at h; cases h
 rw [if_neg h3] at h ⊢
 by_cases h4 : cur = tgt
 ·rw [if_pos h4]; dsimp only; omega
 rw [if_neg h4] at h ⊢
 by_cases h5 : (rateAt l cur hour).2 ≠ 0 \/ (rateAt l tgt hour).2 ≠ 0
 ·rw [if_pos h5] at h; cases h
 rw [if_neg h5]
 dsimp only
 have := mulH_cap amt (rateAt l cur hour).1.toNat (rateAt l tgt hour).1.toNat
 omega
theorem effFwd_mem (hour : Int) : (l : List Ev) -> ∀ x ∈ effFwd hour l, x ∈ l
 | [], x, h => by simp [effFwd] at h
 | y :: r, x, h => by
  unfold effFwd at h
  split at h
  ·rcases List.mem_cons.1 h with e | h
   ·rw [e]; exact List.mem_cons_self ..
   exact List.mem_cons_of_mem _ (effFwd_mem hour r x h)
  exact List.mem_cons_of_mem _ (effFwd_mem hour r x h)
structure StB (b : Nat) (sa : OA) (sn sc : Nat) (wa : OA) (wn wc : Nat) (xa : OA) (xn xc : Nat) (c : Clm) (ea : OA) (en ec : Nat) (W : World) : Prop where
 h0 : W.heap[b]? = some (.cells #[.slice sa sn sc] 25 (0, 0))
 h1 : W.heap[b + 1]? = some (.cells #[.slice wa wn wc, .slice xa xn xc] 30 (0, 0))
 h2 : W.heap[b + 2]? = some (.cells #[.int .i64 c.id, .int .i64 c.policy, .int .i64 c.risk, .int .i64 c.hour, .int .i64 c.peril, .int .i64 c.area, .slice ea en ec] 33 (0, 0))
 h3 : W.heap[b + 3]? = some (.cells #[.bool false, .int .i64 0, .int .i64 0, .int .i64 0, .int .i64 0, .int .i64 0] 40 (0, 0))
theorem StB.ext {b : Nat} {sa : OA} {sn sc : Nat} {wa : OA} {wn wc : Nat} {xa : OA} {xn xc : Nat} {c : Clm} {ea : OA} {en ec : Nat} {W W' : World} (h : StB b sa sn sc wa wn wc xa xn xc c ea en ec W) (hx : Ext W W') : StB b sa sn sc wa wn wc xa xn xc c ea en ec W' := ⟨hx.blk h.h0, hx.blk h.h1, hx.blk h.h2, hx.blk h.h3⟩
def NetL (n : Nat) (w : World) (s i : Value) (wr : World) : Prop := ∃ (k : Nat) (z : Nat), i = .int .i64 k /\ s = .int .i64 z /\ k <= n /\ z <= k * 1073741824 /\ Ext w wr
def PayL (n : Nat) (w : World) (o p r i : Value) (wr : World) : Prop := ∃ (k : Nat) (ob : Bool) (pz rz : Nat), i = .int .i64 k /\ o = .bool ob /\ p = .int .i64 pz /\ r = .int .i64 rz /\ k <= n /\ (pz : Int) <= (k : Int) * 17592186044416 /\ (rz : Int) <= (k : Int) * 17592186044416 /\ Ext w wr
theorem rState_calls {s : List Attr} {rts : List Rt} {x : Wrd} {c : Clm} (hsf : ∀ x ∈ s, x.fits) (hsl : s.length <= 1000000000000000) (hfit : x.fit) (hfew : ∀ x ∈ c.events, fewEv x) {sa : OA} {sn sc : Nat} {ta : OA} {tn tc : Nat} {wa : OA} {wn wc : Nat} {xa : OA} {xn xc : Nat} {ea : OA} {en ec : Nat} (cur hour : Int) (w : World) (htn : tn <= 1000000000000) (hen : en <= 1000000000000)
  (hs : IsSchema w s (.agg #[.slice sa sn sc])) (hr : IsRts w rts ta tn tc) (hw : IsWrd w x (.agg #[.slice wa wn wc, .slice xa xn xc])) (he : IsEvs w c.events ea en ec) :
  Calls Tryz.prog 5 #[.agg #[.slice sa sn sc], .slice ta tn tc, .agg #[.slice wa wn wc, .slice xa xn xc], .int .i64 cur, ClmArg c ea en ec, .int .i64 hour] w (StQ w) := by
 have HCE := hI (fun W (hW : Ext w W) => rClaimErr_calls s _ c ea en ec W (hs.ext hW) hsf hsl (he.ext hW) hen hfew)
 have HRT := hI (fun W (hW : Ext w W) => rRates_calls rts ta tn tc W (IsRows.ext hr hW) htn)
 have HIF := hI (fun W (hW : Ext w W) => rInForce_calls x _ c.hour W (hw.ext hW) hfit)
 have HFT := hI (inForce_fit hfit c.hour)
 have HIT := hI (fun W (hW : Ext w W) => rItems_calls c ea en ec hour W (he.ext hW) hen)
 have HEV := hI (fun W (hW : Ext w W) => rEvents_calls c ea en ec hour W (he.ext hW) hen)
 have HCV := hI (fun (q : Int) (amt : Nat) (hr' : Int) (ha : amt <= 1000000000000000000) W (hW : Ext w W) => rConvert_calls rts ta tn tc q amt cur hr' W (IsRows.ext hr hW) htn ha)
 obtain ⟨L, hL⟩ : ∃ L, L = inForce x c.hour := ⟨_, rfl⟩
 rw [<- hL] at HIF HFT
 obtain ⟨L1, Le⟩ := L
 dsimp only at HFT
 have HCL := hI (fun (a : OA) (n c' : Nat) W (hW : Ext w W) (hcl : IsClas W L1 a n c') (hn : n <= 1000000000000000) => rClauses_calls s L1 _ a n c' W (hs.ext hW) hsf hsl hcl hn HFT.out.2)
 have HAP := hI (fun (its : List It) (hc : (clausesErr s L1).2 = 0) (hi : ∀ x ∈ its, ItOk s x) (hl : its.length <= 64) (a : OA) (n c' : Nat) (ia : OA) (ni ic : Nat) W (hW : Ext w W) (hcl : IsClas W L1 a n c') (hii : IsIts W its ia ni ic) => rApply_calls hc hi hl hsf ic HFT.out.2 W (hs.ext hW) hcl hii)
 obtain ⟨EF, hEF⟩ : ∃ EF, EF = effFwd hour c.events := ⟨_, rfl⟩
 have HEM := hI (show ∀ y ∈ EF, y ∈ c.events by rw [hEF]; exact effFwd_mem hour c.events)
 have HEL := hI (show EF.length <= c.events.length by rw [hEF]; exact effFwd_len hour c.events)
 unfold RItQ at HIT
 unfold REvQ at HEV
 rw [<- hEF] at HIT HEV
 obtain ⟨E1, hE1⟩ : ∃ E1, E1 = clmErr s c := ⟨_, rfl⟩
 have HE1 := hI hE1
 obtain ⟨E2, hE2⟩ : ∃ E2, E2 = rtsErr rts := ⟨_, rfl⟩
 obtain ⟨CC, hCC⟩ : ∃ CC, CC = clausesErr s L1 := ⟨_, rfl⟩
 have HCC := hI hCC
 obtain ⟨b3, hb3⟩ : ∃ b3, b3 = inB 0 15 cur := ⟨_, rfl⟩
 have HCU := hI (fun W => rCur_calls cur W)
 obtain ⟨b4, hb4⟩ : ∃ b4, b4 = hoursB hour := ⟨_, rfl⟩
 have HHO := hI (fun W => rHours_calls hour W)
 rw [<- hb3] at HCU
 rw [<- hb4] at HHO
 rw [<- hE1] at HCE
 rw [<- hE2] at HRT
 rw [<- hCC] at HCL
 unfold InFQ at HIF
 unfold ClmArg at *
 clear hsf hsl hfit hfew hs hr hw he hL hEF hE1 hE2 hCC hb3 hb4
 obtain ⟨wz, hwz⟩ : ∃ wz, wz = (((w.alloc (.cells #[.slice sa sn sc] 25)).alloc (.cells #[.slice wa wn wc, .slice xa xn xc] 30)).alloc (.cells #[.int .i64 c.id, .int .i64 c.policy, .int .i64 c.risk, .int .i64 c.hour, .int .i64 c.peril, .int .i64 c.area, .slice ea en ec] 33)).alloc (.cells #[.bool false, .int .i64 0, .int .i64 0, .int .i64 0, .int .i64 0, .int .i64 0] 40) := ⟨_, rfl⟩
 obtain ⟨b, hb⟩ : ∃ b, b = w.heap.size := ⟨_, rfl⟩
 have HB := hI (show w.heap.size <= b by omega)
 have HX0 := hI (show Ext w wz by rw [hwz]; exact ((((Ext.refl _).alloc _).alloc _).alloc _).alloc _)
 have HS0 := hI (show StB b sa sn sc wa wn wc xa xn xc c ea en ec wz by
  rw [hwz, hb]
  exact ⟨blk_alloc (blk_alloc (blk_alloc (alloc_new w _))), blk_alloc (blk_alloc (alloc_at (by simp))), blk_alloc (alloc_at (by simp)), alloc_at (by simp)⟩)
 go_enter Tryz.func5, Tryz.ntmps5
 go_upto_region 1 with fail
 rw [<- hwz, <- hb]
 clear hwz hb
 obtain ⟨s0, sf⟩ := blk1 HS0.out.h0
 obtain ⟨c0, c1, c2, c3, c4, c5, c6, cf⟩ := blk7 HS0.out.h2
 go_wp2_with fail
 refine (HCE.out wz HX0.out).mono ?_
 rintro r w1 ⟨rfl, hx1⟩
 have HX1 := hI (HX0.out.trans hx1)
 have HS1 := hI (HS0.out.ext hx1)
 clear hx1 HX0 HS0 HCE s0 sf c0 c1 c2 c3 c4 c5 c6 cf
 have H31 := hI HS1.out.h3
 by_cases he1 : E1 = 0
 case neg =>
  have t1 : (E1 != 0) = true := by simp [he1]
  have HNE := hI he1
  clear he1
  obtain ⟨z0, z1, z2, z3, z4, z5, zf⟩ := blk6d H31.out
  have hlz := blk_lt H31.out
  go_wp2_with fail
  obtain ⟨w99, hw99⟩ : ∃ w99, w99 = put6d w1 (b + 3) (.bool false) (.int .i64 0) (.int .i64 0) (.int .i64 0) (.int .i64 0) (.int .i64 0) := ⟨_, rfl⟩
  have HX99 := hI (show Ext w w99 by rw [hw99]; exact (put6d_chg _ _).ext HX1.out (by have := HB.out; simp; omega))
  have h99 : w99.heap[b + 3]? = some (.cells #[.bool false, .int .i64 0, .int .i64 0, .int .i64 0, .int .i64 0, .int .i64 0] 40 (0, 0)) := by rw [hw99]; exact put6d_blk H31.out
  unfold put6d at hw99
  rw [<- hw99]
  clear hw99 z0 z1 z2 z3 z4 z5 zf hlz
  obtain ⟨z0, z1, z2, z3, z4, z5, zf⟩ := blk6d h99
  refine bodyPost_ret (v := .tuple #[.agg (Psn.cells ⟨false, 0, 0, 0, 0, 0⟩), .int .i64 E1]) (by simp [results, Tryz.results5, go_sem, Psn.cells, z0, z1, z2, z3, z4, z5]) rfl ?_
  exact ⟨⟨false, 0, 0, 0, 0, 0⟩, E1, rfl, fun h => absurd h HNE.out, HX99.out⟩
 subst he1
 go_wp2_with fail
 refine (HRT.out w1 HX1.out).mono ?_
 rintro r w2 ⟨rfl, hx2⟩
 have HX2 := hI (HX1.out.trans hx2)
 have HS2 := hI (HS1.out.ext hx2)
 clear hx2 HX1 HS1 H31 HRT
 have H32 := hI HS2.out.h3
 by_cases he2 : E2 = 0
 case neg =>
  have t1 : (E2 != 0) = true := by simp [he2]
  have HNE := hI he2
  clear he2
  obtain ⟨z0, z1, z2, z3, z4, z5, zf⟩ := blk6d H32.out
  have hlz := blk_lt H32.out
  go_wp2_with fail
  obtain ⟨w99, hw99⟩ : ∃ w99, w99 = put6d w2 (b + 3) (.bool false) (.int .i64 0) (.int .i64 0) (.int .i64 0) (.int .i64 0) (.int .i64 0) := ⟨_, rfl⟩
  have HX99 := hI (show Ext w w99 by rw [hw99]; exact (put6d_chg _ _).ext HX2.out (by have := HB.out; simp; omega))
  have h99 : w99.heap[b + 3]? = some (.cells #[.bool false, .int .i64 0, .int .i64 0, .int .i64 0, .int .i64 0, .int .i64 0] 40 (0, 0)) := by rw [hw99]; exact put6d_blk H32.out
  unfold put6d at hw99
  rw [<- hw99]
  clear hw99 z0 z1 z2 z3 z4 z5 zf hlz
  obtain ⟨z0, z1, z2, z3, z4, z5, zf⟩ := blk6d h99
  refine bodyPost_ret (v := .tuple #[.agg (Psn.cells ⟨false, 0, 0, 0, 0, 0⟩), .int .i64 E2]) (by simp [results, Tryz.results5, go_sem, Psn.cells, z0, z1, z2, z3, z4, z5]) rfl ?_
  exact ⟨⟨false, 0, 0, 0, 0, 0⟩, E2, rfl, fun h => absurd h HNE.out, HX99.out⟩
 subst he2
 go_wp2_with fail
 refine (HCU.out w2).mono ?_
 rintro r w3 ⟨rfl, hx3⟩
 have HX3 := hI (HX2.out.trans hx3)
 have HS3 := hI (HS2.out.ext hx3)
 clear hx3 HX2 HS2 H32 HCU
 have H33 := hI HS3.out.h3
 cases b3
 case false =>
  obtain ⟨z0, z1, z2, z3, z4, z5, zf⟩ := blk6d H33.out
  have hlz := blk_lt H33.out
  go_wp2_with fail
  obtain ⟨w99, hw99⟩ : ∃ w99, w99 = put6d w3 (b + 3) (.bool false) (.int .i64 0) (.int .i64 0) (.int .i64 0) (.int .i64 0) (.int .i64 0) := ⟨_, rfl⟩
  have HX99 := hI (show Ext w w99 by rw [hw99]; exact (put6d_chg _ _).ext HX3.out (by have := HB.out; simp; omega))
  have h99 : w99.heap[b + 3]? = some (.cells #[.bool false, .int .i64 0, .int .i64 0, .int .i64 0, .int .i64 0, .int .i64 0] 40 (0, 0)) := by rw [hw99]; exact put6d_blk H33.out
  unfold put6d at hw99
  rw [<- hw99]
  clear hw99 z0 z1 z2 z3 z4 z5 zf hlz
  obtain ⟨z0, z1, z2, z3, z4, z5, zf⟩ := blk6d h99
  refine bodyPost_ret (v := .tuple #[.agg (Psn.cells ⟨false, 0, 0, 0, 0, 0⟩), .int .i64 15]) (by simp [results, Tryz.results5, go_sem, Psn.cells, z0, z1, z2, z3, z4, z5]) rfl ?_
  exact ⟨⟨false, 0, 0, 0, 0, 0⟩, 15, rfl, fun h => by simp at h, HX99.out⟩
 go_wp2_with fail
 refine (HHO.out w3).mono ?_
 rintro r w4 ⟨rfl, hx4⟩
 have HX4 := hI (HX3.out.trans hx4)
 have HS4 := hI (HS3.out.ext hx4)
 clear hx4 HX3 HS3 H33 HHO
 have H34 := hI HS4.out.h3
 cases b4
 case false =>
  obtain ⟨z0, z1, z2, z3, z4, z5, zf⟩ := blk6d H34.out
  have hlz := blk_lt H34.out
  go_wp2_with fail
  obtain ⟨w99, hw99⟩ : ∃ w99, w99 = put6d w4 (b + 3) (.bool false) (.int .i64 0) (.int .i64 0) (.int .i64 0) (.int .i64 0) (.int .i64 0) := ⟨_, rfl⟩
  have HX99 := hI (show Ext w w99 by rw [hw99]; exact (put6d_chg _ _).ext HX4.out (by have := HB.out; simp; omega))
  have h99 : w99.heap[b + 3]? = some (.cells #[.bool false, .int .i64 0, .int .i64 0, .int .i64 0, .int .i64 0, .int .i64 0] 40 (0, 0)) := by rw [hw99]; exact put6d_blk H34.out
  unfold put6d at hw99
  rw [<- hw99]
  clear hw99 z0 z1 z2 z3 z4 z5 zf hlz
  obtain ⟨z0, z1, z2, z3, z4, z5, zf⟩ := blk6d h99
  refine bodyPost_ret (v := .tuple #[.agg (Psn.cells ⟨false, 0, 0, 0, 0, 0⟩), .int .i64 1]) (by simp [results, Tryz.results5, go_sem, Psn.cells, z0, z1, z2, z3, z4, z5]) rfl ?_
  exact ⟨⟨false, 0, 0, 0, 0, 0⟩, 1, rfl, fun h => by simp at h, HX99.out⟩
 obtain ⟨x0, x1, xf⟩ := blk2 HS4.out.h1
 obtain ⟨c0, c1, c2, c3, c4, c5, c6, cf⟩ := blk7 HS4.out.h2
 go_wp2_with fail
 refine (HIF.out w4 HX4.out).mono ?_
 rintro r w5 ⟨la, lc, rfl, hcl5, hx5⟩
 try dsimp only at hcl5
 have HCL5 := hI hcl5
 have HX5 := hI (HX4.out.trans hx5)
 have HS5 := hI (HS4.out.ext hx5)
 clear hx5 hcl5 HX4 HS4 H34 HIF x0 x1 xf c0 c1 c2 c3 c4 c5 c6 cf
 have H35 := hI HS5.out.h3
 by_cases he5 : Le = 0
 case neg =>
  have t1 : (Le != 0) = true := by simp [he5]
  have HNE := hI he5
  clear he5
  obtain ⟨z0, z1, z2, z3, z4, z5, zf⟩ := blk6d H35.out
  have hlz := blk_lt H35.out
  go_wp2_with fail
  obtain ⟨w99, hw99⟩ : ∃ w99, w99 = put6d w5 (b + 3) (.bool false) (.int .i64 0) (.int .i64 0) (.int .i64 0) (.int .i64 0) (.int .i64 0) := ⟨_, rfl⟩
  have HX99 := hI (show Ext w w99 by rw [hw99]; exact (put6d_chg _ _).ext HX5.out (by have := HB.out; simp; omega))
  have h99 : w99.heap[b + 3]? = some (.cells #[.bool false, .int .i64 0, .int .i64 0, .int .i64 0, .int .i64 0, .int .i64 0] 40 (0, 0)) := by rw [hw99]; exact put6d_blk H35.out
  unfold put6d at hw99
  rw [<- hw99]
  clear hw99 z0 z1 z2 z3 z4 z5 zf hlz
  obtain ⟨z0, z1, z2, z3, z4, z5, zf⟩ := blk6d h99
  refine bodyPost_ret (v := .tuple #[.agg (Psn.cells ⟨false, 0, 0, 0, 0, 0⟩), .int .i64 Le]) (by simp [results, Tryz.results5, go_sem, Psn.cells, z0, z1, z2, z3, z4, z5]) rfl ?_
  exact ⟨⟨false, 0, 0, 0, 0, 0⟩, Le, rfl, fun h => absurd h HNE.out, HX99.out⟩
 subst he5
 obtain ⟨s0, sf⟩ := blk1 HS5.out.h0
 unfold clsV at HCL
 go_wp2_with fail
 refine (HCL.out la L1.length lc w5 HX5.out HCL5.out HFT.out.1).mono ?_
 rintro r w6 ⟨rfl, hx6⟩
 have HCL6 := hI (HCL5.out.ext hx6)
 have HX6 := hI (HX5.out.trans hx6)
 have HS6 := hI (HS5.out.ext hx6)
 clear hx6 HX5 HS5 H35 HCL HCL5 s0 sf
 have H36 := hI HS6.out.h3
 obtain ⟨f1, f2⟩ := CC
 try dsimp only
 by_cases he6 : f2 = 0
 case neg =>
  have t1 : (f2 != 0) = true := by simp [he6]
  have HNE := hI he6
  clear he6
  obtain ⟨z0, z1, z2, z3, z4, z5, zf⟩ := blk6d H36.out
  have hlz := blk_lt H36.out
  go_wp2_with fail
  obtain ⟨w99, hw99⟩ : ∃ w99, w99 = put6d w6 (b + 3) (.bool false) (.int .i64 0) (.int .i64 0) (.int .i64 0) (.int .i64 0) (.int .i64 0) := ⟨_, rfl⟩
  have HX99 := hI (show Ext w w99 by rw [hw99]; exact (put6d_chg _ _).ext HX6.out (by have := HB.out; simp; omega))
  have h99 : w99.heap[b + 3]? = some (.cells #[.bool false, .int .i64 0, .int .i64 0, .int .i64 0, .int .i64 0, .int .i64 0] 40 (0, 0)) := by rw [hw99]; exact put6d_blk H36.out
  unfold put6d at hw99
  rw [<- hw99]
  clear hw99 z0 z1 z2 z3 z4 z5 zf hlz
  obtain ⟨z0, z1, z2, z3, z4, z5, zf⟩ := blk6d h99
  refine bodyPost_ret (v := .tuple #[.agg (Psn.cells ⟨false, 0, 0, 0, 0, 0⟩), .int .i64 f2]) (by simp [results, Tryz.results5, go_sem, Psn.cells, z0, z1, z2, z3, z4, z5]) rfl ?_
  exact ⟨⟨false, 0, 0, 0, 0, 0⟩, f2, rfl, fun h => absurd h HNE.out, HX99.out⟩
 subst he6
 obtain ⟨c0, c1, c2, c3, c4, c5, c6, cf⟩ := blk7 HS6.out.h2
 go_wp2_with fail
 refine (HIT.out w6 HX6.out).mono ?_
 rintro r w7 ⟨ia, ni, ic, rfl, hit, hx7⟩
 have HIT7 := hI hit
 have HCL7 := hI (HCL6.out.ext hx7)
 have HX7 := hI (HX6.out.trans hx7)
 have HS7 := hI (HS6.out.ext hx7)
 clear hx7 hit HX6 HS6 H36 HIT HCL6 c0 c1 c2 c3 c4 c5 c6 cf
 have H37 := hI HS7.out.h3
 have HCM := hI (clm_items HE1.out.symm)
 obtain ⟨KP, hKP⟩ : ∃ KP, KP = itsKn EF := ⟨_, rfl⟩
 have HKM := hI (show KP.2.length <= 64 /\ ∀ y ∈ KP.2, ItOk s y by
  rw [hKP]
  unfold itsKn
  split
  ·rcases itsK_mem EF (false, []) with e | ⟨x, hx, e⟩
   ·unfold itsK; rw [e]; simp
   unfold itsK; rw [e]
   have := HCM.out.2 x (HEM.out x hx)
   exact ⟨this.2.1, this.2.2.1⟩
  simp)
 rw [<- hKP] at HIT7 ⊢
 obtain ⟨ok, its⟩ := KP
 dsimp only at HIT7 HKM
 try dsimp only
 clear hKP
 cases ok
 case false =>
  obtain ⟨z0, z1, z2, z3, z4, z5, zf⟩ := blk6d H37.out
  have hlz := blk_lt H37.out
  go_wp2_with fail
  obtain ⟨w99, hw99⟩ : ∃ w99, w99 = put6d w7 (b + 3) (.bool false) (.int .i64 0) (.int .i64 0) (.int .i64 0) (.int .i64 0) (.int .i64 0) := ⟨_, rfl⟩
  have HX99 := hI (show Ext w w99 by rw [hw99]; exact (put6d_chg _ _).ext HX7.out (by have := HB.out; simp; omega))
  have h99 : w99.heap[b + 3]? = some (.cells #[.bool false, .int .i64 0, .int .i64 0, .int .i64 0, .int .i64 0, .int .i64 0] 40 (0, 0)) := by rw [hw99]; exact put6d_blk H37.out
  unfold put6d at hw99
  rw [<- hw99]
  clear hw99 z0 z1 z2 z3 z4 z5 zf hlz
  obtain ⟨z0, z1, z2, z3, z4, z5, zf⟩ := blk6d h99
  refine bodyPost_ret (v := .tuple #[.agg (Psn.cells ⟨false, 0, 0, 0, 0, 0⟩), .int .i64 0]) (by simp [results, Tryz.results5, go_sem, Psn.cells, z0, z1, z2, z3, z4, z5]) rfl ?_
  exact ⟨⟨false, 0, 0, 0, 0, 0⟩, 0, rfl, fun _ => psn_zero, HX99.out⟩
 have HNI := hI HIT7.out.len
 have hni : ni <= 64 := by have := HNI.out; have := HKM.out.1; omega
 obtain ⟨s0, sf⟩ := blk1 HS7.out.h0
 go_wp2_with fail
 refine (HAP.out its (by rw [<- HCC.out]) HKM.out.2 HKM.out.1 la L1.length lc ia ni ic w7 HX7.out HCL7.out HIT7.out).mono ?_
 rintro r w8 ⟨AL, aa, ac, rfl, hal, har, ham, hx8⟩
 have HAL := hI hal
 have HAR := hI har
 have HAM := hI ham
 have HX8 := hI (HX7.out.trans hx8)
 have HS8 := hI (HS7.out.ext hx8)
 clear hx8 hal har ham HX7 HS7 H37 HAP HCL7 HIT7 s0 sf HCC HKM
 go_wp2_with fail
 go_loopw [24, 25] (NetL ni w8) (fun _ i _ => ni - (intOf i).toNat)
 case atStart => exact ⟨0, 0, rfl, rfl, Nat.zero_le _, Nat.zero_le _, Ext.refl _⟩
 case round =>
  obtain ⟨k, z, rfl, rfl, hk, hz, hx⟩ := hrel
  obtain ⟨w9, rfl⟩ : ∃ w9 : World, w9 = wr := ⟨_, rfl⟩
  have HX9 := hI hx
  clear hx
  by_cases hkn : k < ni
  ·have t1 : decide ((k : Int) < (ni : Int)) = true := decide_eq_true (by omega)
   have hkl : k < AL.length := by rw [HAL.out]; exact hkn
   obtain ⟨ab, ao, rfl, hcell⟩ := HAR.out.2.2.2 k hkl
   have g8 := HX9.out.cell (hcell 8 (by simp [Adj.cells]))
   have hnt := HAM.out _ (List.getElem_mem hkl)
   obtain ⟨nt, hnt2⟩ : ∃ nt, nt = AL[k].net := ⟨_, rfl⟩
   rw [show AL[k].cells[8]'(by simp [Adj.cells]) = .int .i64 (nt : Int) by rw [hnt2]; rfl] at g8
   rw [<- hnt2] at hnt
   clear hcell hnt2
   go_wp2_with fail
   go_roundw
   case rel => exact ⟨k + 1, z + nt, by go_num, by go_num, by omega, by omega, HX9.out⟩
   case measure => simp [intOf]; omega
  have t1 : decide ((k : Int) < (ni : Int)) = false := decide_eq_false (by omega)
  have hz2 : z <= 68719476736 := by omega
  have HXA := hI (HX8.out.trans HX9.out)
  have HSA := hI (HS8.out.ext HX9.out)
  clear HX8 HS8
  obtain ⟨c0, c1, c2, c3, c4, c5, c6, cf⟩ := blk7 HSA.out.h2
  go_wp2_with fail
  refine (HEV.out w9 HXA.out).mono ?_
  rintro r w10 ⟨va, vn, vc, rfl, hev, hx10⟩
  have HEV10 := hI hev
  have HVN := hI hev.len
  have HX10 := hI (HXA.out.trans hx10)
  have HS10 := hI (HSA.out.ext hx10)
  have hvn : vn <= 64 := by have := HVN.out; have := HEL.out; have := HCM.out.1; omega
  clear hev hx10 HXA HSA HEV HX9 c0 c1 c2 c3 c4 c5 c6 cf
  go_wp2_with fail
  go_loopw [26, 27, 28, 30] (PayL vn w10) (fun _ _ _ i _ => vn - (intOf i).toNat)
  case atStart => exact ⟨0, true, 0, 0, rfl, rfl, rfl, rfl, Nat.zero_le _, by omega, by omega, Ext.refl _⟩
  case round =>
   obtain ⟨q, ob, pz, rz, rfl, rfl, rfl, rfl, hq, hpz, hrz, hx⟩ := hrel
   obtain ⟨w11, rfl⟩ : ∃ w11 : World, w11 = wr := ⟨_, rfl⟩
   have HX11 := hI hx
   clear hx
   by_cases hqn : q < vn
   ·have t2 : decide ((q : Int) < (vn : Int)) = true := decide_eq_true (by omega)
    have hql : q < EF.length := by have := HVN.out; omega
    obtain ⟨vb, vo, v, rfl, hvx, -, hrow⟩ := (HEV10.out.ext HX11.out).at hql
    obtain ⟨d0, d1, d2, d3, d4, d5, d6⟩ := hrow.seven
    have HVE := hI (show ((v.x.kind = 3 \/ v.x.kind = 4) -> 1 <= v.x.amount /\ v.x.amount <= 1073741824) /\ 1 <= v.x.kind /\ v.x.kind <= 7 by
     have := HCM.out.2 _ (HEM.out _ (List.getElem_mem hql))
     rw [<- hvx] at this
     exact this.2.2.2)
    clear hrow hvx
    obtain ⟨kd, hkd⟩ : ∃ kd, kd = v.x.kind := ⟨_, rfl⟩
    rw [<- hkd] at d2 HVE
    clear hkd
    by_cases k1 : kd = 1
    ·subst k1
     go_wp2_with fail
     go_roundw
     case rel => exact ⟨q + 1, true, pz, rz, by go_num, rfl, rfl, rfl, by omega, by omega, by omega, HX11.out⟩
     case measure => simp [intOf]; omega
    have u1 : (kd == 1) = false := by simp [k1]
    by_cases k6 : kd = 6
    ·subst k6
     go_wp2_with fail
     go_roundw
     case rel => exact ⟨q + 1, true, pz, rz, by go_num, rfl, rfl, rfl, by omega, by omega, by omega, HX11.out⟩
     case measure => simp [intOf]; omega
    have u6 : (kd == 6) = false := by simp [k6]
    by_cases k5 : kd = 5
    ·subst k5
     go_wp2_with fail
     go_roundw
     case rel => exact ⟨q + 1, false, pz, rz, by go_num, rfl, rfl, rfl, by omega, by omega, by omega, HX11.out⟩
     case measure => simp [intOf]; omega
    have u5 : (kd == 5) = false := by simp [k5]
    by_cases kp : kd = 3 \/ kd = 4
    case neg =>
     have u3 : (kd == 3) = false := by simp; omega
     have u4 : (kd == 4) = false := by simp; omega
     clear k1 k6 k5 kp
     go_wp2_with fail
     go_roundw
     case rel => exact ⟨q + 1, ob, pz, rz, by go_num, rfl, rfl, rfl, by omega, by omega, by omega, HX11.out⟩
     case measure => simp [intOf]; omega
    obtain ⟨am, ham⟩ : ∃ am : Nat, v.x.amount = (am : Int) := ⟨v.x.amount.toNat, by have := HVE.out.1 kp; omega⟩
    have ham2 : am <= 1073741824 := by have := HVE.out.1 kp; omega
    have HCW := hI (fun W (hW : Ext w W) => show Calls _ _ _ W (GivesE (.tuple #[.int .i64 (convV rts v.x.cur am cur v.x.known).1, .int .i64 (convV rts v.x.cur am cur v.x.known).2]) W) from HCV.out v.x.cur am v.x.known (by omega) W hW)
    obtain ⟨CV, hCVe⟩ : ∃ CV, CV = convV rts v.x.cur am cur v.x.known := ⟨_, rfl⟩
    have HCI := hI (show CV.2 = 0 -> 0 <= CV.1 /\ CV.1 <= 17592186044416 by rw [hCVe]; exact fun h => convV_in h ham2)
    rw [<- hCVe] at HCW
    obtain ⟨cn, ce⟩ := CV
    dsimp only at HCI HCW
    rw [ham] at d5
    have D1 := win_cell d1
    have D4 := win_cell d4
    have D5 := win_cell d5
    clear hCVe ham k1 k6 k5 HVE d0 d3 d6
    rcases kp with rfl | rfl
    ·go_wp2_with fail
     refine chn_ext 24 ?_
     repeat (refine chn_plain ?_; intro K hK; go_big_quiet_op; go_big_quiet_on)
     refine chn_ge (fun W hW => HCW.out W ((HX10.out.trans HX11.out).trans hW)) ?_
     intro K hK; go_simp; go_big_quiet_on
     repeat (refine chn_plain ?_; intro K hK; go_big_quiet_op; go_big_quiet_on)
     refine chn_nil fun w12 hx12 _ _ => ?_
     have HX12 := hI (HX11.out.trans hx12)
     have D2 := hx12.cell d2
     clear hx12 D1 D4 D5 d1 d2 d4 d5
     by_cases hce : ce = 0
     case neg =>
      have t3 : (ce != 0) = true := by simp [hce]
      have HNE := hI hce
      have HXZ := hI (HX10.out.trans HX12.out)
      have H3Z := hI (HS10.out.ext HX12.out).h3
      clear hce
      obtain ⟨z0, z1, z2, z3, z4, z5, zf⟩ := blk6d H3Z.out
      have hlz := blk_lt H3Z.out
      go_wp2_with fail
      obtain ⟨w99, hw99⟩ : ∃ w99, w99 = put6d w12 (b + 3) (.bool false) (.int .i64 0) (.int .i64 0) (.int .i64 0) (.int .i64 0) (.int .i64 0) := ⟨_, rfl⟩
      have HX99 := hI (show Ext w w99 by rw [hw99]; exact (put6d_chg _ _).ext HXZ.out (by have := HB.out; simp; omega))
      have h99 : w99.heap[b + 3]? = some (.cells #[.bool false, .int .i64 0, .int .i64 0, .int .i64 0, .int .i64 0, .int .i64 0] 40 (0, 0)) := by rw [hw99]; exact put6d_blk H3Z.out
      unfold put6d at hw99
      rw [<- hw99]
      clear hw99 z0 z1 z2 z3 z4 z5 zf hlz
      obtain ⟨z0, z1, z2, z3, z4, z5, zf⟩ := blk6d h99
      refine bodyPost_ret (v := .tuple #[.agg (Psn.cells ⟨false, 0, 0, 0, 0, 0⟩), .int .i64 ce]) (by simp [results, Tryz.results5, go_sem, Psn.cells, z0, z1, z2, z3, z4, z5]) rfl ?_
      exact ⟨⟨false, 0, 0, 0, 0, 0⟩, ce, rfl, fun h => absurd h HNE.out, HX99.out⟩
     subst hce
     obtain ⟨cm, hcm⟩ : ∃ cm : Nat, cn = (cm : Int) := ⟨cn.toNat, by have := HCI.out rfl; omega⟩
     subst hcm
     have hcm2 : (cm : Int) <= 17592186044416 := by have := HCI.out rfl; omega
     go_wp2_with fail
     go_roundw
     case rel => exact ⟨q + 1, ob, pz + cm, rz, by go_num, rfl, by go_num, by go_num, by omega, by omega, by omega, HX12.out⟩
     case measure => simp [intOf]; omega
    go_wp2_with fail
    refine chn_ext 24 ?_
    repeat (refine chn_plain ?_; intro K hK; go_big_quiet_op; go_big_quiet_on)
    refine chn_ge (fun W hW => HCW.out W ((HX10.out.trans HX11.out).trans hW)) ?_
    intro K hK; go_simp; go_big_quiet_on
    repeat (refine chn_plain ?_; intro K hK; go_big_quiet_op; go_big_quiet_on)
    refine chn_nil fun w12 hx12 _ _ => ?_
    have HX12 := hI (HX11.out.trans hx12)
    have D2 := hx12.cell d2
    clear hx12 D1 D4 D5 d1 d2 d4 d5
    by_cases hce : ce = 0
    case neg =>
     have t3 : (ce != 0) = true := by simp [hce]
     have HNE := hI hce
     have HXZ := hI (HX10.out.trans HX12.out)
     have H3Z := hI (HS10.out.ext HX12.out).h3
     clear hce
     obtain ⟨z0, z1, z2, z3, z4, z5, zf⟩ := blk6d H3Z.out
     have hlz := blk_lt H3Z.out
     go_wp2_with fail
     obtain ⟨w99, hw99⟩ : ∃ w99, w99 = put6d w12 (b + 3) (.bool false) (.int .i64 0) (.int .i64 0) (.int .i64 0) (.int .i64 0) (.int .i64 0) := ⟨_, rfl⟩
     have HX99 := hI (show Ext w w99 by rw [hw99]; exact (put6d_chg _ _).ext HXZ.out (by have := HB.out; simp; omega))
     have h99 : w99.heap[b + 3]? = some (.cells #[.bool false, .int .i64 0, .int .i64 0, .int .i64 0, .int .i64 0, .int .i64 0] 40 (0, 0)) := by rw [hw99]; exact put6d_blk H3Z.out
     unfold put6d at hw99
     rw [<- hw99]
     clear hw99 z0 z1 z2 z3 z4 z5 zf hlz
     obtain ⟨z0, z1, z2, z3, z4, z5, zf⟩ := blk6d h99
     refine bodyPost_ret (v := .tuple #[.agg (Psn.cells ⟨false, 0, 0, 0, 0, 0⟩), .int .i64 ce]) (by simp [results, Tryz.results5, go_sem, Psn.cells, z0, z1, z2, z3, z4, z5]) rfl ?_
     exact ⟨⟨false, 0, 0, 0, 0, 0⟩, ce, rfl, fun h => absurd h HNE.out, HX99.out⟩
    subst hce
    obtain ⟨cm, hcm⟩ : ∃ cm : Nat, cn = (cm : Int) := ⟨cn.toNat, by have := HCI.out rfl; omega⟩
    subst hcm
    have hcm2 : (cm : Int) <= 17592186044416 := by have := HCI.out rfl; omega
    go_wp2_with fail
    go_roundw
    case rel => exact ⟨q + 1, ob, pz, rz + cm, by go_num, rfl, by go_num, by go_num, by omega, by omega, by omega, HX12.out⟩
    case measure => simp [intOf]; omega
   have t2 : decide ((q : Int) < (vn : Int)) = false := decide_eq_false (by omega)
   have HXZ := hI (HX10.out.trans HX11.out)
   have H3Z := hI (HS10.out.ext HX11.out).h3
   by_cases hp1 : (17592186044416 : Int) < (pz : Int)
   ·have t3 : decide ((17592186044416 : Int) < (pz : Int)) = true := decide_eq_true (by omega)
    obtain ⟨z0, z1, z2, z3, z4, z5, zf⟩ := blk6d H3Z.out
    have hlz := blk_lt H3Z.out
    go_wp2_with fail
    obtain ⟨w99, hw99⟩ : ∃ w99, w99 = put6d w11 (b + 3) (.bool false) (.int .i64 0) (.int .i64 0) (.int .i64 0) (.int .i64 0) (.int .i64 0) := ⟨_, rfl⟩
    have HX99 := hI (show Ext w w99 by rw [hw99]; exact (put6d_chg _ _).ext HXZ.out (by have := HB.out; simp; omega))
    have h99 : w99.heap[b + 3]? = some (.cells #[.bool false, .int .i64 0, .int .i64 0, .int .i64 0, .int .i64 0, .int .i64 0] 40 (0, 0)) := by rw [hw99]; exact put6d_blk H3Z.out
    unfold put6d at hw99
    rw [<- hw99]
    clear hw99 z0 z1 z2 z3 z4 z5 zf hlz
    obtain ⟨z0, z1, z2, z3, z4, z5, zf⟩ := blk6d h99
    refine bodyPost_ret (v := .tuple #[.agg (Psn.cells ⟨false, 0, 0, 0, 0, 0⟩), .int .i64 3]) (by simp [results, Tryz.results5, go_sem, Psn.cells, z0, z1, z2, z3, z4, z5]) rfl ?_
    exact ⟨⟨false, 0, 0, 0, 0, 0⟩, 3, rfl, fun h => by simp at h, HX99.out⟩
   have t3 : decide ((17592186044416 : Int) < (pz : Int)) = false := decide_eq_false (by omega)
   by_cases hp2 : (17592186044416 : Int) < (rz : Int)
   ·have t4 : decide ((17592186044416 : Int) < (rz : Int)) = true := decide_eq_true (by omega)
    obtain ⟨z0, z1, z2, z3, z4, z5, zf⟩ := blk6d H3Z.out
    have hlz := blk_lt H3Z.out
    go_wp2_with fail
    obtain ⟨w99, hw99⟩ : ∃ w99, w99 = put6d w11 (b + 3) (.bool false) (.int .i64 0) (.int .i64 0) (.int .i64 0) (.int .i64 0) (.int .i64 0) := ⟨_, rfl⟩
    have HX99 := hI (show Ext w w99 by rw [hw99]; exact (put6d_chg _ _).ext HXZ.out (by have := HB.out; simp; omega))
    have h99 : w99.heap[b + 3]? = some (.cells #[.bool false, .int .i64 0, .int .i64 0, .int .i64 0, .int .i64 0, .int .i64 0] 40 (0, 0)) := by rw [hw99]; exact put6d_blk H3Z.out
    unfold put6d at hw99
    rw [<- hw99]
    clear hw99 z0 z1 z2 z3 z4 z5 zf hlz
    obtain ⟨z0, z1, z2, z3, z4, z5, zf⟩ := blk6d h99
    refine bodyPost_ret (v := .tuple #[.agg (Psn.cells ⟨false, 0, 0, 0, 0, 0⟩), .int .i64 3]) (by simp [results, Tryz.results5, go_sem, Psn.cells, z0, z1, z2, z3, z4, z5]) rfl ?_
    exact ⟨⟨false, 0, 0, 0, 0, 0⟩, 3, rfl, fun h => by simp at h, HX99.out⟩
   have t4 : decide ((17592186044416 : Int) < (rz : Int)) = false := decide_eq_false (by omega)
   have HPO := hI (position_calls ob (z : Int) (pz : Int) (rz : Int) w11 (by omega) (by omega) (by omega))
   obtain ⟨PV, hPV⟩ : ∃ PV, PV = posV ob (z : Int) (pz : Int) (rz : Int) := ⟨_, rfl⟩
   have HPV := hI hPV
   rw [<- hPV] at HPO
   obtain ⟨po, pn, pp, pr, ps, pi⟩ := PV
   unfold Psn.cells at HPO
   clear hPV
   go_wp2_with fail
   refine HPO.out.mono ?_
   rintro r w12 ⟨rfl, hx12⟩
   have HX12 := hI (HXZ.out.trans hx12)
   have H3Y := hI (hx12.blk H3Z.out)
   clear hx12
   obtain ⟨z0, z1, z2, z3, z4, z5, zf⟩ := blk6d H3Y.out
   have hlz := blk_lt H3Y.out
   go_wp2_with fail
   obtain ⟨w99, hw99⟩ : ∃ w99, w99 = put6d w12 (b + 3) (.bool po) (.int .i64 pn) (.int .i64 pp) (.int .i64 pr) (.int .i64 ps) (.int .i64 pi) := ⟨_, rfl⟩
   have HX99 := hI (show Ext w w99 by rw [hw99]; exact (put6d_chg _ _).ext HX12.out (by have := HB.out; simp; omega))
   have h99 : w99.heap[b + 3]? = some (.cells #[.bool po, .int .i64 pn, .int .i64 pp, .int .i64 pr, .int .i64 ps, .int .i64 pi] 40 (0, 0)) := by rw [hw99]; exact put6d_blk H3Y.out
   unfold put6d at hw99
   rw [<- hw99]
   clear hw99 z0 z1 z2 z3 z4 z5 zf hlz
   obtain ⟨z0, z1, z2, z3, z4, z5, zf⟩ := blk6d h99
   refine bodyPost_ret (v := .tuple #[.agg (Psn.cells ⟨po, pn, pp, pr, ps, pi⟩), .int .i64 0]) (by simp [results, Tryz.results5, go_sem, Psn.cells, z0, z1, z2, z3, z4, z5]) rfl ?_
   refine ⟨⟨po, pn, pp, pr, ps, pi⟩, 0, rfl, fun _ => ?_, HX99.out⟩
   rw [HPV.out]
   exact ⟨⟨by show (0 : Int) <= (z : Int); omega, by show (z : Int) <= _; omega⟩, ⟨by show (0 : Int) <= (pz : Int); omega, by show (pz : Int) <= _; omega⟩, ⟨by show (0 : Int) <= (rz : Int); omega, by show (rz : Int) <= _; omega⟩, rfl⟩
theorem sameIntsF_calls (l m : ZI) (a : OA) (n c : Nat) (b : OA) (k d : Nat) (w : World) (hl : IsIntF w l a n) (hm : IsIntF w m b k) (hn : n <= 1000000000000000) :
  Calls Tryz.prog 28 #[.slice a n c, .slice b k d] w (GivesD (.bool (decide (l = m))) w) := by
 have HL := hI hl
 have HM := hI hm
 have HNL := hI hl.1
 have HNM := hI hm.1
 clear hl hm
 by_cases hnk : n = k
 ·subst hnk
  have t0 : ((n : Int) != (n : Int)) = false := by simp
  have HLL := hI (show l.length = m.length by rw [<- HNL.out, <- HNM.out])
  go_enter Tryz.func28, Tryz.ntmps28
  go_wp2_with fail
  go_loopw [5] (fun t wr => ∃ j : Nat, t = .int .i64 j /\ j <= n /\ (∀ i (h1 : i < l.length) (h2 : i < m.length), i < j -> l[i] = m[i]) /\ ∃ q, wr = w.drewN q) (fun t _ => n - (intOf t).toNat)
  case atStart => exact ⟨0, rfl, by omega, fun i _ _ h => by omega, 0, rfl⟩
  case round =>
   obtain ⟨j, rfl, hj, hsame, q, rfl⟩ := hrel
   have HS := hI hsame
   clear hsame
   by_cases hjn : j < n
   ·have hj1 : j < l.length := by have := HNL.out; omega
    have hj2 : j < m.length := by have := HNM.out; omega
    obtain ⟨b1, off1, rfl, c1⟩ := HL.out.2 j hj1
    obtain ⟨b2, off2, rfl, c2⟩ := HM.out.2 j hj2
    have t1 : decide ((j : Int) < (n : Int)) = true := by simp; omega
    have ti0 : (0 : Int) <= (j : Int) := by omega
    have ti1 : (j : Int) < (n : Int) := by omega
    cases he : (l[j] != m[j])
    ·have HE := hI he
     go_wp2_with fail
     go_quiet (fail)
     go_wp2_with fail
     go_roundw
     case rel =>
      refine ⟨j + 1, by go_num, by omega, fun i h1 h2 hi => ?_, _, rfl⟩
      by_cases e : i = j
      ·subst e; have := HE.out; simpa using this
      exact HS.out i h1 h2 (by omega)
     case measure => simp [intOf]; omega
    have HF := hI (show decide (l = m) = false by
     rw [decide_eq_false_iff_not]
     intro e
     subst e
     simp at he)
    go_wp2_with fail
    go_quiet (fail)
    go_wp2_with fail
    go_ret
    exact givesD_bool (by rw [HF.out]) ⟨_, drewN_drewN _ _ _⟩
   have t1 : decide ((j : Int) < (n : Int)) = false := by simp; omega
   go_wp2_with fail
   go_ret
   exact givesD_bool (by
    symm
    rw [decide_eq_true_eq]
    refine List.ext_getElem HLL.out fun i h1 h2 => HS.out i h1 h2 ?_
    have := HNL.out
    omega) ⟨q, rfl⟩
 have t0 : ((n : Int) != (k : Int)) = true := by simp; omega
 have HF := hI (show decide (l = m) = false by
  rw [decide_eq_false_iff_not]
  intro e
  subst e
  exact hnk (by rw [HNL.out, HNM.out]))
 go_enter Tryz.func28, Tryz.ntmps28
 go_wp2_with fail
 go_ret
 exact givesD_bool (by rw [HF.out]) ⟨0, rfl⟩
def kev : List EvV := [⟨⟨1, 10, 1, [], 0, 0, 0⟩, none, 0, 0⟩, ⟨⟨2, 20, 3, [], 0, 50, 0⟩, none, 0, 0⟩, ⟨⟨3, 30, 7, [], 0, 0, 2⟩, none, 0, 0⟩]
def kclm : Clm := ⟨1, 1, 1, 0, 0, 0, kev.map (·.x)⟩
theorem kclm_25 : (effL kclm.events 25).map (·.number) = [1, 2] := by decide +kernel
theorem kclm_30 : (effL kclm.events 30).map (·.number) = [1, 3] := by decide +kernel
theorem kclm_ok {attrs : List Attr} (h : schemaErr attrs = 0) : clmErr attrs kclm = 0 := by
 rw [clm_evs h (by decide +kernel) (by decide +kernel)]
 refine evsErr_zero fun j hj => ?_
 have : j = 0 \/ j = 1 \/ j = 2 := by simp [kclm, kev] at hj; omega
 rcases this with rfl | rfl | rfl <;> rfl
theorem kev_fit : ∀ x ∈ kclm.events, fitEv x := by
 intro x hx
 simp only [kclm, kev, List.map_cons, List.map_nil, List.mem_cons, List.mem_nil_iff, or_false] at hx
 rcases hx with rfl | rfl | rfl <;> exact ⟨rfl, rfl⟩
theorem kev_few : ∀ x ∈ kclm.events, fewEv x := by
 intro x hx
 simp only [kclm, kev, List.map_cons, List.map_nil, List.mem_cons, List.mem_nil_iff, or_false] at hx
 rcases hx with rfl | rfl | rfl <;> exact ⟨by simp, fun y h => by simp at h⟩
def GrGZ (wr : World) (_ : ZN) (_ : Nat -> Value) (W : World) : Prop := Ext wr W
theorem ints_two {w : World} {b : Nat} {x y : Int} {t : TypeId} (h : w.heap[b]? = some (.cells #[.int .i64 x, .int .i64 y] t (0, 0))) : IsIntF w [x, y] (some ⟨b, 0, none⟩) 2 := by
 refine ⟨rfl, fun i hi => ⟨b, 0, rfl, ?_⟩⟩
 rw [Nat.zero_add, blk_cell h]
 have : i = 0 \/ i = 1 := by simp at hi; omega
 rcases this with rfl | rfl <;> rfl
theorem kev_is {w : World} {b : Nat} {t : TypeId} (h : w.heap[b]? = some (.cells (kev.flatMap EvV.cells).toArray t (0, 0))) : IsEvs w kclm.events (some ⟨b, 0, none⟩) 3 3 := by
 refine ⟨kev, ⟨rfl, Nat.le_refl _, Or.inr ⟨b, 0, rfl⟩, fun i hi => ⟨b, 0, rfl, fun j hj => ?_⟩⟩, rfl, fun u hu => ?_⟩
 ·have := flatMap_at EvV.cells 7 EvV.len kev i hi j hj
  rw [Nat.zero_add, blk_cell h]
  simpa using this
 simp only [kev, List.mem_cons, List.mem_nil_iff, or_false] at hu
 rcases hu with rfl | rfl | rfl <;> exact IsIts.nil _
def awk18R (w : World) : Nat -> Value -> World -> Prop
 | 0, u, _ => u = .agg #[.int .i64 1, .int .i64 1, .int .i64 1, .int .i64 0, .int .i64 0, .int .i64 0, .slice (some ⟨w.heap.size, 0, none⟩) 3 3]
 | 1, u, W => ∃ (a1 : OA) (d1 : Nat), u = .slice a1 2 d1 /\ IsIntF W [1, 2] a1 2
 | 2, u, W => ∃ (b2 : Nat), u = .slice (some ⟨b2, 0, none⟩) 2 2 /\ W.heap[b2]? = some (.cells #[.int .i64 1, .int .i64 2] 3 (0, 0))
 | 3, u, _ => u = .bool true
 | 4, u, _ => u = .bool true
 | 5, u, _ => u = .agg #[.int .i64 1, .int .i64 1, .int .i64 1, .int .i64 0, .int .i64 0, .int .i64 0, .slice (some ⟨w.heap.size, 0, none⟩) 3 3]
 | 6, u, W => ∃ (a6 : OA) (d6 : Nat), u = .slice a6 2 d6 /\ IsIntF W [1, 3] a6 2
 | 7, u, W => ∃ (b7 : Nat), u = .slice (some ⟨b7, 0, none⟩) 2 2 /\ W.heap[b7]? = some (.cells #[.int .i64 1, .int .i64 3] 3 (0, 0))
 | 8, u, _ => u = .bool true
 | 9, u, _ => u = .bool true
 | 10, u, _ => u = .bool true
 | 11, u, W => ∃ (attrs : List Attr) (va : OA) (vn : Nat) (vc : Nat), u = .agg #[.slice va vn vc] /\ (attrs ∈ schemas /\ IsSchema W attrs (.agg #[.slice va vn vc]))
 | 12, u, _ => u = .agg #[.int .i64 1, .int .i64 1, .int .i64 1, .int .i64 0, .int .i64 0, .int .i64 0, .slice (some ⟨w.heap.size, 0, none⟩) 3 3]
 | 13, u, _ => u = .int .i64 0
 | 14, u, _ => u = .bool true
 | 15, u, _ => u = .bool true
 | _, u, _ => u = .bool true
theorem awake18_calls (w : World) : Calls Tryz.prog 6 #[] w (GivesE (.bool true) w) := by
 obtain ⟨wa, hwa⟩ : ∃ wa, wa = w.alloc (.cells #[.int .i64 1, .int .i64 10, .int .i64 1, .slice none 0 0, .int .i64 0, .int .i64 0, .int .i64 0, .int .i64 2, .int .i64 20, .int .i64 3, .slice none 0 0, .int .i64 0, .int .i64 50, .int .i64 0, .int .i64 3, .int .i64 30, .int .i64 7, .slice none 0 0, .int .i64 0, .int .i64 0, .int .i64 2] 71) := ⟨_, rfl⟩
 have hka : wa.heap[w.heap.size]? = some (.cells (kev.flatMap EvV.cells).toArray 71 (0, 0)) := by rw [hwa]; exact alloc_new w _
 obtain ⟨wb, hwb⟩ : ∃ wb, wb = wa.alloc (.cells #[.int .i64 1, .int .i64 1, .int .i64 1, .int .i64 0, .int .i64 0, .int .i64 0, .slice (some ⟨w.heap.size, 0, none⟩) 3 3] 33) := ⟨_, rfl⟩
 have HXB := hI (show Ext w wb by rw [hwb, hwa]; exact ((Ext.refl _).alloc _).alloc _)
 have HKB := hI (show wb.heap[w.heap.size]? = some (.cells (kev.flatMap EvV.cells).toArray 71 (0, 0)) by rw [hwb]; exact blk_alloc hka)
 obtain ⟨bc, hbc⟩ : ∃ bc, bc = wa.heap.size := ⟨_, rfl⟩
 have HBB := hI (show wb.heap[bc]? = some (.cells #[.int .i64 1, .int .i64 1, .int .i64 1, .int .i64 0, .int .i64 0, .int .i64 0, .slice (some ⟨w.heap.size, 0, none⟩) 3 3] 33 (0, 0)) by rw [hwb, hbc]; exact alloc_new wa _)
 have HEF := hI (fun (h : Int) W (hW : Ext wb W) => effs_calls kclm (some ⟨w.heap.size, 0, none⟩) 3 3 h W (kev_is (hW.blk HKB.out)) (by omega) kev_fit)
 have HSM := hI (fun (l : ZI) a c b W (h1 : IsIntF W l a 2) (h2 : IsIntF W l (some ⟨b, 0, none⟩) 2) => sameIntsF_calls l l a 2 c (some ⟨b, 0, none⟩) 2 2 W h1 h2 (by omega))
 have HVD := hI (fun (attrs : List Attr) (v : Value) W (hW : Ext wb W) (hm : attrs ∈ schemas) (hs : IsSchema W attrs v) => cvalidate_calls attrs v kclm (some ⟨w.heap.size, 0, none⟩) 3 3 W hs (attrs_fits hm) (by have := (schemas_ok attrs hm).2.2; omega) (kev_is (hW.blk HKB.out)) (by omega) kev_few)
 have hwb2 : bc = w.heap.size + 1 := by rw [hbc, hwa]; simp
 obtain ⟨c0, c1, c2, c3, c4, c5, c6, cf⟩ := blk7 HBB.out
 unfold ClmArg kclm at HEF HVD
 dsimp only at HEF HVD
 go_enter Tryz.func6, Tryz.ntmps6
 go_upto_region 2 with fail
 rw [<- hwa, <- hwb, <- hwb2]
 clear hwa hwb hka hbc hwb2
 refine wp_region_growLG (n := 23) (m := 17) [16] (GrGZ wb) GrE (GrP (awk18R w)) (by kernel_rfl) (by kernel_rfl) (Nat.le_of_ble_eq_true rfl) ?gd ((Ext.refl wb).drew) ?_ ?_ ?_
 case gd =>
  intro i o j b hi ho hg
  have hi' : i = 0 \/ i = 1 \/ i = 2 \/ i = 3 \/ i = 4 \/ i = 5 \/ i = 6 \/ i = 7 \/ i = 8 \/ i = 9 \/ i = 10 \/ i = 11 \/ i = 12 \/ i = 13 \/ i = 14 \/ i = 15 \/ i = 16 := by omega
  rcases hi' with rfl | rfl | rfl | rfl | rfl | rfl | rfl | rfl | rfl | rfl | rfl | rfl | rfl | rfl | rfl | rfl | rfl <;> (cases ho; first | (cases hg; done) | (cases hg; intro v W h; exact h))
 ·intro i k v W W' hi hk hne hout h hE
  have hE : Ext W W' := hE
  have hi' : i = 0 \/ i = 1 \/ i = 2 \/ i = 3 \/ i = 4 \/ i = 5 \/ i = 6 \/ i = 7 \/ i = 8 \/ i = 9 \/ i = 10 \/ i = 11 \/ i = 12 \/ i = 13 \/ i = 14 \/ i = 15 \/ i = 16 := by omega
  clear hi hk hne hout
  rcases hi' with rfl | rfl | rfl | rfl | rfl | rfl | rfl | rfl | rfl | rfl | rfl | rfl | rfl | rfl | rfl | rfl | rfl
  ·exact h
  ·obtain ⟨a1, d1, e0, h⟩ := h
   exact ⟨a1, d1, e0, h.mono hE.sub⟩
  ·obtain ⟨b2, e0, h⟩ := h
   exact ⟨b2, e0, hE.blk h⟩
  ·exact h
  ·exact h
  ·exact h
  ·obtain ⟨a6, d6, e0, h⟩ := h
   exact ⟨a6, d6, e0, h.mono hE.sub⟩
  ·obtain ⟨b7, e0, h⟩ := h
   exact ⟨b7, e0, hE.blk h⟩
  ·exact h
  ·exact h
  ·exact h
  ·obtain ⟨attrs, va, vn, vc, e0, h⟩ := h
   exact ⟨attrs, va, vn, vc, e0, ⟨h.1, h.2.mono hE.sub⟩⟩
  ·exact h
  ·exact h
  ·exact h
  ·exact h
  exact h
 ·intro q op hq ho L vs W hqL hcL hW hd ρ hρ
  have hq' : q = 0 \/ q = 1 \/ q = 2 \/ q = 3 \/ q = 4 \/ q = 5 \/ q = 6 \/ q = 7 \/ q = 8 \/ q = 9 \/ q = 10 \/ q = 11 \/ q = 12 \/ q = 13 \/ q = 14 \/ q = 15 \/ q = 16 := by omega
  clear hq
  have o1 : ρ (.tmp 1) = .pointer (some ⟨bc, 0, none⟩) := hρ.out 1 rfl
  have i0 := hρ.i 0 7
  have i1 := hρ.i 1 8
  have i2 := hρ.i 2 9
  have i3 := hρ.i 3 10
  have i5 := hρ.i 5 12
  have i6 := hρ.i 6 13
  have i7 := hρ.i 7 14
  have i4 := hρ.i 4 11
  have i8 := hρ.i 8 15
  have i9 := hρ.i 9 16
  have i11 := hρ.i 11 18
  have i12 := hρ.i 12 19
  have i13 := hρ.i 13 20
  have i10 := hρ.i 10 17
  have i14 := hρ.i 14 21
  have i15 := hρ.i 15 22
  have hc := hρ.const
  have hfn := hρ.func
  clear hρ
  have HG := hI hW
  have HW := hI (show Ext wb W from hW)
  have HQL := hI hqL
  clear hW hqL hcL
  rcases hq' with rfl | rfl | rfl | rfl | rfl | rfl | rfl | rfl | rfl | rfl | rfl | rfl | rfl | rfl | rfl | rfl | rfl
  ·cases ho
   clear hd
   have g0 := HW.out.cell c0
   have g1 := HW.out.cell c1
   have g2 := HW.out.cell c2
   have g3 := HW.out.cell c3
   have g4 := HW.out.cell c4
   have g5 := HW.out.cell c5
   have g6 := HW.out.cell c6
   unfold GivesOp
   go_simp
   exact ⟨Ext.refl _, HW.out, rfl⟩
  ·cases ho
   have h0 : vs 0 = _ := hd ⟨0, .data⟩ (by simp) rfl
   rw [h0] at i0
   clear hd
   unfold GivesOp
   go_simp
   refine (HEF.out 25 W HW.out).mono ?_
   rintro r5 w5 ⟨a5, c5, rfl, hi5, hx5⟩
   have e5 := kclm_25
   unfold kclm at e5
   dsimp only at e5
   rw [e5] at hi5 ⊢
   exact ⟨_, rfl, hx5, HW.out.trans hx5, a5, c5, rfl, hi5⟩
  ·cases ho
   clear hd
   unfold GivesOp
   go_simp
   exact ⟨(Ext.refl W).alloc _, HW.out.alloc _, W.heap.size, rfl, alloc_new W _⟩
  ·cases ho
   obtain ⟨a1, d1, h1, hs1⟩ : ∃ (a1 : OA) (d1 : Nat), vs 1 = .slice a1 2 d1 /\ IsIntF W [1, 2] a1 2 := hd ⟨1, .data⟩ (by simp) rfl
   have HS1 := hI hs1
   clear hs1
   rw [h1] at i1
   obtain ⟨b2, h2, hs2⟩ : ∃ (b2 : Nat), vs 2 = .slice (some ⟨b2, 0, none⟩) 2 2 /\ W.heap[b2]? = some (.cells #[.int .i64 1, .int .i64 2] 3 (0, 0)) := hd ⟨2, .data⟩ (by simp) rfl
   have HS2 := hI hs2
   clear hs2
   rw [h2] at i2
   clear hd
   unfold GivesOp
   go_simp
   refine (HSM.out [1, 2] _ _ _ W HS1.out (ints_two HS2.out)).mono ?_
   rintro r5 w5 ⟨rfl, ⟨m5, rfl⟩⟩
   exact ⟨_, rfl, (Ext.refl W).drewN _, HW.out.trans ((Ext.refl W).drewN _), by rw [decide_eq_true rfl]; rfl⟩
  ·cases ho
   have h3 : vs 3 = _ := hd ⟨3, .data⟩ (by simp) rfl
   rw [h3] at i3
   clear hd
   unfold GivesOp
   go_simp
   exact ⟨Ext.refl _, HW.out, rfl⟩
  ·cases ho
   clear hd
   have g0 := HW.out.cell c0
   have g1 := HW.out.cell c1
   have g2 := HW.out.cell c2
   have g3 := HW.out.cell c3
   have g4 := HW.out.cell c4
   have g5 := HW.out.cell c5
   have g6 := HW.out.cell c6
   unfold GivesOp
   go_simp
   exact ⟨Ext.refl _, HW.out, rfl⟩
  ·cases ho
   have h5 : vs 5 = _ := hd ⟨5, .data⟩ (by simp) rfl
   rw [h5] at i5
   clear hd
   unfold GivesOp
   go_simp
   refine (HEF.out 30 W HW.out).mono ?_
   rintro r5 w5 ⟨a5, c5, rfl, hi5, hx5⟩
   have e5 := kclm_30
   unfold kclm at e5
   dsimp only at e5
   rw [e5] at hi5 ⊢
   exact ⟨_, rfl, hx5, HW.out.trans hx5, a5, c5, rfl, hi5⟩
  ·cases ho
   clear hd
   unfold GivesOp
   go_simp
   exact ⟨(Ext.refl W).alloc _, HW.out.alloc _, W.heap.size, rfl, alloc_new W _⟩
  ·cases ho
   obtain ⟨a6, d6, h6, hs6⟩ : ∃ (a6 : OA) (d6 : Nat), vs 6 = .slice a6 2 d6 /\ IsIntF W [1, 3] a6 2 := hd ⟨6, .data⟩ (by simp) rfl
   have HS6 := hI hs6
   clear hs6
   rw [h6] at i6
   obtain ⟨b7, h7, hs7⟩ : ∃ (b7 : Nat), vs 7 = .slice (some ⟨b7, 0, none⟩) 2 2 /\ W.heap[b7]? = some (.cells #[.int .i64 1, .int .i64 3] 3 (0, 0)) := hd ⟨7, .data⟩ (by simp) rfl
   have HS7 := hI hs7
   clear hs7
   rw [h7] at i7
   clear hd
   unfold GivesOp
   go_simp
   refine (HSM.out [1, 3] _ _ _ W HS6.out (ints_two HS7.out)).mono ?_
   rintro r5 w5 ⟨rfl, ⟨m5, rfl⟩⟩
   exact ⟨_, rfl, (Ext.refl W).drewN _, HW.out.trans ((Ext.refl W).drewN _), by rw [decide_eq_true rfl]; rfl⟩
  ·cases ho
   have h4 : vs 4 = _ := hd ⟨4, .data⟩ (by simp) rfl
   rw [h4] at i4
   have h8 : vs 8 = _ := hd ⟨8, .data⟩ (by simp) rfl
   rw [h8] at i8
   clear hd
   unfold GivesOp
   go_simp
   exact ⟨Ext.refl _, HW.out, rfl⟩
  ·cases ho
   have h9 : vs 9 = _ := hd ⟨9, .data⟩ (by simp) rfl
   rw [h9] at i9
   clear hd
   unfold GivesOp
   go_simp
   exact ⟨Ext.refl _, HW.out, rfl⟩
  ·cases ho
   clear hd
   unfold GivesOp
   go_simp
   refine (schema_calls 0 [] W (by simp)).mono ?_
   rintro r5 w5 ⟨attrs, v5, rfl, hm5, hs5, hx5⟩
   obtain ⟨va, vn, vc, rfl, -⟩ := hs5.slice
   exact ⟨_, rfl, hx5, HW.out.trans hx5, attrs, va, vn, vc, rfl, hm5, hs5.mono (mask_sub _ _)⟩
  ·cases ho
   clear hd
   have g0 := HW.out.cell c0
   have g1 := HW.out.cell c1
   have g2 := HW.out.cell c2
   have g3 := HW.out.cell c3
   have g4 := HW.out.cell c4
   have g5 := HW.out.cell c5
   have g6 := HW.out.cell c6
   unfold GivesOp
   go_simp
   exact ⟨Ext.refl _, HW.out, rfl⟩
  ·cases ho
   obtain ⟨attrs, va, vn, vc, h11, hs11⟩ : ∃ (attrs : List Attr) (va : OA) (vn : Nat) (vc : Nat), vs 11 = .agg #[.slice va vn vc] /\ (attrs ∈ schemas /\ IsSchema W attrs (.agg #[.slice va vn vc])) := hd ⟨11, .data⟩ (by simp) rfl
   have HS11 := hI hs11
   clear hs11
   rw [h11] at i11
   have h12 : vs 12 = _ := hd ⟨12, .data⟩ (by simp) rfl
   rw [h12] at i12
   clear hd
   unfold GivesOp
   go_simp
   refine (HVD.out attrs _ W HW.out HS11.out.1 HS11.out.2).mono ?_
   rintro r5 w5 ⟨rfl, hx5⟩
   have hz := kclm_ok (schema_zero HS11.out.1)
   unfold kclm at hz
   rw [hz]
   exact ⟨_, rfl, hx5, HW.out.trans hx5, rfl⟩
  ·cases ho
   have h13 : vs 13 = _ := hd ⟨13, .data⟩ (by simp) rfl
   rw [h13] at i13
   clear hd
   unfold GivesOp
   go_simp
   exact ⟨Ext.refl _, HW.out, rfl⟩
  ·cases ho
   have h10 : vs 10 = _ := hd ⟨10, .data⟩ (by simp) rfl
   rw [h10] at i10
   have h14 : vs 14 = _ := hd ⟨14, .data⟩ (by simp) rfl
   rw [h14] at i14
   clear hd
   unfold GivesOp
   go_simp
   exact ⟨Ext.refl _, HW.out, rfl⟩
  cases ho
  have h15 : vs 15 = _ := hd ⟨15, .data⟩ (by simp) rfl
  rw [h15] at i15
  clear hd
  unfold GivesOp
  go_simp
  exact ⟨Ext.refl _, HW.out, rfl⟩
 intro L vs W hLm hW hR
 rw [if_pos (by decide +kernel)]
 have h16 : vs 16 = .bool true := hR 16 (by simp) (by omega)
 simp only [acts, dstAt, List.range, List.range.loop, List.foldl_cons, List.foldl_nil, h16]
 go_simp
 have hW2 : Ext wb W := hW
 clear hR hW hLm h16
 have HW2 := hI hW2
 clear hW2
 go_wp2_with fail
 go_ret
 exact givesE_bool rfl (HXB.out.trans HW2.out)
def GnBd (w0 wr : World) (bd : Nat) (Z : Obj) (Pd : World -> Value -> Prop) (M : ZN) (kc ka : Nat) (L : ZN) (vs : Nat -> Value) (W : World) : Prop :=
 DeckAt w0 W bd /\ Chg [bd] wr W /\ (ka ∈ L -> ∃ y, vs ka = .pointer (some ⟨y, 0, none⟩) /\ W.heap[y]? = some Z /\ wr.heap.size <= y) /\
  (kc ∈ L -> ∃ Y : ZN, (∀ y, ka ∈ L -> vs ka = .pointer (some ⟨y, 0, none⟩) -> y ∈ Y) /\ Pd (mask W (Y ++ bd :: M)) (vs kc))
section
variable {w0 wr W W' : World} {bd : Nat} {Z : Obj} {Pd : World -> Value -> Prop} {M : ZN} {kc ka : Nat} {L : ZN} {vs : Nat -> Value}
theorem gnbd_start (hd : DeckAt w0 wr bd) : GnBd w0 wr bd Z Pd M kc ka [] vs wr.drew := ⟨hd.ext (Ext.refl wr).drew, (Ext.refl wr).drew.chg _, fun h => by simp at h, fun h => by simp at h⟩
theorem gnbd_ne (hZ : ∀ W, DeckAt w0 W bd -> W.heap[bd]? ≠ some Z) (hd : DeckAt w0 W bd) {y : Nat} (h : W.heap[y]? = some Z) : y ∉ [bd] := by
 intro hm
 simp only [List.mem_singleton] at hm
 subst hm
 exact hZ W hd h
theorem gnbd_step {i : Nat} {v : Value} (hP : ∀ W W' v, Sub W W' -> Pd W v -> Pd W' v) (hZ : ∀ W, DeckAt w0 W bd -> W.heap[bd]? ≠ some Z) (h1 : i ≠ kc) (h2 : i ≠ ka) (h : GnBd w0 wr bd Z Pd M kc ka L vs W) (hd : DeckAt w0 W' bd) (hx : Chg [bd] W W') : GnBd w0 wr bd Z Pd M kc ka (L ++ [i]) (upd vs i v) W' := by
 have m1 : kc ∈ L ++ [i] -> kc ∈ L := fun hm => by simp at hm; rcases hm with hm | hm; exact hm; exact absurd hm.symm h1
 have m2 : ka ∈ L ++ [i] -> ka ∈ L := fun hm => by simp at hm; rcases hm with hm | hm; exact hm; exact absurd hm.symm h2
 have u1 : upd vs i v kc = vs kc := by unfold upd; rw [if_neg (fun e => h1 e.symm)]
 have u2 : upd vs i v ka = vs ka := by unfold upd; rw [if_neg (fun e => h2 e.symm)]
 refine ⟨hd, h.2.1.then hx, fun hm => ?_, fun hm => ?_⟩
 ·rw [u2]
  obtain ⟨y, q1, q2, q3⟩ := h.2.2.1 (m2 hm)
  exact ⟨y, q1, hx.blk q2 (gnbd_ne hZ h.1 q2), q3⟩
 rw [u1, u2]
 obtain ⟨Y, q1, q2⟩ := h.2.2.2 (m1 hm)
 exact ⟨Y, fun y hy => q1 y (m2 hy), hP _ _ _ (mask_step hx (by simp)) q2⟩
theorem gnbd_call (hZ : ∀ W, DeckAt w0 W bd -> W.heap[bd]? ≠ some Z) (hka : ka ≠ kc) (hM : ∀ y ∈ bd :: M, y < wr.heap.size) (h : GnBd w0 wr bd Z Pd M kc ka L vs W) : ∃ Y : ZN, (∀ y ∈ Y ++ bd :: M, y < W.heap.size) /\ ∀ (v : Value) (W' : World), DeckAt w0 W' bd -> Chg [bd] W W' -> Pd (mask W' (Y ++ bd :: M)) v -> GnBd w0 wr bd Z Pd M kc ka (L ++ [kc]) (upd vs kc v) W' := by
 have m2 : ka ∈ L ++ [kc] -> ka ∈ L := fun hm => by simp at hm; rcases hm with hm | hm; exact hm; exact absurd hm hka
 have u1 : ∀ v, upd vs kc v kc = v := fun v => by unfold upd; rw [if_pos rfl]
 have u2 : ∀ v, upd vs kc v ka = vs ka := fun v => by unfold upd; rw [if_neg hka]
 have hs := h.2.1.size
 by_cases hk : ka ∈ L
 ·obtain ⟨y, q1, q2, q3⟩ := h.2.2.1 hk
  refine ⟨[y], fun z hz => ?_, fun v W' hd hx hp => ⟨hd, h.2.1.then hx, fun _ => ?_, fun _ => ?_⟩⟩
  ·rcases List.mem_append.1 hz with hz | hz
   ·simp only [List.mem_singleton] at hz; rw [hz]; exact blk_lt q2
   have := hM z hz; omega
  ·rw [u2]; exact ⟨y, q1, hx.blk q2 (gnbd_ne hZ h.1 q2), q3⟩
  refine ⟨[y], fun z _ hz => ?_, by rw [u1]; exact hp⟩
  rw [u2, q1] at hz
  simp only [Value.pointer.injEq, Option.some.injEq, Addr.mk.injEq, and_true] at hz
  simp [hz]
 refine ⟨[], fun z hz => ?_, fun v W' hd hx hp => ⟨hd, h.2.1.then hx, fun hm => absurd (m2 hm) hk, fun _ => ⟨[], fun z hz _ => absurd (m2 hz) hk, by rw [u1]; exact hp⟩⟩⟩
 have := hM z (by simpa using hz); omega
theorem gnbd_alloc {arr : Array Value} {t : TypeId} (hP : ∀ W W' v, Sub W W' -> Pd W v -> Pd W' v) (hka : ka ≠ kc) (hZ : Z = .cells arr t (0, 0)) (h : GnBd w0 wr bd Z Pd M kc ka L vs W) : GnBd w0 wr bd Z Pd M kc ka (L ++ [ka]) (upd vs ka (.pointer (some ⟨W.heap.size, 0, none⟩))) (W.alloc (.cells arr t)) := by
 have m1 : kc ∈ L ++ [ka] -> kc ∈ L := fun hm => by simp at hm; rcases hm with hm | hm; exact hm; exact absurd hm.symm hka
 have hx := (Ext.refl W).alloc (.cells arr t)
 have u1 : ∀ v, upd vs ka v ka = v := fun v => by unfold upd; rw [if_pos rfl]
 have u2 : ∀ v, upd vs ka v kc = vs kc := fun v => by unfold upd; rw [if_neg (fun e => hka e.symm)]
 refine ⟨h.1.ext hx, h.2.1.then (hx.chg _), fun _ => ⟨_, u1 _, by rw [hZ]; exact alloc_new W _, h.2.1.size⟩, fun hm => ?_⟩
 obtain ⟨Y, q1, q2⟩ := h.2.2.2 (m1 hm)
 refine ⟨W.heap.size :: Y, fun z _ hz => ?_, ?_⟩
 ·rw [u1] at hz
  simp only [Value.pointer.injEq, Option.some.injEq, Addr.mk.injEq, and_true] at hz
  simp [hz]
 rw [u2]
 refine hP _ _ _ (mask_sub_mask fun k hk hn => ⟨fun hm => ?_, hx.block k hk⟩) q2
 simp only [List.cons_append, List.mem_cons] at hm
 rcases hm with hm | hm
 ·omega
 exact hn hm
theorem gnbd_end (hP : ∀ W W' v, Sub W W' -> Pd W v -> Pd W' v) (h : GnBd w0 wr bd Z Pd M kc ka L vs W) (h1 : kc ∈ L) (h2 : ka ∈ L) : ∃ y, vs ka = .pointer (some ⟨y, 0, none⟩) /\ W.heap[y]? = some Z /\ wr.heap.size <= y /\ Pd (mask W (y :: bd :: M)) (vs kc) := by
 obtain ⟨y, q1, q2, q3⟩ := h.2.2.1 h2
 obtain ⟨Y, q4, q5⟩ := h.2.2.2 h1
 refine ⟨y, q1, q2, q3, hP _ _ _ (mask_less W fun z hz => ?_) q5⟩
 rcases List.mem_cons.1 hz with rfl | hz
 ·exact List.mem_append_left _ (q4 _ h2 q1)
 exact List.mem_append_right _ hz
end
end Go.Proofs.YtefjomofjejklaaGreat
