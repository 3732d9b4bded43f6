/-
  Texts of the claim, joined: Ver.
-/
import Derived.Test.YtpkljcgihobaiaaGreatDoorSo21
namespace Go.Proofs.YtpkljcgihobaiaaGreatDoor
set_option maxRecDepth 100000
set_option maxHeartbeats 32000000
open Go.RowKit Go.Maps
def singB (p : Pr) (P : Pr -> Bool) : Bool := (p.pick == -1) && decide (p.args.length = 1) && p.args.all P
theorem single_calls (lv : LossV) (x : ExV) (p : Pr) (pv : PrV) (P : Pr -> Bool) (w : World) (hp : IsPr w p pv)
  (hv : ∀ (q : Pr) (qv : PrV) (W : World), q ∈ p.args -> Ext w W -> IsPr W q qv -> Calls Tryz.prog 39 #[lv.val, x.val, qv.val] W (GivesE (.bool (P q)) W)) :
  Calls Tryz.prog 63 #[lv.val, x.val, pv.val] w (GivesE (.bool (singB p P)) w) := by
 obtain ⟨-, h2, h3, -, -, h6⟩ := hp.parts
 obtain ⟨R, hR⟩ : ∃ R, R = singB p P := ⟨_, rfl⟩
 rw [<- hR]
 unfold singB at hR
 obtain ⟨pb, k, pa, pn, pc⟩ := pv
 simp only at h2 h3 h6
 obtain ⟨sa, sn, sc, bm, fa, fn, fc⟩ := lv
 obtain ⟨op, name, aw, nw, cw, lo, hi, aa, na, ca⟩ := x
 obtain ⟨pav, hpav⟩ : ∃ l, l = p.args := ⟨_, rfl⟩
 rw [<- hpav] at h3 h6 hR hv
 rw [<- h2] at hR
 have HR := hI hR
 have H6 := hI h6
 have HN := hI h3
 have HV := hI hv
 clear hR h2 h3 h6 hp hpav hv
 unfold LossV.val ExV.val exV PrV.val at *
 obtain ⟨wa, hwa⟩ : ∃ wa, wa = ((w.alloc (.cells #[.slice sa sn sc, .map (some bm), .slice fa fn fc] 71)).alloc (.cells #[.int .i64 op, .string name, .slice aw nw cw, .int .i64 lo, .int .i64 hi, .slice aa na ca] 26)).alloc (.cells #[.bool pb, .int .i64 k, .slice pa pn pc] 40) := ⟨_, rfl⟩
 have hxa : Ext w wa := by rw [hwa]; exact (((Ext.refl _).alloc _).alloc _).alloc _
 have hb0 : wa.heap[w.heap.size]? = some (.cells #[.slice sa sn sc, .map (some bm), .slice fa fn fc] 71 (0, 0)) := by rw [hwa]; exact blk_alloc (blk_alloc (alloc_new w _))
 have hb1 : wa.heap[w.heap.size + 1]? = some (.cells #[.int .i64 op, .string name, .slice aw nw cw, .int .i64 lo, .int .i64 hi, .slice aa na ca] 26 (0, 0)) := by rw [hwa]; exact blk_alloc (alloc_atR (by simp))
 have hb2 : wa.heap[w.heap.size + 1 + 1]? = some (.cells #[.bool pb, .int .i64 k, .slice pa pn pc] 40 (0, 0)) := by rw [hwa]; exact alloc_atR (by simp)
 have HXA := hI hxa
 obtain ⟨f0, f1, f2, f3, f4, f5, ff⟩ := blk6 hb1
 obtain ⟨e0, e1, e2, ef⟩ := blk3 hb0
 obtain ⟨r0, r1, r2, rf⟩ := blk3 hb2
 have hltw := blk_lt hb2
 clear hxa hb0 hb1 hb2
 by_cases hk : k = -1
 case neg =>
  have t1 : (k == -1) = false := by simp [hk]
  have HQ := hI (show R = false by rw [HR.out]; simp [hk])
  clear hk
  go_enter Tryz.func63, Tryz.ntmps63
  go_upto_region 1 with fail
  rw [<- hwa]
  clear hwa
  go_wp2_with fail
  go_quiet (fail)
  go_wp2_with fail
  go_ret
  exact givesE_bool (by rw [HQ.out]) (HXA.out.drewN _)
 subst hk
 by_cases hn : pn = 1
 case neg =>
  have t1 : ((pn : Int) == 1) = false := by simp; omega
  have HQ := hI (show R = false by rw [HR.out]; have := HN.out; simp; intro h; omega)
  clear hn
  go_enter Tryz.func63, Tryz.ntmps63
  go_upto_region 1 with fail
  rw [<- hwa]
  clear hwa
  go_wp2_with fail
  go_quiet (fail)
  go_wp2_with fail
  go_ret
  exact givesE_bool (by rw [HQ.out]) (HXA.out.drewN _)
 subst hn
 obtain ⟨b, off, q, rfl, hq, c0, c1, c2⟩ := H6.out 0 (by have := HN.out; omega)
 simp only [Nat.zero_mul, Nat.add_zero] at c0 c1 c2
 replace c0 := HXA.out.cell c0
 replace c1 := HXA.out.cell c1
 replace c2 := HXA.out.cell c2
 have HPQ := hI hq
 have hl1 : pav.length = 1 := by have := HN.out; omega
 obtain ⟨q1, rfl⟩ := len_one hl1
 simp only [List.getElem_cons_zero] at HPQ
 have HQ := hI (show R = P q1 by rw [HR.out]; simp)
 have HVQ := hI (fun W (hW : Ext w W) => HV.out q1 q W (by simp) hW (HPQ.out.ext hW))
 obtain ⟨B, hB⟩ : ∃ B, B = P q1 := ⟨_, rfl⟩
 rw [<- hB] at HQ HVQ
 obtain ⟨qb, qk, qa, qn, qc⟩ := q
 simp only at c0 c1 c2 HVQ
 clear hB HV hl1 HPQ hq HR HN H6
 go_enter Tryz.func63, Tryz.ntmps63
 go_upto_region 1 with fail
 rw [<- hwa]
 clear hwa
 go_wp2_with fail
 go_still_tail 16, (by kernel_rfl)
 change wpList _ _ _ _ _ wa.drew
 have hx2 : Ext wa wa.drew := (Ext.refl wa).drew
 generalize wa.drew = w2 at hx2 ⊢
 have HX2 := hI (HXA.out.trans hx2)
 clear hx2
 go_wp2_with fail
 refine (HVQ.out w2 HX2.out).mono ?_
 rintro r w3 ⟨rfl, hx3⟩
 have HX3 := hI (HX2.out.trans hx3)
 clear hx3
 go_wp2_with fail
 go_ret
 exact givesE_bool (by rw [HQ.out]) HX3.out
def sevB (s : List Attr) (f : ZI) (D : BA -> Option (Pr -> Bool)) (op : Int) (args : List Ex) (p : Pr) : Bool := if p.value = decide (op = 8) then decide (0 <= p.pick) && decide (p.args.length = 1) && p.args.all (fun q => prvAt s f D args p.pick.toNat q && (q.value == p.value)) else (p.pick == -1) && prvZip s f D p.value args p.args
def SevL (s : List Attr) (f : ZI) (D : BA -> Option (Pr -> Bool)) (v : Bool) (args : List Ex) (ps : List Pr) (na b0 : Nat) (Z0 Z1 Z2 : Obj) (w : World) (i : Value) (wr : World) : Prop := ∃ k : Nat, i = .int .i64 k /\ k <= na /\ (∀ j (h1 : j < args.length) (h2 : j < ps.length), j < k -> prvE s f D args[j] ps[j] = true /\ ps[j].value = v) /\ wr.heap[b0]? = some Z0 /\ wr.heap[b0 + 1]? = some Z1 /\ wr.heap[b0 + 1 + 1]? = some Z2 /\ Ext w wr
theorem prvZip_false {s : List Attr} {f : ZI} {D : BA -> Option (Pr -> Bool)} {v : Bool} {args : List Ex} {ps : List Pr} (k : Nat) (h1 : k < args.length) (h2 : k < ps.length) (h : ¬ (prvE s f D args[k] ps[k] = true /\ ps[k].value = v)) : prvZip s f D v args ps = false := by
 cases hz : prvZip s f D v args ps
 ·rfl
 exact absurd (prvZip_at args ps hz k h1 h2) h
theorem several_calls (s : List Attr) (f : ZI) (D : BA -> Option (Pr -> Bool)) (lv : LossV) (e : Ex) (ev : Value) (p : Pr) (pv : PrV) (w : World) (he : IsEx w e ev) (hn2 : e.args.length <= 1000000) (hp : IsPr w p pv)
  (hv : ∀ (j : Nat) (hj : j < e.args.length) (xv : Value) (q : Pr) (qv : PrV) (W : World), q ∈ p.args -> Ext w W -> IsEx W e.args[j] xv -> IsPr W q qv -> Calls Tryz.prog 39 #[lv.val, xv, qv.val] W (GivesE (.bool (prvE s f D e.args[j] q)) W)) :
  Calls Tryz.prog 64 #[lv.val, ev, pv.val] w (GivesE (.bool (sevB s f D e.op e.args p)) w) := by
 obtain ⟨h1, h2, h3, -, -, h6⟩ := hp.parts
 obtain ⟨aw, nw, cw, aa, na, ca, rfl, hw, hna, hca, ha, hx⟩ := he.parts
 obtain ⟨op, name, words, lo, hi, args⟩ := e
 simp only [Ex.op, Ex.name, Ex.words, Ex.lo, Ex.hi, Ex.args] at *
 obtain ⟨R, hR⟩ : ∃ R, R = sevB s f D op args p := ⟨_, rfl⟩
 rw [<- hR]
 unfold sevB at hR
 obtain ⟨pb, pk, pa, pn, pc⟩ := pv
 simp only at h1 h2 h3 h6
 obtain ⟨sa, sn, sc, bm, fa, fn, fc⟩ := lv
 obtain ⟨ps, hps⟩ : ∃ l, l = p.args := ⟨_, rfl⟩
 rw [<- hps] at h3 h6 hR hv
 rw [<- h1, <- h2] at hR
 have HR := hI hR
 have H6 := hI h6
 have HN := hI h3
 have HV := hI hv
 have HX := hI hx
 have HNA := hI hna
 have hna2 : na <= 1000000 := by omega
 clear hR h1 h2 h3 h6 hp hps hv hx hna hw hca ha he hn2
 unfold LossV.val exV PrV.val at *
 obtain ⟨wa, hwa⟩ : ∃ wa, wa = ((w.alloc (.cells #[.slice sa sn sc, .map (some bm), .slice fa fn fc] 71)).alloc (.cells #[.int .i64 op, .string name, .slice aw nw cw, .int .i64 lo, .int .i64 hi, .slice aa na ca] 26)).alloc (.cells #[.bool pb, .int .i64 pk, .slice pa pn pc] 40) := ⟨_, rfl⟩
 have hxa : Ext w wa := by rw [hwa]; exact (((Ext.refl _).alloc _).alloc _).alloc _
 have hb0 : wa.heap[w.heap.size]? = some (.cells #[.slice sa sn sc, .map (some bm), .slice fa fn fc] 71 (0, 0)) := by rw [hwa]; exact blk_alloc (blk_alloc (alloc_new w _))
 have hb1 : wa.heap[w.heap.size + 1]? = some (.cells #[.int .i64 op, .string name, .slice aw nw cw, .int .i64 lo, .int .i64 hi, .slice aa na ca] 26 (0, 0)) := by rw [hwa]; exact blk_alloc (alloc_atR (by simp))
 have hb2 : wa.heap[w.heap.size + 1 + 1]? = some (.cells #[.bool pb, .int .i64 pk, .slice pa pn pc] 40 (0, 0)) := by rw [hwa]; exact alloc_atR (by simp)
 have HXA := hI hxa
 have HB0 := hI hb0
 have HB1 := hI hb1
 have HB2 := hI hb2
 obtain ⟨f0, f1, f2, f3, f4, f5, ff⟩ := blk6 hb1
 obtain ⟨e0, e1, e2, ef⟩ := blk3 hb0
 obtain ⟨r0, r1, r2, rf⟩ := blk3 hb2
 have hltw := blk_lt hb2
 clear hxa hb0 hb1 hb2
 have hop : (op == 8) = decide (op = 8) := by by_cases h : op = 8 <;> simp [h]
 rw [<- hop] at HR
 clear hop
 obtain ⟨d, hd⟩ : ∃ d, d = (op == 8) := ⟨_, rfl⟩
 rw [<- hd] at HR
 replace hd := hd.symm
 by_cases hv : pb = d
 -- one argument decides
 ·have t0 : (pb == d) = true := by rw [hv]; simp
  have HR2 := hI (show R = (decide (0 <= pk) && decide (ps.length = 1) && ps.all (fun q => prvAt s f D args pk.toNat q && (q.value == d))) by rw [HR.out, if_pos hv, hv])
  clear HR hv
  by_cases hk : 0 <= pk
  case neg =>
   have t1 : decide (0 <= pk) = false := decide_eq_false hk
   have HQ := hI (show R = false by rw [HR2.out, t1]; rfl)
   clear hk
   obtain rfl : pb = d := by simpa using t0
   clear t0
   have HPO0 : (pb = false /\ (op == 8) = false) \/ (pb = true /\ op = 8) := by cases pb <;> simp at hd ⊢ <;> exact hd
   have HPO := hI HPO0
   clear HPO0 hd
   go_enter Tryz.func64, Tryz.ntmps64
   go_upto_region 1 with fail
   rw [<- hwa]
   clear hwa
   rcases HPO.out with ⟨rfl, hd⟩ | ⟨rfl, rfl⟩
   all_goals
    go_wp2_with fail
    go_quiet (fail)
    go_wp2_with fail
    go_ret
    exact givesE_bool (by rw [HQ.out]) (HXA.out.drewN _)
  have t1 : decide (0 <= pk) = true := decide_eq_true hk
  obtain ⟨k, rfl⟩ : ∃ k : Nat, pk = (k : Int) := ⟨pk.toNat, by omega⟩
  have HR3 := hI (show R = (decide (ps.length = 1) && ps.all (fun q => prvAt s f D args k q && (q.value == d))) by rw [HR2.out, t1, Int.toNat_natCast]; rfl)
  clear HR2 hk
  by_cases hkn : k < na
  case neg =>
   have t2 : decide (k < na) = false := decide_eq_false (by omega)
   have HQ := hI (show R = false by
    rw [HR3.out]
    cases hd1 : decide (ps.length = 1)
    ·rfl
    obtain ⟨q, rfl⟩ := len_one (of_decide_eq_true hd1)
    have : args[k]? = none := List.getElem?_eq_none (by have := HNA.out; omega)
    simp [prvAt_get, this])
   clear hkn
   obtain rfl : pb = d := by simpa using t0
   clear t0
   have HPO0 : (pb = false /\ (op == 8) = false) \/ (pb = true /\ op = 8) := by cases pb <;> simp at hd ⊢ <;> exact hd
   have HPO := hI HPO0
   clear HPO0 hd
   go_enter Tryz.func64, Tryz.ntmps64
   go_upto_region 1 with fail
   rw [<- hwa]
   clear hwa
   rcases HPO.out with ⟨rfl, hd⟩ | ⟨rfl, rfl⟩
   all_goals
    go_wp2_with fail
    go_quiet (fail)
    go_wp2_with fail
    go_ret
    exact givesE_bool (by rw [HQ.out]) (HXA.out.drewN _)
  have t2 : decide (k < na) = true := decide_eq_true (by omega)
  by_cases hn : pn = 1
  case neg =>
   have t3 : ((pn : Int) == 1) = false := by simp; omega
   have HQ := hI (show R = false by rw [HR3.out]; have := HN.out; simp; intro h; omega)
   clear hn
   obtain rfl : pb = d := by simpa using t0
   clear t0
   have HPO0 : (pb = false /\ (op == 8) = false) \/ (pb = true /\ op = 8) := by cases pb <;> simp at hd ⊢ <;> exact hd
   have HPO := hI HPO0
   clear HPO0 hd
   go_enter Tryz.func64, Tryz.ntmps64
   go_upto_region 1 with fail
   rw [<- hwa]
   clear hwa
   rcases HPO.out with ⟨rfl, hd⟩ | ⟨rfl, rfl⟩
   all_goals
    go_wp2_with fail
    go_quiet (fail)
    go_wp2_with fail
    go_ret
    exact givesE_bool (by rw [HQ.out]) (HXA.out.drewN _)
  subst hn
  obtain ⟨b, off, q, rfl, hq, c0, c1, c2⟩ := H6.out 0 (by have := HN.out; omega)
  simp only [Nat.zero_mul, Nat.add_zero] at c0 c1 c2
  replace c0 := HXA.out.cell c0
  replace c1 := HXA.out.cell c1
  replace c2 := HXA.out.cell c2
  have HPQ := hI hq
  have hl1 : ps.length = 1 := by have := HN.out; omega
  obtain ⟨q1, rfl⟩ := len_one hl1
  simp only [List.getElem_cons_zero] at HPQ
  have hka : k < args.length := by have := HNA.out; omega
  have HR4 := hI (show R = (prvE s f D args[k] q1 && (q1.value == d)) by rw [HR3.out]; simp [prvAt_get, hka])
  have hqv := HPQ.out.parts.1
  rw [<- hqv] at HR4
  obtain ⟨qb, qk, qa, qn, qc⟩ := q
  simp only at c0 c1 c2 HR4
  clear hqv hq HR3 hl1
  by_cases hqb : qb = d
  case neg =>
   have t4 : (qb == d) = false := by cases qb <;> cases d <;> simp at hqb ⊢
   have HQ := hI (show R = false by rw [HR4.out, t4, Bool.and_false])
   clear hqb
   obtain rfl : pb = d := by simpa using t0
   clear t0
   have HPO0 : (pb = false /\ (op == 8) = false) \/ (pb = true /\ op = 8) := by cases pb <;> simp at hd ⊢ <;> exact hd
   have HPO := hI HPO0
   clear HPO0 hd
   go_enter Tryz.func64, Tryz.ntmps64
   go_upto_region 1 with fail
   rw [<- hwa]
   clear hwa
   rcases HPO.out with ⟨rfl, hd⟩ | ⟨rfl, rfl⟩
   all_goals
    go_wp2_with fail
    go_quiet (fail)
    go_wp2_with fail
    go_ret
    exact givesE_bool (by rw [HQ.out]) (HXA.out.drewN _)
  have t4 : (qb == d) = true := by rw [hqb]; simp
  have HQ := hI (show R = prvE s f D args[k] q1 by rw [HR4.out, t4, Bool.and_true])
  clear hqb
  have HVQ := hI (fun xv W (hW : Ext w W) hxv => HV.out k hka xv q1 _ W (by simp) hW hxv (HPQ.out.ext hW))
  obtain ⟨B, hB⟩ : ∃ B, B = prvE s f D args[k] q1 := ⟨_, rfl⟩
  rw [<- hB] at HQ HVQ
  obtain ⟨xb, xo, rfl, aw1, nw1, cw1, aa1, na1, ca1, g0, g1, g2, g3, g4, g5, g6⟩ := ExsD.at args _ (ExsD.ext HXA.out args _ HX.out) k hka
  have G6 := hI g6
  clear hB HV HR4 HPQ g6 HN H6
  unfold exV at *
  simp only at HVQ
  obtain rfl : pb = d := by simpa using t0
  clear t0
  have HPO0 : (pb = false /\ (op == 8) = false) \/ (pb = true /\ op = 8) := by cases pb <;> simp at hd ⊢ <;> exact hd
  have HPO := hI HPO0
  clear HPO0 hd
  go_enter Tryz.func64, Tryz.ntmps64
  go_upto_region 1 with fail
  rw [<- hwa]
  clear hwa
  rcases HPO.out with ⟨rfl, hd⟩ | ⟨rfl, rfl⟩
  all_goals
   go_wp2_with fail
   go_still_tail 38, (by kernel_rfl)
   change wpList _ _ _ _ _ wa.drew
   have hx2 : Ext wa wa.drew := (Ext.refl wa).drew
   generalize wa.drew = w2 at hx2 ⊢
   have HX2 := hI (HXA.out.trans hx2)
   have G62 := hI (G6.out.ext hx2)
   clear hx2
   go_wp2_with fail
   refine (HVQ.out _ w2 HX2.out G62.out).mono ?_
   rintro r w3 ⟨rfl, hx3⟩
   have HX3 := hI (HX2.out.trans hx3)
   clear hx3
   go_wp2_with fail
   go_ret
   exact givesE_bool (by rw [HQ.out]) HX3.out
 -- all arguments
 have HR2 := hI (show R = ((pk == -1) && prvZip s f D pb args ps) by rw [HR.out, if_neg hv])
 have t0 : (pb == d) = false := by cases pb <;> cases d <;> simp at hv ⊢
 clear HR hv
 by_cases hk : pk = -1
 case neg =>
  have t1 : (pk != -1) = true := by simp [hk]
  have HQ := hI (show R = false by rw [HR2.out]; simp [hk])
  clear hk
  have HPO0 : (pb = true /\ (op == 8) = false) \/ (pb = false /\ op = 8) := by cases pb <;> cases d <;> simp at hd t0 ⊢ <;> exact hd
  have HPO := hI HPO0
  clear HPO0 hd t0
  go_enter Tryz.func64, Tryz.ntmps64
  go_upto_region 1 with fail
  rw [<- hwa]
  clear hwa
  rcases HPO.out with ⟨rfl, hd⟩ | ⟨rfl, rfl⟩
  all_goals
   go_wp2_with fail
   go_ret
   first | exact givesE_bool (by rw [HQ.out]) HXA.out | exact givesE_bool (by rw [HQ.out]) (HXA.out.drewN _) | trace_state
 subst hk
 have HR3 := hI (show R = prvZip s f D pb args ps by rw [HR2.out]; simp)
 clear HR2
 by_cases hl : pn = na
 case neg =>
  have t2 : ((pn : Int) != (na : Int)) = true := by simp; omega
  have HQ := hI (show R = false by
   rw [HR3.out]
   cases hz : prvZip s f D pb args ps
   ·rfl
   have := prvZip_len args ps hz
   have := HN.out; have := HNA.out; omega)
  clear hl
  have HPO0 : (pb = true /\ (op == 8) = false) \/ (pb = false /\ op = 8) := by cases pb <;> cases d <;> simp at hd t0 ⊢ <;> exact hd
  have HPO := hI HPO0
  clear HPO0 hd t0
  go_enter Tryz.func64, Tryz.ntmps64
  go_upto_region 1 with fail
  rw [<- hwa]
  clear hwa
  rcases HPO.out with ⟨rfl, hd⟩ | ⟨rfl, rfl⟩
  all_goals
   go_wp2_with fail
   go_ret
   first | exact givesE_bool (by rw [HQ.out]) HXA.out | exact givesE_bool (by rw [HQ.out]) (HXA.out.drewN _) | trace_state
 subst hl
 have t2 : ((pn : Int) != (pn : Int)) = false := by simp
 have HPO0 : (pb = true /\ (op == 8) = false) \/ (pb = false /\ op = 8) := by cases pb <;> cases d <;> simp at hd t0 ⊢ <;> exact hd
 have HPO := hI HPO0
 clear HPO0 hd t0
 go_enter Tryz.func64, Tryz.ntmps64
 go_upto_region 1 with fail
 rw [<- hwa]
 clear hwa
 rcases HPO.out with ⟨rfl, hd⟩ | ⟨rfl, rfl⟩
 ·go_wp2_with fail
  clear f0 f1 f2 f3 f4 f5 ff e0 e1 e2 ef r0 r1 r2 rf hltw
  go_loopw [72] (SevL s f D true args ps pn w.heap.size (.cells #[.slice sa sn sc, .map (some bm), .slice fa fn fc] 71 (0, 0)) (.cells #[.int .i64 op, .string name, .slice aw nw cw, .int .i64 lo, .int .i64 hi, .slice aa pn ca] 26 (0, 0)) (.cells #[.bool true, .int .i64 (-1), .slice pa pn pc] 40 (0, 0)) w) (fun i _ => pn - (intOf i).toNat)
  case atStart => exact ⟨0, rfl, by omega, fun j _ _ h => by omega, HB0.out, HB1.out, HB2.out, HXA.out⟩
  case round =>
   obtain ⟨k, rfl, hk, hall, hb0, hb1, hb2, hxr⟩ := hrel
   have HALL := hI hall
   have HXR := hI hxr
   obtain ⟨e0, e1, e2, ef⟩ := blk3 hb0
   obtain ⟨r0, r1, r2, rf⟩ := blk3 hb2
   have hltw := blk_lt hb2
   have HC0 := hI hb0
   have HC1 := hI hb1
   have HC2 := hI hb2
   clear hall hxr hb0 hb1 hb2
   by_cases hkn : k < pn
   ·have hka : k < args.length := by have := HNA.out; omega
    have hkp : k < ps.length := by have := HN.out; omega
    have t1 : decide ((k : Int) < (pn : Int)) = true := decide_eq_true (by omega)
    obtain ⟨xb, xo, rfl, aw1, nw1, cw1, aa1, na1, ca1, g0, g1, g2, g3, g4, g5, g6⟩ := ExsD.at args _ (ExsD.ext HXR.out args _ HX.out) k hka
    have G6 := hI g6
    obtain ⟨b, off, q, rfl, hq, c0, c1, c2⟩ := H6.out k hkp
    replace c0 := HXR.out.cell c0
    replace c1 := HXR.out.cell c1
    replace c2 := HXR.out.cell c2
    have HPQ := hI hq
    have HVQ := hI (fun xv W (hW : Ext w W) hxv => HV.out k hka xv ps[k] _ W (List.getElem_mem hkp) hW hxv (HPQ.out.ext hW))
    have HVL := hI hq.parts.1
    obtain ⟨qb, qk, qa, qn, qc⟩ := q
    simp only at c0 c1 c2 HVL HVQ
    obtain ⟨B, hB⟩ : ∃ B, B = prvE s f D args[k] ps[k] := ⟨_, rfl⟩
    rw [<- hB] at HVQ
    have HBB := hI hB
    unfold exV at *
    clear hB hq g6 HPQ
    go_upto_region 9 with fail
    obtain ⟨y, hy⟩ : ∃ y : Nat, y = wr.heap.size := ⟨_, rfl⟩
    obtain ⟨w1, hw1⟩ : ∃ w1, w1 = wr.alloc (.cells #[.int .i64 args[k].op, .string args[k].name, .slice aw1 nw1 cw1, .int .i64 args[k].lo, .int .i64 args[k].hi, .slice aa1 na1 ca1] 26) := ⟨_, rfl⟩
    have hx1 : Ext wr w1 := by rw [hw1]; exact (Ext.refl wr).alloc _
    have HBX := hI (show w1.heap[y]? = some (.cells #[.int .i64 args[k].op, .string args[k].name, .slice aw1 nw1 cw1, .int .i64 args[k].lo, .int .i64 args[k].hi, .slice aa1 na1 ca1] 26 (0, 0)) by rw [hw1, hy]; exact alloc_new wr _)
    rw [<- hw1, <- hy]
    clear hw1 hy
    have HX1 := hI (HXR.out.trans hx1)
    have G61 := hI (G6.out.ext hx1)
    have HD0 := hI (hx1.blk HC0.out)
    have HD1 := hI (hx1.blk HC1.out)
    have HD2 := hI (hx1.blk HC2.out)
    replace c0 := hx1.cell c0
    replace c1 := hx1.cell c1
    replace c2 := hx1.cell c2
    clear e0 e1 e2 ef r0 r1 r2 rf g0 g1 g2 g3 g4 g5 hltw hx1
    obtain ⟨e0, e1, e2, ef⟩ := blk3 HD0.out
    obtain ⟨r0, r1, r2, rf⟩ := blk3 HD2.out
    obtain ⟨g0, g1, g2, g3, g4, g5, gf⟩ := blk6 HBX.out
    by_cases hqb : qb = true
    case neg =>
     obtain rfl : qb = false := by simpa using hqb
     have HQ := hI (show R = false by rw [HR3.out]; exact prvZip_false k hka hkp fun h => by have h1 := HVL.out; rw [h.2] at h1; cases h1)
     clear hqb
     go_wp2_with fail
     go_quiet (fail)
     go_wp2_with fail
     go_ret
     exact givesE_bool (by rw [HQ.out]) (HX1.out.drewN _)
    subst hqb
    go_wp2_with fail
    go_still_tail 17, (by kernel_rfl)
    change wpList _ _ _ _ _ w1.drew
    have hx2 : Ext w1 w1.drew := (Ext.refl w1).drew
    generalize w1.drew = w2 at hx2 ⊢
    have HX2 := hI (HX1.out.trans hx2)
    have G62 := hI (G61.out.ext hx2)
    have HE00 := hI (hx2.blk HD0.out)
    have HE10 := hI (hx2.blk HD1.out)
    have HE20 := hI (hx2.blk HD2.out)
    clear hx2 e0 e1 e2 ef r0 r1 r2 rf g0 g1 g2 g3 g4 g5 gf c0 c1 c2
    go_wp2_with fail
    refine (HVQ.out _ w2 HX2.out G62.out).mono ?_
    rintro r w3 ⟨rfl, hx3⟩
    have HX3 := hI (HX2.out.trans hx3)
    have HE0 := hI (hx3.blk HE00.out)
    have HE1 := hI (hx3.blk HE10.out)
    have HE2 := hI (hx3.blk HE20.out)
    clear hx3
    cases B
    ·have HQ := hI (show R = false by rw [HR3.out]; exact prvZip_false k hka hkp fun h => by rw [<- HBB.out] at h; exact absurd h.1 (by decide))
     go_wp2_with fail
     go_ret
     exact givesE_bool (by rw [HQ.out]) HX3.out
    go_wp2_with fail
    go_roundw
    case rel =>
     refine ⟨k + 1, by go_num, by omega, fun j hj1 hj2 hjk => ?_, HE0.out, HE1.out, HE2.out, HX3.out⟩
     by_cases e : j = k
     ·subst e; exact ⟨HBB.out.symm, HVL.out.symm⟩
     exact HALL.out j hj1 hj2 (by omega)
    case measure => simp [intOf]; omega
   have t1 : decide ((k : Int) < (pn : Int)) = false := decide_eq_false (by omega)
   have HF := hI (show R = true by
    rw [HR3.out]
    exact prvZip_of args ps (by have := HN.out; have := HNA.out; omega) fun i h1 h2 => HALL.out i h1 h2 (by have := HNA.out; omega))
   go_wp2_with fail
   go_ret
   exact givesE_bool (by rw [HF.out]) HXR.out
 go_wp2_with fail
 clear f0 f1 f2 f3 f4 f5 ff e0 e1 e2 ef r0 r1 r2 rf hltw
 go_loopw [72] (SevL s f D false args ps pn w.heap.size (.cells #[.slice sa sn sc, .map (some bm), .slice fa fn fc] 71 (0, 0)) (.cells #[.int .i64 8, .string name, .slice aw nw cw, .int .i64 lo, .int .i64 hi, .slice aa pn ca] 26 (0, 0)) (.cells #[.bool false, .int .i64 (-1), .slice pa pn pc] 40 (0, 0)) w) (fun i _ => pn - (intOf i).toNat)
 case atStart => exact ⟨0, rfl, by omega, fun j _ _ h => by omega, HB0.out, HB1.out, HB2.out, HXA.out⟩
 case round =>
  obtain ⟨k, rfl, hk, hall, hb0, hb1, hb2, hxr⟩ := hrel
  have HALL := hI hall
  have HXR := hI hxr
  obtain ⟨e0, e1, e2, ef⟩ := blk3 hb0
  obtain ⟨r0, r1, r2, rf⟩ := blk3 hb2
  have hltw := blk_lt hb2
  have HC0 := hI hb0
  have HC1 := hI hb1
  have HC2 := hI hb2
  clear hall hxr hb0 hb1 hb2
  by_cases hkn : k < pn
  ·have hka : k < args.length := by have := HNA.out; omega
   have hkp : k < ps.length := by have := HN.out; omega
   have t1 : decide ((k : Int) < (pn : Int)) = true := decide_eq_true (by omega)
   obtain ⟨xb, xo, rfl, aw1, nw1, cw1, aa1, na1, ca1, g0, g1, g2, g3, g4, g5, g6⟩ := ExsD.at args _ (ExsD.ext HXR.out args _ HX.out) k hka
   have G6 := hI g6
   obtain ⟨b, off, q, rfl, hq, c0, c1, c2⟩ := H6.out k hkp
   replace c0 := HXR.out.cell c0
   replace c1 := HXR.out.cell c1
   replace c2 := HXR.out.cell c2
   have HPQ := hI hq
   have HVQ := hI (fun xv W (hW : Ext w W) hxv => HV.out k hka xv ps[k] _ W (List.getElem_mem hkp) hW hxv (HPQ.out.ext hW))
   have HVL := hI hq.parts.1
   obtain ⟨qb, qk, qa, qn, qc⟩ := q
   simp only at c0 c1 c2 HVL HVQ
   obtain ⟨B, hB⟩ : ∃ B, B = prvE s f D args[k] ps[k] := ⟨_, rfl⟩
   rw [<- hB] at HVQ
   have HBB := hI hB
   unfold exV at *
   clear hB hq g6 HPQ
   go_upto_region 9 with fail
   obtain ⟨y, hy⟩ : ∃ y : Nat, y = wr.heap.size := ⟨_, rfl⟩
   obtain ⟨w1, hw1⟩ : ∃ w1, w1 = wr.alloc (.cells #[.int .i64 args[k].op, .string args[k].name, .slice aw1 nw1 cw1, .int .i64 args[k].lo, .int .i64 args[k].hi, .slice aa1 na1 ca1] 26) := ⟨_, rfl⟩
   have hx1 : Ext wr w1 := by rw [hw1]; exact (Ext.refl wr).alloc _
   have HBX := hI (show w1.heap[y]? = some (.cells #[.int .i64 args[k].op, .string args[k].name, .slice aw1 nw1 cw1, .int .i64 args[k].lo, .int .i64 args[k].hi, .slice aa1 na1 ca1] 26 (0, 0)) by rw [hw1, hy]; exact alloc_new wr _)
   rw [<- hw1, <- hy]
   clear hw1 hy
   have HX1 := hI (HXR.out.trans hx1)
   have G61 := hI (G6.out.ext hx1)
   have HD0 := hI (hx1.blk HC0.out)
   have HD1 := hI (hx1.blk HC1.out)
   have HD2 := hI (hx1.blk HC2.out)
   replace c0 := hx1.cell c0
   replace c1 := hx1.cell c1
   replace c2 := hx1.cell c2
   clear e0 e1 e2 ef r0 r1 r2 rf g0 g1 g2 g3 g4 g5 hltw hx1
   obtain ⟨e0, e1, e2, ef⟩ := blk3 HD0.out
   obtain ⟨r0, r1, r2, rf⟩ := blk3 HD2.out
   obtain ⟨g0, g1, g2, g3, g4, g5, gf⟩ := blk6 HBX.out
   by_cases hqb : qb = false
   case neg =>
    obtain rfl : qb = true := by simpa using hqb
    have HQ := hI (show R = false by rw [HR3.out]; exact prvZip_false k hka hkp fun h => by have h1 := HVL.out; rw [h.2] at h1; cases h1)
    clear hqb
    go_wp2_with fail
    go_quiet (fail)
    go_wp2_with fail
    go_ret
    exact givesE_bool (by rw [HQ.out]) (HX1.out.drewN _)
   subst hqb
   go_wp2_with fail
   go_still_tail 17, (by kernel_rfl)
   change wpList _ _ _ _ _ w1.drew
   have hx2 : Ext w1 w1.drew := (Ext.refl w1).drew
   generalize w1.drew = w2 at hx2 ⊢
   have HX2 := hI (HX1.out.trans hx2)
   have G62 := hI (G61.out.ext hx2)
   have HE00 := hI (hx2.blk HD0.out)
   have HE10 := hI (hx2.blk HD1.out)
   have HE20 := hI (hx2.blk HD2.out)
   clear hx2 e0 e1 e2 ef r0 r1 r2 rf g0 g1 g2 g3 g4 g5 gf c0 c1 c2
   go_wp2_with fail
   refine (HVQ.out _ w2 HX2.out G62.out).mono ?_
   rintro r w3 ⟨rfl, hx3⟩
   have HX3 := hI (HX2.out.trans hx3)
   have HE0 := hI (hx3.blk HE00.out)
   have HE1 := hI (hx3.blk HE10.out)
   have HE2 := hI (hx3.blk HE20.out)
   clear hx3
   cases B
   ·have HQ := hI (show R = false by rw [HR3.out]; exact prvZip_false k hka hkp fun h => by rw [<- HBB.out] at h; exact absurd h.1 (by decide))
    go_wp2_with fail
    go_ret
    exact givesE_bool (by rw [HQ.out]) HX3.out
   go_wp2_with fail
   go_roundw
   case rel =>
    refine ⟨k + 1, by go_num, by omega, fun j hj1 hj2 hjk => ?_, HE0.out, HE1.out, HE2.out, HX3.out⟩
    by_cases e : j = k
    ·subst e; exact ⟨HBB.out.symm, HVL.out.symm⟩
    exact HALL.out j hj1 hj2 (by omega)
   case measure => simp [intOf]; omega
  have t1 : decide ((k : Int) < (pn : Int)) = false := decide_eq_false (by omega)
  have HF := hI (show R = true by
   rw [HR3.out]
   exact prvZip_of args ps (by have := HN.out; have := HNA.out; omega) fun i h1 h2 => HALL.out i h1 h2 (by have := HNA.out; omega))
  go_wp2_with fail
  go_ret
  exact givesE_bool (by rw [HF.out]) HXR.out
end Go.Proofs.YtpkljcgihobaiaaGreatDoor
