/-
  Texts of the claim, joined: DDec, Made12, RDec, Awk12, Made11, PEval.
-/
import Derived.Test.YtefjomofjejklaaGreatDoorDv22
namespace Go.Proofs.YtefjomofjejklaaGreatDoor
set_option maxRecDepth 100000
set_option maxHeartbeats 32000000
open Go.RowKit Go.Maps
theorem wbs_chkD {s : List Attr} {l : List Cla} : (u : List Wb) -> (d : Nat) -> backsB d u = true -> backsErr s l u = 0 -> backsLarge l u = false -> wbFits u -> wbsOkT (Pd s l) u
 | [], _, _, _, _, _ => by unfold wbsOkT; trivial
 | .mk n c u :: r, d, h1, h2, h3, h4 => by
  rw [backsB] at h1
  simp only [Bool.and_eq_true] at h1
  obtain ⟨⟨⟨⟨_, _⟩, g1⟩, g2⟩, g3⟩ := h1
  rw [backsErr] at h2
  by_cases k1 : nodesErr s l c ≠ 0
  ·rw [if_pos k1] at h2; exact absurd h2 k1
  rw [if_neg k1] at h2
  by_cases k2 : backsErr s l u ≠ 0
  ·rw [if_pos k2] at h2; exact absurd h2 k2
  rw [if_neg k2] at h2
  rw [backsLarge] at h3
  simp only [Bool.or_eq_false_iff, decide_eq_false_iff_not] at h3
  obtain ⟨⟨q1, q2⟩, q3⟩ := h3
  rw [wbFits] at h4
  obtain ⟨_, f1, f2, f3, f4, f5, f6⟩ := h4
  unfold wbsOkT
  exact ⟨⟨g1, by simpa using k1, by omega, f2, f1, f3⟩, wbs_chkD u (d - 1) g2 (by simpa using k2) q2 f5, f4, wbs_chkD r d g3 h2 q3 f6⟩
theorem pdC_of {s : List Attr} {l : List Cla} (h : (clausesErr s l).2 = 0) (hok : ∀ x ∈ l, x.fit) : ∀ x ∈ l, PdC s l x := by
 have hc := chk_of h
 have hcb := clsB_of h
 unfold clausesErr at h
 rw [if_neg (by simp [hc.sch]), if_neg (by have := hc.len; omega)] at h
 by_cases h3 : (firstI (claErr s l) l.length).2 ≠ 0
 ·rw [if_pos h3] at h; exact absurd h h3
 rw [if_neg h3] at h
 by_cases h4 : ¬ Sorts (l.map Cla.dfn)
 ·rw [if_pos h4] at h; simp at h
 rw [if_neg h4] at h
 have h1 := firstI_none l.length (by simpa using h3)
 have h2 := firstI_none l.length h
 intro x hx
 obtain ⟨f1, f2, f3, f4, f5, f6⟩ := hok x hx
 obtain ⟨_, g2, g3, _, _⟩ := hc.good x hx
 have hb := hcb x hx
 have hxp := hc.exp x hx
 obtain ⟨i, hi, rfl⟩ := List.getElem_of_mem hx
 have k1 := h1 i hi
 have k2 := h2 i hi
 unfold claErr at k1
 unfold claLarge at k2
 rw [getD_clK hi] at k1 k2
 rw [if_neg (by simp [hb])] at k1
 by_cases q2 : (findAt l l[i].name).getD 0 < i
 ·rw [if_pos q2] at k1; cases k1
 rw [if_neg q2] at k1
 by_cases q3 : (attrAt s l[i].name).isSome
 ·rw [if_pos q3] at k1; cases k1
 rw [if_neg q3, if_neg (by simp [g2])] at k1
 by_cases q5 : 2000 < expanded l l[i].cond \/ backsLarge l l[i].unl = true
 ·rw [if_pos q5] at k2; cases k2
 simp only [not_or] at q5
 refine ⟨⟨g3, g2, hxp, f3, f2, f4⟩, ?_, f5⟩
 simp only [clauseB, Bool.and_eq_true, Bool.or_eq_true, decide_eq_true_eq, beq_iff_eq] at hb
 obtain ⟨⟨_, a5⟩, _⟩ := hb
 rcases a5 with a5 | ⟨⟨_, _⟩, b3⟩
 ·rw [List.eq_nil_of_length_eq_zero a5]
  unfold wbsOkT; trivial
 exact wbs_chkD _ _ b3 k1 (by simpa using q5.2) f6
theorem decErr_ok {s : List Attr} {l : List Cla} {f : ZI} (h : decErr s l f = 0) : (clausesErr s l).2 = 0 /\ factsB s f = true := by
 unfold decErr at h
 by_cases h1 : (clausesErr s l).2 ≠ 0
 ·rw [if_pos h1] at h; exact absurd h h1
 rw [if_neg h1] at h
 cases hf : factsB s f
 ·rw [hf] at h; simp at h
 exact ⟨by simpa using h1, rfl⟩
theorem ofB_mem {ks : ZI} {l : List Cla} {x : Cla} (h : x ∈ ofB ks l) : x ∈ l := (List.mem_filter.1 h).1
noncomputable def decD (s : List Attr) (l : List Cla) (f : ZI) : Dec := open Classical in if decErr s l f = 0 then vdB (val s l f) l else ⟨0, 0, 0, 0, 0, false⟩
noncomputable def decV (s : List Attr) (l : List Cla) (f : ZI) : Value := .tuple #[.agg (decD s l f).cells, .int .i64 (decErr s l f)]
theorem filter_take {L : List Cla} (p : Cla -> Bool) {k : Nat} (hk : k < L.length) : (L.take (k + 1)).filter p = if p L[k] = true then (L.take k).filter p ++ [L[k]] else (L.take k).filter p := by
 rw [List.take_succ_eq_append_getElem hk, List.filter_append, List.filter_cons]
 cases p L[k] <;> simp
theorem decide_calls (s : List Attr) (l : List Cla) (f : ZI) (sv : Value) (a : OA) (n c : Nat) (fa : OA) (fn fc : Nat) (w : World) (hs : IsSchema w s sv) (hf : ∀ x ∈ s, x.fits) (hsl : s.length <= 1000000000000000) (hl : IsClas w l a n c) (hn : n <= 1000000) (hok : ∀ x ∈ l, x.fit) (hi : IsIntF w f fa fn) (hfn : fn <= 1000000000000000) (ho : HasOps w) :
  Calls Tryz.prog 13 #[sv, .slice a n c, .slice fa fn fc] w (GivesE (decV s l f) w) := by
 obtain ⟨sa, sn, sc, rfl, hsn⟩ := hs.slice
 have HCK := hI (fun W (hW : Ext w W) => dchecked_calls s l f _ a n c fa fn fc W (hs.ext hW) hf hsl (hl.ext hW) hn hok (hi.ext hW) hfn (ho.ext hW))
 have HDI := hI (fun (h0 : decErr s l f = 0) (lv : LossV) W (hW : Ext w W) (h : IsDLoss W s l f lv n) => show DIn W s l f lv n from ⟨h, (decErr_ok h0).1, (decErr_ok h0).2, hf, hok, by have h1 := h.ints.1; have h2 := hi.1; omega, ho.ext hW⟩)
 have HPC := hI (fun (h0 : decErr s l f = 0) => pdC_of (decErr_ok h0).1 hok)
 have HC2 := hI (fun W (hW : Ext w W) => dCovers_calls l a n c W (hl.ext hW) hn)
 have HC4 := hI (fun W (hW : Ext w W) => dConditions_calls l a n c W (hl.ext hW) hn)
 have HC3 := hI (fun W (hW : Ext w W) => dExclusions_calls l a n c W (hl.ext hW) hn)
 have HC5 := hI (fun W (hW : Ext w W) => dTerms_calls l a n c W (hl.ext hW) hn)
 have HLN := hI (fun (ks : ZI) => show (ofB ks l).length <= 1000000 from Nat.le_trans (ofB_len ks l) (by rw [<- hl.len]; exact hn))
 obtain ⟨V, hV⟩ : ∃ V, V = val s l f := ⟨_, rfl⟩
 obtain ⟨E, hE⟩ : ∃ E, E = decErr s l f := ⟨_, rfl⟩
 obtain ⟨R, hR⟩ : ∃ R, R = decD s l f := ⟨_, rfl⟩
 unfold decV
 rw [<- hR, <- hE]
 unfold decD at hR
 rw [<- hE, <- hV] at hR
 unfold DChkQ at HCK
 rw [<- hE] at HCK HDI HPC
 have HAN := hI (fun (h0 : E = 0) (lv : LossV) (ks : ZI) (a' : OA) (c' : Nat) (B : Bool) W (hW : Ext w W) (h : IsDLoss W s l f lv n) (hc : IsClas W (ofB ks l) a' (ofB ks l).length c') => dany_calls (ofB ks l) a' _ c' B W (HDI.out h0 lv W hW h) hc (HLN.out ks) (fun x hx => HPC.out h0 x (ofB_mem hx)))
 have HAP := hI (fun (h0 : E = 0) (lv : LossV) (x : Cla) (hx : x ∈ l) (v : ClV) W (hW : Ext w W) (h : IsDLoss W s l f lv n) (hc : IsCla W x v) => dclause_calls x.cond x.unl v.kind v.name v.x v.au v.nu v.cu v.amount W (HDI.out h0 lv W hW h) (HPC.out h0 x hx).1 (HPC.out h0 x hx).2.1 (by rw [hc.2.2.2.1]; exact (HPC.out h0 x hx).2.2) hc.2.2.2.1 hc.2.2.1 hc.2.2.2.2.2.2.1)
 rw [<- hV] at HAN HAP
 have HRZ := hI (show E ≠ 0 -> R = ⟨0, 0, 0, 0, 0, false⟩ from fun h => by rw [hR, if_neg h])
 have HRV := hI (show E = 0 -> R = vdB V l from fun h => by rw [hR, if_pos h])
 clear hs hf hsl hl hn hok hi hfn ho hsn hV hE hR HDI HPC
 obtain ⟨wa, hwa⟩ : ∃ wa, wa = (w.alloc (.cells #[.slice sa sn sc] 24)).alloc (.cells #[.int .i64 0, .int .i64 0, .int .i64 0, .int .i64 0, .int .i64 0, .bool false] 29) := ⟨_, rfl⟩
 have HXA := hI (show Ext w wa by rw [hwa]; exact ((Ext.refl _).alloc _).alloc _)
 have HA := hI (show wa.heap[w.heap.size + 1]? = some (DecO ⟨0, 0, 0, 0, 0, false⟩) by rw [hwa]; exact alloc_atR (by simp))
 obtain ⟨s0, sf⟩ := blk1 (show wa.heap[w.heap.size]? = some (.cells #[.slice sa sn sc] 24 (0, 0)) by rw [hwa]; exact blk_alloc (alloc_new w _))
 go_enter Tryz.func13, Tryz.ntmps13
 go_upto_region 1 with fail
 rw [<- hwa]
 clear hwa
 obtain ⟨bd, hbd⟩ : ∃ bd, bd = w.heap.size + 1 := ⟨_, rfl⟩
 rw [<- hbd] at HA ⊢
 have hlo : w.heap.size <= bd := by omega
 clear hbd
 go_wp2_with fail
 refine (HCK.out wa HXA.out).mono ?_
 rintro r w1 ⟨hx1, hr⟩
 have HX1 := hI (HXA.out.trans hx1)
 have HB := hI (hx1.blk HA.out)
 clear hx1 HA HXA HCK s0 sf
 rcases hr with ⟨h1, rfl⟩ | ⟨h1, lo, rfl, hlo1⟩
 ·have t1 : (E != 0) = true := by simp [h1]
  have HQ := hI (HRZ.out h1)
  obtain ⟨w2, hw2⟩ : ∃ w2, w2 = w1.alloc (.cells #[.slice none 0 0, .map none, .slice none 0 0] 74) := ⟨_, rfl⟩
  have HX2 := hI (show Ext w w2 by rw [hw2]; exact HX1.out.alloc _)
  have HB2 := hI (show w2.heap[bd]? = some (DecO ⟨0, 0, 0, 0, 0, false⟩) by rw [hw2]; exact blk_alloc HB.out)
  unfold lossZero
  clear h1
  go_upto_region 2 with fail
  rw [<- hw2]
  clear hw2 HX1 HB
  have hz := HB2.out
  unfold DecO Dec.cells at hz
  obtain ⟨z0, z1, z2, z3, z4, z5, zf⟩ := blk6d hz
  dsimp only at z0 z1 z2 z3 z4 z5
  go_wp2_with fail
  obtain ⟨w8, hw8⟩ : ∃ w8, w8 = put6d w2 bd (.int .i64 0) (.int .i64 0) (.int .i64 0) (.int .i64 0) (.int .i64 0) (.bool false) := ⟨_, rfl⟩
  have HX8 := hI (show Ext w w8 by rw [hw8]; exact (put6d_chg _ _).ext HX2.out (by simp; omega))
  have h8 : w8.heap[bd]? = some (.cells #[.int .i64 0, .int .i64 0, .int .i64 0, .int .i64 0, .int .i64 0, .bool false] 29 (0, 0)) := by rw [hw8]; exact put6d_blk hz
  unfold put6d at hw8
  rw [<- hw8]
  clear hw8 z0 z1 z2 z3 z4 z5 zf hz
  obtain ⟨z0, z1, z2, z3, z4, z5, zf⟩ := blk6d h8
  refine bodyPost_ret (v := .tuple #[.agg R.cells, .int .i64 E]) (by rw [HQ.out]; simp [results, Tryz.results13, go_sem, Dec.cells, z0, z1, z2, z3, z4, z5]) rfl ?_
  exact ⟨rfl, HX8.out⟩
 have HE0 := hI h1
 have HLO := hI hlo1
 have HRV2 := hI (HRV.out h1)
 subst h1
 clear hlo1 HRZ HRV
 have HA2 := hI (fun (ks : ZI) (B : Bool) (a' : OA) (c' : Nat) W (hW : Ext w1 W) hc => HAN.out rfl lo ks a' c' B W (HX1.out.trans hW) (HLO.out.ext hW) hc)
 have HP2 := hI (fun (x : Cla) (hx : x ∈ l) (v : ClV) W (hW : Ext w1 W) hc => HAP.out rfl lo x hx v W (HX1.out.trans hW) (HLO.out.ext hW) hc)
 have S2 := hI (someB_of V 2 false true rfl l)
 have S4 := hI (someB_of V 4 true false rfl l)
 have S3 := hI (someB_of V 3 false true rfl l)
 obtain ⟨L2, hL2⟩ : ∃ L2, L2 = ofB [2] l := ⟨_, rfl⟩
 obtain ⟨L3, hL3⟩ : ∃ L3, L3 = ofB [3] l := ⟨_, rfl⟩
 obtain ⟨L4, hL4⟩ : ∃ L4, L4 = ofB [4] l := ⟨_, rfl⟩
 have HN2 := hI (HA2.out [2] true)
 have HN3 := hI (HA2.out [3] true)
 have HN4 := hI (HA2.out [4] false)
 rw [<- hL2] at S2 HN2
 rw [<- hL3] at S3 HN3
 rw [<- hL4] at S4 HN4
 obtain ⟨Q2, hQ2⟩ : ∃ Q2, Q2 = someB V 2 false l := ⟨_, rfl⟩
 obtain ⟨Q3, hQ3⟩ : ∃ Q3, Q3 = someB V 3 false l := ⟨_, rfl⟩
 obtain ⟨Q4, hQ4⟩ : ∃ Q4, Q4 = someB V 4 true l := ⟨_, rfl⟩
 rw [S2.out, <- hQ2] at HN2
 rw [S3.out, <- hQ3] at HN3
 rw [S4.out, <- hQ4] at HN4
 have HT := hI (insB_terms V l ⟨4, -1, 0, 0, 0, false⟩)
 have HVD := hI (show R = if Q2 = false then ⟨1, 0, 0, 0, 0, false⟩ else if Q4 = true then ⟨2, 0, 0, 0, 0, false⟩ else if Q3 = true then ⟨3, 0, 0, 0, 0, false⟩ else insB ⟨4, -1, 0, 0, 0, false⟩ ((ofB kindsT l).filter (claV V)) by
  rw [HRV2.out, HT.out, hQ2, hQ3, hQ4, Bool.false_or]; rfl)
 unfold OfQ at HC2 HC3 HC4
 have HM2 := hI (fun W (hW : Ext w W) => (HC2.out W hW).mono (fun r w' (hq : ∃ u a c, u = ofB [2] l /\ r = .returned (.slice a u.length c) /\ IsClas w' u a u.length c /\ Ext W w') => show ∃ x : OA × Nat, r = .returned (.slice x.1 L2.length x.2) /\ IsClas w' L2 x.1 L2.length x.2 /\ Ext W w' by obtain ⟨u, a, c, rfl, q2, q3, q4⟩ := hq; rw [<- hL2] at q2 q3; exact ⟨(a, c), q2, q3, q4⟩))
 have HM3 := hI (fun W (hW : Ext w W) => (HC3.out W hW).mono (fun r w' (hq : ∃ u a c, u = ofB [3] l /\ r = .returned (.slice a u.length c) /\ IsClas w' u a u.length c /\ Ext W w') => show ∃ x : OA × Nat, r = .returned (.slice x.1 L3.length x.2) /\ IsClas w' L3 x.1 L3.length x.2 /\ Ext W w' by obtain ⟨u, a, c, rfl, q2, q3, q4⟩ := hq; rw [<- hL3] at q2 q3; exact ⟨(a, c), q2, q3, q4⟩))
 have HM4 := hI (fun W (hW : Ext w W) => (HC4.out W hW).mono (fun r w' (hq : ∃ u a c, u = ofB [4] l /\ r = .returned (.slice a u.length c) /\ IsClas w' u a u.length c /\ Ext W w') => show ∃ x : OA × Nat, r = .returned (.slice x.1 L4.length x.2) /\ IsClas w' L4 x.1 L4.length x.2 /\ Ext W w' by obtain ⟨u, a, c, rfl, q2, q3, q4⟩ := hq; rw [<- hL4] at q2 q3; exact ⟨(a, c), q2, q3, q4⟩))
 clear hL2 hL3 hL4 hQ2 hQ3 hQ4 S2 S3 S4 HT HRV2 HC2 HC3 HC4 HAN HAP HA2 HE0
 unfold LossV.val at *
 obtain ⟨w2, hw2⟩ : ∃ w2, w2 = w1.alloc (.cells #[.slice lo.sa lo.sn lo.sc, .map (some lo.bm), .slice lo.fa lo.fn lo.fc] 74) := ⟨_, rfl⟩
 have HX12 := hI (show Ext w1 w2 by rw [hw2]; exact (Ext.refl _).alloc _)
 have HB2 := hI (HX12.out.blk HB.out)
 have HL2 := hI (show w2.heap[w1.heap.size]? = some (.cells #[.slice lo.sa lo.sn lo.sc, .map (some lo.bm), .slice lo.fa lo.fn lo.fc] 74 (0, 0)) by rw [hw2]; exact alloc_new w1 _)
 go_upto_region 4 with fail
 rw [<- hw2]
 clear hw2 HB
 obtain ⟨bl, hbl⟩ : ∃ bl, bl = w1.heap.size := ⟨_, rfl⟩
 rw [<- hbl] at HL2 ⊢
 clear hbl
 obtain ⟨x0, x1, x2, xf⟩ := blk3 HL2.out
 have C0 := win_cell x0
 have C1 := win_cell x1
 have C2 := win_cell x2
 refine chn_ext 5 ?_
 repeat (refine chn_plain ?_; intro K hK; go_big_quiet_op; go_big_quiet_on)
 refine chn_call (γ := OA × Nat) (fun x => .slice x.1 L2.length x.2) (fun x W => IsClas W L2 x.1 L2.length x.2) (fun W hW _ _ => ?_) (fun x W W' hx h => h.ext hx) ?_ ⟨(none, 0)⟩
 ·unfold GivesOp
  go_simp
  refine (HM2.out W ((HX1.out.trans HX12.out).trans hW)).mono ?_
  rintro r w9 ⟨x, rfl, h1, h2⟩
  exact ⟨_, rfl, h2, x, rfl, h1⟩
 rintro ⟨xa, xc⟩ K hK
 go_simp; go_big_quiet_on
 repeat (refine chn_plain ?_; intro K hK; go_big_quiet_op; go_big_quiet_on)
 refine chn_known (.bool Q2) (fun _ => True) (fun W hW hu _ => ?_) (fun _ _ _ h => h) ?_
 ·unfold GivesOp
  go_simp
  refine (HN2.out xa xc W (HX12.out.trans hW) hu).mono ?_
  rintro r w9 ⟨rfl, hx9⟩
  exact ⟨_, rfl, hx9, rfl, trivial⟩
 intro K hK
 go_simp; go_big_quiet_on
 repeat (refine chn_plain ?_; intro K hK; go_big_quiet_op; go_big_quiet_on)
 refine chn_nil fun w3 hx _ _ => ?_
 have HX13 := hI (HX12.out.trans hx)
 have HB3 := hI (hx.blk HB2.out)
 have HL3 := hI (hx.blk HL2.out)
 have HXW3 := hI (HX1.out.trans HX13.out)
 clear hx x0 x1 x2 xf C0 C1 C2 HB2 HL2 HX12 HM2 HN2
 cases Q2
 case false =>
  have HQ := hI (show R = ⟨1, 0, 0, 0, 0, false⟩ by rw [HVD.out]; simp)
  have hz := HB3.out
  unfold DecO Dec.cells at hz
  obtain ⟨z0, z1, z2, z3, z4, z5, zf⟩ := blk6d hz
  dsimp only at z0 z1 z2 z3 z4 z5
  go_wp2_with fail
  obtain ⟨w8, hw8⟩ : ∃ w8, w8 = put6d w3 bd (.int .i64 1) (.int .i64 0) (.int .i64 0) (.int .i64 0) (.int .i64 0) (.bool false) := ⟨_, rfl⟩
  have HX8 := hI (show Ext w w8 by rw [hw8]; exact (put6d_chg _ _).ext HXW3.out (by simp; omega))
  have h8 : w8.heap[bd]? = some (.cells #[.int .i64 1, .int .i64 0, .int .i64 0, .int .i64 0, .int .i64 0, .bool false] 29 (0, 0)) := by rw [hw8]; exact put6d_blk hz
  unfold put6d at hw8
  rw [<- hw8]
  clear hw8 z0 z1 z2 z3 z4 z5 zf hz
  obtain ⟨z0, z1, z2, z3, z4, z5, zf⟩ := blk6d h8
  refine bodyPost_ret (v := .tuple #[.agg R.cells, .int .i64 0]) (by rw [HQ.out]; simp [results, Tryz.results13, go_sem, Dec.cells, z0, z1, z2, z3, z4, z5]) rfl ?_
  exact ⟨rfl, HX8.out⟩
 go_wp2_with fail
 obtain ⟨x0, x1, x2, xf⟩ := blk3 HL3.out
 have C0 := win_cell x0
 have C1 := win_cell x1
 have C2 := win_cell x2
 refine chn_ext 4 ?_
 repeat (refine chn_plain ?_; intro K hK; go_big_quiet_op; go_big_quiet_on)
 refine chn_call (γ := OA × Nat) (fun x => .slice x.1 L4.length x.2) (fun x W => IsClas W L4 x.1 L4.length x.2) (fun W hW _ _ => ?_) (fun x W W' hx h => h.ext hx) ?_ ⟨(none, 0)⟩
 ·unfold GivesOp
  go_simp
  refine (HM4.out W ((HX1.out.trans HX13.out).trans hW)).mono ?_
  rintro r w9 ⟨x, rfl, h1, h2⟩
  exact ⟨_, rfl, h2, x, rfl, h1⟩
 rintro ⟨xa, xc⟩ K hK
 go_simp; go_big_quiet_on
 repeat (refine chn_plain ?_; intro K hK; go_big_quiet_op; go_big_quiet_on)
 refine chn_known (.bool Q4) (fun _ => True) (fun W hW hu _ => ?_) (fun _ _ _ h => h) ?_
 ·unfold GivesOp
  go_simp
  refine (HN4.out xa xc W (HX13.out.trans hW) hu).mono ?_
  rintro r w9 ⟨rfl, hx9⟩
  exact ⟨_, rfl, hx9, rfl, trivial⟩
 intro K hK
 go_simp; go_big_quiet_on
 repeat (refine chn_plain ?_; intro K hK; go_big_quiet_op; go_big_quiet_on)
 refine chn_nil fun w4 hx _ _ => ?_
 have HX14 := hI (HX13.out.trans hx)
 have HB4 := hI (hx.blk HB3.out)
 have HL4 := hI (hx.blk HL3.out)
 have HXW4 := hI (HX1.out.trans HX14.out)
 clear hx x0 x1 x2 xf C0 C1 C2 HB3 HL3 HX13 HM4 HN4
 cases Q4
 case true =>
  have HQ := hI (show R = ⟨2, 0, 0, 0, 0, false⟩ by rw [HVD.out]; simp)
  have hz := HB4.out
  unfold DecO Dec.cells at hz
  obtain ⟨z0, z1, z2, z3, z4, z5, zf⟩ := blk6d hz
  dsimp only at z0 z1 z2 z3 z4 z5
  go_wp2_with fail
  obtain ⟨w8, hw8⟩ : ∃ w8, w8 = put6d w4 bd (.int .i64 2) (.int .i64 0) (.int .i64 0) (.int .i64 0) (.int .i64 0) (.bool false) := ⟨_, rfl⟩
  have HX8 := hI (show Ext w w8 by rw [hw8]; exact (put6d_chg _ _).ext HXW4.out (by simp; omega))
  have h8 : w8.heap[bd]? = some (.cells #[.int .i64 2, .int .i64 0, .int .i64 0, .int .i64 0, .int .i64 0, .bool false] 29 (0, 0)) := by rw [hw8]; exact put6d_blk hz
  unfold put6d at hw8
  rw [<- hw8]
  clear hw8 z0 z1 z2 z3 z4 z5 zf hz
  obtain ⟨z0, z1, z2, z3, z4, z5, zf⟩ := blk6d h8
  refine bodyPost_ret (v := .tuple #[.agg R.cells, .int .i64 0]) (by rw [HQ.out]; simp [results, Tryz.results13, go_sem, Dec.cells, z0, z1, z2, z3, z4, z5]) rfl ?_
  exact ⟨rfl, HX8.out⟩
 go_wp2_with fail
 obtain ⟨x0, x1, x2, xf⟩ := blk3 HL4.out
 have C0 := win_cell x0
 have C1 := win_cell x1
 have C2 := win_cell x2
 refine chn_ext 4 ?_
 repeat (refine chn_plain ?_; intro K hK; go_big_quiet_op; go_big_quiet_on)
 refine chn_call (γ := OA × Nat) (fun x => .slice x.1 L3.length x.2) (fun x W => IsClas W L3 x.1 L3.length x.2) (fun W hW _ _ => ?_) (fun x W W' hx h => h.ext hx) ?_ ⟨(none, 0)⟩
 ·unfold GivesOp
  go_simp
  refine (HM3.out W ((HX1.out.trans HX14.out).trans hW)).mono ?_
  rintro r w9 ⟨x, rfl, h1, h2⟩
  exact ⟨_, rfl, h2, x, rfl, h1⟩
 rintro ⟨xa, xc⟩ K hK
 go_simp; go_big_quiet_on
 repeat (refine chn_plain ?_; intro K hK; go_big_quiet_op; go_big_quiet_on)
 refine chn_known (.bool Q3) (fun _ => True) (fun W hW hu _ => ?_) (fun _ _ _ h => h) ?_
 ·unfold GivesOp
  go_simp
  refine (HN3.out xa xc W (HX14.out.trans hW) hu).mono ?_
  rintro r w9 ⟨rfl, hx9⟩
  exact ⟨_, rfl, hx9, rfl, trivial⟩
 intro K hK
 go_simp; go_big_quiet_on
 repeat (refine chn_plain ?_; intro K hK; go_big_quiet_op; go_big_quiet_on)
 refine chn_nil fun w5 hx _ _ => ?_
 have HX15 := hI (HX14.out.trans hx)
 have HB5 := hI (hx.blk HB4.out)
 have HL5 := hI (hx.blk HL4.out)
 have HXW5 := hI (HX1.out.trans HX15.out)
 clear hx x0 x1 x2 xf C0 C1 C2 HB4 HL4 HX14 HM3 HN3
 cases Q3
 case true =>
  have HQ := hI (show R = ⟨3, 0, 0, 0, 0, false⟩ by rw [HVD.out]; simp)
  have hz := HB5.out
  unfold DecO Dec.cells at hz
  obtain ⟨z0, z1, z2, z3, z4, z5, zf⟩ := blk6d hz
  dsimp only at z0 z1 z2 z3 z4 z5
  go_wp2_with fail
  obtain ⟨w8, hw8⟩ : ∃ w8, w8 = put6d w5 bd (.int .i64 3) (.int .i64 0) (.int .i64 0) (.int .i64 0) (.int .i64 0) (.bool false) := ⟨_, rfl⟩
  have HX8 := hI (show Ext w w8 by rw [hw8]; exact (put6d_chg _ _).ext HXW5.out (by simp; omega))
  have h8 : w8.heap[bd]? = some (.cells #[.int .i64 3, .int .i64 0, .int .i64 0, .int .i64 0, .int .i64 0, .bool false] 29 (0, 0)) := by rw [hw8]; exact put6d_blk hz
  unfold put6d at hw8
  rw [<- hw8]
  clear hw8 z0 z1 z2 z3 z4 z5 zf hz
  obtain ⟨z0, z1, z2, z3, z4, z5, zf⟩ := blk6d h8
  refine bodyPost_ret (v := .tuple #[.agg R.cells, .int .i64 0]) (by rw [HQ.out]; simp [results, Tryz.results13, go_sem, Dec.cells, z0, z1, z2, z3, z4, z5]) rfl ?_
  exact ⟨rfl, HX8.out⟩
 go_wp2_with fail
 have HQ := hI (show R = insB ⟨4, -1, 0, 0, 0, false⟩ ((ofB kindsT l).filter (claV V)) by rw [HVD.out]; simp)
 have HKT := hI (HLN.out kindsT)
 have HMT := hI (fun x (hx : x ∈ ofB kindsT l) => HP2.out x (ofB_mem hx))
 refine (HC5.out w5 HXW5.out).mono ?_
 rintro r w6 ⟨u, ta, tc, hu, rfl, hcl, hx6⟩
 have hu' : u = ofB kindsT l := hu
 rw [<- hu'] at HQ HKT HMT
 have HXW6 := hI (HXW5.out.trans hx6)
 have HX16 := hI (HX15.out.trans hx6)
 have HB6 := hI (hx6.blk HB5.out)
 have HL6 := hI (hx6.blk HL5.out)
 have HCL := hI hcl
 obtain ⟨m, hm⟩ : ∃ m, m = u.length := ⟨_, rfl⟩
 have HM := hI hm
 rw [<- hm] at HKT HCL ⊢
 have hm6 := HKT.out
 clear hu hu' hcl hx6 hm HC5 HP2 HVD HLN HB5 HL5 HXW5 HX15
 go_wp2_with fail
 go_loopw [10, 43] (fun lv i wr => ∃ (k : Nat) (vs : List ClV) (q : List Cla), i = .int .i64 k /\ k <= m /\ q = (u.take k).filter (claV V) /\ q.length <= k /\ ClasR w6 q vs /\ wr.ownsRow w6.heap.size 48 10 lv q.length (vs.flatMap ClV.cells) /\ Ext w6 wr) (fun _ i _ => m - (intOf i).toNat)
 case atStart => exact ⟨0, [], [], rfl, by omega, rfl, by simp, ⟨rfl, fun i h => by simp at h⟩, World.ownsRow_nil _ _ _ _, Ext.refl _⟩
 case round =>
  obtain ⟨k, vs, q, rfl, hkn2, hq, hql, hcr, hown, hx⟩ := hrel
  obtain ⟨la, lc, hlv⟩ := owns_form hown
  subst hlv
  have HU := hI hq
  have HCR := hI hcr
  have HOWN := hI hown
  have HX := hI hx
  clear hq hcr hown hx
  by_cases hlt : k < m
  ·have hkl : k < u.length := by have := HM.out; omega
   have t1 : decide ((k : Int) < (m : Int)) = true := decide_eq_true (by omega)
   obtain ⟨cb, coff, v, rfl, hcla, hrow⟩ := HCL.out.at hkl
   obtain ⟨c0, c1, c2, c3, c4, c5, c6, c7, c8, c9⟩ := (hrow.mono HX.out.sub).ten
   have HCLA := hI hcla
   have HREC := hI (fun W (hW : Ext w6 W) => HMT.out u[k] (List.getElem_mem hkl) v W (HX16.out.trans hW) (hcla.mono hW.sub))
   have HST := hI (filter_take (claV V) hkl)
   obtain ⟨T, hT⟩ : ∃ T, T = claV V u[k] := ⟨_, rfl⟩
   rw [show (V u[k].cond && !wbsV V u[k].unl) = T from hT.symm] at HREC
   rw [<- hT, <- HU.out] at HST
   clear hcla hrow hT
   obtain ⟨wb, hwb⟩ : ∃ wb, wb = wr.alloc (.cells #[.int .i64 v.kind, .string v.name, .int .i64 v.x.op, .string v.x.name, .slice v.x.aw v.x.nw v.x.cw, .int .i64 v.x.lo, .int .i64 v.x.hi, .slice v.x.aa v.x.na v.x.ca, .slice v.au v.nu v.cu, .int .i64 v.amount] 48) := ⟨_, rfl⟩
   have HXB := hI (show Ext wr wb by rw [hwb]; exact (Ext.refl _).alloc _)
   have HBC := hI (show wb.heap[wr.heap.size]? = some (.cells #[.int .i64 v.kind, .string v.name, .int .i64 v.x.op, .string v.x.name, .slice v.x.aw v.x.nw v.x.cw, .int .i64 v.x.lo, .int .i64 v.x.hi, .slice v.x.aa v.x.na v.x.ca, .slice v.au v.nu v.cu, .int .i64 v.amount] 48 (0, 0)) by rw [hwb]; exact alloc_new wr _)
   obtain ⟨f0, f1, f2, f3, f4, f5, f6, f7, f8, f9, ff⟩ := blk10 HBC.out
   obtain ⟨x0, x1, x2, xf⟩ := blk3 ((HX.out.trans HXB.out).blk HL6.out)
   go_upto_region 14 with fail
   rw [<- hwb]
   clear hwb c0 c1 c2 c3 c4 c5 c6 c7 c8 c9
   go_wp2_with fail
   refine (HREC.out wb (HX.out.trans HXB.out)).mono ?_
   rintro e w9 ⟨rfl, hx9⟩
   have HX9 := hI (HXB.out.trans hx9)
   have HBC9 := hI (hx9.blk HBC.out)
   have hsb : w6.heap.size <= w9.heap.size := Nat.le_trans HX.out.size HX9.out.size
   clear hx9 f0 f1 f2 f3 f4 f5 f6 f7 f8 f9 ff x0 x1 x2 xf HBC HXB
   cases T
   case false =>
    go_wp2_with fail
    go_roundw
    case rel => exact ⟨k + 1, vs, q, by go_num, by omega, by rw [HST.out]; rfl, by omega, HCR.out, owns_chg HOWN.out (HX9.out.chg []) (by simp), HX.out.trans HX9.out⟩
    case measure => simp [intOf]; omega
   case true =>
    have HO3 := hI (owns_chg HOWN.out (HX9.out.chg []) (by simp))
    obtain ⟨f0, f1, f2, f3, f4, f5, f6, f7, f8, f9, ff⟩ := blk10 HBC9.out
    go_wp2_with (at_builtin; refine wpList_append_at elemCla rfl _ _ rfl w6.heap.size _ q.length _ rfl HO3.out _ 1 1 rfl ?f0 rfl ?f1 ?f2 ?f3 ?f4 ?_)
    case f0 => simp
    case f1 => simp [Value.oneCell']
    case f2 => unfold maxLen; omega
    case f3 => omega
    case f4 => omega
    intro v8 w8 hown8 hc8 hw8
    have HO8 := hI hown8
    have HX8 := hI (hc8.ext (HX.out.trans HX9.out) fun q hq => (HO3.out.lt q (mem_rowOf.1 hq)).1)
    clear hown8 hc8 hw8 f0 f1 f2 f3 f4 f5 f6 f7 f8 f9 ff
    go_wp2_with fail
    go_roundw
    case rel => exact ⟨k + 1, vs ++ [v], q ++ [u[k]], by go_num, by omega, by rw [HST.out]; rfl, by simp; omega, HCR.out.snoc HCLA.out, by simpa [ClV.cells] using HO8.out, HX8.out⟩
    case measure => simp [intOf]; omega
  have t1 : decide ((k : Int) < (m : Int)) = false := decide_eq_false (by omega)
  have HQ2 := hI (show R = insB ⟨4, -1, 0, 0, 0, false⟩ q by rw [HQ.out, HU.out, List.take_of_length_le (by have := HM.out; omega)])
  have hcl := clas_owns (M := []) HOWN.out (by simp) (HCR.out.mono (HX.out.sub.trans (to_mask_nil _)))
  obtain ⟨a', c', hv, hcl⟩ := hcl
  simp only [Value.slice.injEq, true_and] at hv
  obtain ⟨rfl, rfl⟩ := hv
  have HCL2 := hI (insured_calls q la q.length lc wr (hcl.mono (mask_sub _ _)) (by omega))
  rw [<- HQ2.out] at HCL2
  have HBW := hI (HX.out.blk HB6.out)
  clear hcl
  obtain ⟨r1, r2, r3, r4, r5, r6⟩ := R
  unfold Dec.cells at HCL2
  go_wp2_with fail
  refine HCL2.out.mono ?_
  rintro e w7 ⟨rfl, hx7⟩
  have HX7 := hI ((HXW6.out.trans HX.out).trans hx7)
  have HB7 := hI (hx7.blk HBW.out)
  clear hx7
  have hz := HB7.out
  unfold DecO Dec.cells at hz
  obtain ⟨z0, z1, z2, z3, z4, z5, zf⟩ := blk6d hz
  dsimp only at z0 z1 z2 z3 z4 z5
  go_wp2_with fail
  obtain ⟨w8, hw8⟩ : ∃ w8, w8 = put6d w7 bd (.int .i64 r1) (.int .i64 r2) (.int .i64 r3) (.int .i64 r4) (.int .i64 r5) (.bool r6) := ⟨_, rfl⟩
  have HX8 := hI (show Ext w w8 by rw [hw8]; exact (put6d_chg _ _).ext HX7.out (by simp; omega))
  have h8 : w8.heap[bd]? = some (.cells #[.int .i64 r1, .int .i64 r2, .int .i64 r3, .int .i64 r4, .int .i64 r5, .bool r6] 29 (0, 0)) := by rw [hw8]; exact put6d_blk hz
  unfold put6d at hw8
  rw [<- hw8]
  clear hw8 z0 z1 z2 z3 z4 z5 zf hz
  obtain ⟨z0, z1, z2, z3, z4, z5, zf⟩ := blk6d h8
  refine bodyPost_ret (v := .tuple #[.agg #[.int .i64 r1, .int .i64 r2, .int .i64 r3, .int .i64 r4, .int .i64 r5, .bool r6], .int .i64 0]) (by simp [results, Tryz.results13, go_sem, z0, z1, z2, z3, z4, z5]) rfl ?_
  exact ⟨rfl, HX8.out⟩
open Go.RowKit
structure W12 where
 sa : OA
 sn : Nat
 sc : Nat
 la : OA
 ln : Nat
 lc : Nat
 fa : OA
 fn : Nat
 fc : Nat
def W12.val (v : W12) : Value := .agg #[.slice v.sa v.sn v.sc, .slice v.la v.ln v.lc, .slice v.fa v.fn v.fc]
structure IsW12 (w : World) (s : List Attr) (l : List Cla) (f : ZI) (v : W12) : Prop where
 mem : s ∈ schemas
 sch : IsSchema w s (.agg #[.slice v.sa v.sn v.sc])
 clas : IsClas w l v.la v.ln v.lc
 glok : GLOk s pcd l
 len : l.length <= 10
 facts : factsAll s f = true
 ints : IsIntF w f v.fa v.fn
theorem IsW12.mono {w w' : World} {s : List Attr} {l : List Cla} {f : ZI} {v : W12} (h : IsW12 w s l f v) (hs : Sub w w') : IsW12 w' s l f v :=
 ⟨h.mem, h.sch.mono hs, h.clas.mono hs, h.glok, h.len, h.facts, h.ints.mono hs⟩
theorem good_fit12 {c : Cla} (h : CGood c) (hn : c.name.size <= 1000) : c.fit := by
 obtain ⟨g1, g2, g3, g4, g5, g6⟩ := h
 have hl := wbN_len c.unl
 exact ⟨by omega, g1, g2, slim_of_size _ (by omega), by omega, wbFits_of_ok _ g5 (by omega)⟩
theorem IsW12.cfit {w : World} {s : List Attr} {l : List Cla} {f : ZI} {v : W12} (h : IsW12 w s l f v) : ∀ c ∈ l, c.fit := fun c hc => good_fit12 (h.glok.1 c hc).1 (by have := (h.glok.1 c hc).2; have h3 : pcd.size = 2 := rfl; omega)
theorem putA_blk {w : World} {b i : Nat} {cs : Array Value} {t : TypeId} (h : w.heap[b]? = some (.cells cs t (0, 0))) (v : Value) : (w.setCell ⟨b, i, none⟩ v).heap[b]? = some (.cells (cs.setIfInBounds i v) t (0, 0)) := Go.heap_setCell_same w b i cs t v h
theorem put1_chg (w : World) (b i : Nat) (v : Value) : Chg [b] w (w.setCell ⟨b, i, none⟩ v) := (Chg.refl _ w).setCell (Or.inl (by simp)) _
theorem maskC {W W' : World} {K N : ZN} (h : Chg K W W') (hk : ∀ y ∈ K, y ∈ N) : Sub (mask W N) (mask W' N) := mask_grow h fun y hy => Or.inl (hk y hy)
def Made12Q (w : World) (e : Ending) (w' : World) : Prop := ∃ s l f v bd, e = .returned (.tuple #[W12.val v, .pointer (some ⟨bd, 0, none⟩)]) /\ IsW12 (mask w' [bd]) s l f v /\ DeckAt w w' bd /\ Ext w w'
theorem made12_calls (da : OA) (dn dc : Nat) (w0 : World) (h : IntsAt w0 da dn) (hdl : dn <= 1000000000000000) : Calls Tryz.prog 15 #[.slice da dn dc] w0 (Made12Q w0) := by
 have HI := hI h
 clear h
 obtain ⟨rb, hrb⟩ : ∃ rb, rb = w0.heap.size := ⟨_, rfl⟩
 obtain ⟨wa, hwa⟩ : ∃ wa, wa = w0.alloc (.cells #[.slice none 0 0, .slice none 0 0, .slice none 0 0] 34) := ⟨_, rfl⟩
 have HXA := hI (show Ext w0 wa by rw [hwa]; exact (Ext.refl _).alloc _)
 have HRA := hI (show wa.heap[rb]? = some (.cells #[.slice none 0 0, .slice none 0 0, .slice none 0 0] 34 (0, 0)) by rw [hwa, hrb]; exact alloc_new w0 _)
 have HRE := hI hrb
 go_enter Tryz.func15, Tryz.ntmps15
 go_upto_region 1 with fail
 rw [<- hwa, <- hrb]
 clear hwa hrb
 go_wp2_with fail
 refine (new_callsB da dn dc w0 wa HI.out HXA.out hdl).mono ?_
 rintro e w1 ⟨bd, rfl, hd1, hx1, hbl⟩
 go_upto_region 3 with fail
 obtain ⟨bw, hbw⟩ : ∃ bw, bw = w1.heap.size := ⟨_, rfl⟩
 obtain ⟨w2, hw2⟩ : ∃ w2, w2 = w1.alloc (.cells #[.slice none 0 0, .slice none 0 0, .slice none 0 0] 34) := ⟨_, rfl⟩
 have hx2 : Ext w1 w2 := by rw [hw2]; exact (Ext.refl _).alloc _
 have HW2 := hI (show w2.heap[bw]? = some (.cells #[.slice none 0 0, .slice none 0 0, .slice none 0 0] 34 (0, 0)) by rw [hw2, hbw]; exact alloc_new w1 _)
 have HLT := hI (show rb < bd /\ bd < bw /\ w0.heap.size <= rb by have := blk_lt HRA.out; have := hd1.lt; have := HRE.out; omega)
 rw [<- hw2, <- hbw]
 clear hw2 hbw
 have HD2 := hI (hd1.ext hx2)
 have HR2 := hI (hx2.blk (hx1.blk HRA.out))
 clear hd1 hx1 hx2 hbl HXA HRA HRE
 go_wp2_with fail
 refine (next_calls HD2.out 6 (by omega) (by omega)).mono ?_
 rintro e w3 ⟨z, rfl, hz0, hz1, hd3, hc3⟩
 have HLB := hI (show ∀ y ∈ [bd, bw, rb], y < w3.heap.size from fun y hy => by
  have h1 := blk_lt HW2.out
  have h2 := HLT.out
  have h3 := hc3.size
  simp only [List.mem_cons, List.not_mem_nil, or_false] at hy
  rcases hy with rfl | rfl | rfl <;> omega)
 have HD3 := hI hd3
 have HW3 := hI (hc3.blk HW2.out (by have := HLT.out; simp; omega))
 have HR3 := hI (hc3.blk HR2.out (by have := HLT.out; simp; omega))
 clear hd3 hc3 HD2 HW2 HR2
 go_wp2_with fail
 refine (schema_calls z [bd, bw, rb] w3 HLB.out).mono ?_
 rintro e w4 ⟨attrs, v, rfl, hat, hsch, hx4⟩
 obtain ⟨sa, sn, sc, rfl, hsn⟩ := hsch.slice
 have HAT := hI hat
 have HR4 := hI (hx4.blk HR3.out)
 have HD4 := hI (HD3.out.ext hx4)
 have HS4 := hI hsch
 have HLB4 := hI (show ∀ y ∈ [bd, bw, rb], y < w4.heap.size from fun y hy => Nat.lt_of_lt_of_le (HLB.out y hy) hx4.size)
 have hw4 := hx4.blk HW3.out
 clear hat hsch hx4 HW3 HR3 HD3 HLB hsn
 obtain ⟨c0, c1, c2, cf⟩ := blk3 hw4
 go_upto_region 4 with fail
 obtain ⟨w5, hw5⟩ : ∃ w5, w5 = w4.setCell ⟨bw, 0, none⟩ (.slice sa sn sc) := ⟨_, rfl⟩
 have hc5 : Chg [bw] w4 w5 := by rw [hw5]; exact put1_chg _ _ _ _
 have HW5 := hI (show w5.heap[bw]? = some (.cells #[.slice sa sn sc, .slice none 0 0, .slice none 0 0] 34 (0, 0)) by rw [hw5]; have := putA_blk (i := 0) hw4 (.slice sa sn sc); simpa using this)
 rw [<- hw5]
 clear hw5 hw4 c0 c1 c2 cf
 have HR5 := hI (hc5.blk HR4.out (by have := HLT.out; simp; omega))
 have HD5 := hI (HD4.out.chg hc5 (by have := HLT.out; simp; omega) (fun y hy => by simp only [List.mem_singleton] at hy; have := HLT.out; omega))
 have HS5 := hI (HS4.out.mono (maskC hc5 (by simp)))
 have HLB5 := hI (show ∀ y ∈ [bd, bw, rb], y < w5.heap.size from fun y hy => Nat.lt_of_lt_of_le (HLB4.out y hy) hc5.size)
 clear hc5 HR4 HD4 HS4 HLB4
 obtain ⟨c0, c1, c2, cf⟩ := blk3 HW5.out
 go_wp2_with fail
 refine (dfacts_calls (schema_zero HAT.out) (attrs_fits HAT.out) HD5.out sa sn sc [bd, bw, rb] (HS5.out.mono (mask_less _ (by simp))) HLB5.out).mono ?_
 rintro e w6 ⟨f, fa, fc, rfl, hfa, -, hif, hd6, hc6⟩
 have HFA := hI hfa
 have HIF6 := hI hif
 have HD6 := hI hd6
 have hw6 := hc6.blk HW5.out (by have := HLT.out; simp; omega)
 have HR6 := hI (hc6.blk HR5.out (by have := HLT.out; simp; omega))
 have HS6 := hI (HS5.out.mono (maskC hc6 (by simp)))
 have HLB6 := hI (show ∀ y ∈ [bd, bw, rb], y < w6.heap.size from fun y hy => Nat.lt_of_lt_of_le (HLB5.out y hy) hc6.size)
 clear hfa hif hd6 hc6 c0 c1 c2 cf HD5 HW5 HR5 HS5 HLB5
 obtain ⟨c0, c1, c2, cf⟩ := blk3 hw6
 obtain ⟨fn, hfn⟩ : ∃ fn, fn = f.length := ⟨_, rfl⟩
 rw [<- hfn]
 rw [<- hfn] at HIF6
 clear hfn
 go_upto_region 5 with fail
 obtain ⟨w7, hw7⟩ : ∃ w7, w7 = w6.setCell ⟨bw, 2, none⟩ (.slice fa fn fc) := ⟨_, rfl⟩
 have hc7 : Chg [bw] w6 w7 := by rw [hw7]; exact put1_chg _ _ _ _
 have HW7 := hI (show w7.heap[bw]? = some (.cells #[.slice sa sn sc, .slice none 0 0, .slice fa fn fc] 34 (0, 0)) by rw [hw7]; have := putA_blk (i := 2) hw6 (.slice fa fn fc); simpa using this)
 rw [<- hw7]
 clear hw7 hw6 c0 c1 c2 cf
 have HR7 := hI (hc7.blk HR6.out (by have := HLT.out; simp; omega))
 have HD7 := hI (HD6.out.chg hc7 (by have := HLT.out; simp; omega) (fun y hy => by simp only [List.mem_singleton] at hy; have := HLT.out; omega))
 have HS7 := hI (HS6.out.mono (maskC hc7 (by simp)))
 have HIF7 := hI (HIF6.out.mono (maskC hc7 (by simp)))
 have HLB7 := hI (show ∀ y ∈ [bd, bw, rb], y < w7.heap.size from fun y hy => Nat.lt_of_lt_of_le (HLB6.out y hy) hc7.size)
 clear hc7 HR6 HD6 HS6 HLB6 HIF6
 obtain ⟨c0, c1, c2, cf⟩ := blk3 HW7.out
 have HCL := hI (show Calls Tryz.prog 39 #[.pointer (some ⟨bd, 0, none⟩), .agg #[.slice sa sn sc], .int .i64 9, .string ⟨#[99, 45]⟩] w7 (GenQ attrs pcd 9 w0 bd [bd, bw, rb] w7) from
  gclauses_calls HAT.out (schemas_ok attrs HAT.out).1 (schemas_ok attrs HAT.out).2.1 (schemas_ok attrs HAT.out).2.2 HD7.out sa sn sc [bd, bw, rb] (HS7.out.mono (mask_less _ (by simp))) HLB7.out 9 (by omega) pcd (by decide))
 go_wp2_with fail
 refine HCL.out.mono ?_
 rintro e w8 ⟨l, la, ln, lc, rfl, hcl, hgl, hl1, hl2, hd8, hc8⟩
 have HGL := hI hgl
 have HLL := hI (show l.length <= 10 from hl2)
 have HCL8 := hI hcl
 have HD8 := hI hd8
 have hw8 := hc8.blk HW7.out (by have := HLT.out; simp; omega)
 have HR8 := hI (hc8.blk HR7.out (by have := HLT.out; simp; omega))
 have HS8 := hI (HS7.out.mono (maskC hc8 (by simp)))
 have HIF8 := hI (HIF7.out.mono (maskC hc8 (by simp)))
 clear hcl hgl hl1 hl2 hd8 hc8 c0 c1 c2 cf HD7 HW7 HR7 HS7 HIF7 HLB7 HCL
 obtain ⟨c0, c1, c2, cf⟩ := blk3 hw8
 go_upto_region 6 with fail
 obtain ⟨w9, hw9⟩ : ∃ w9, w9 = w8.setCell ⟨bw, 1, none⟩ (.slice la ln lc) := ⟨_, rfl⟩
 have hc9 : Chg [bw] w8 w9 := by rw [hw9]; exact put1_chg _ _ _ _
 have HW9 := hI (show w9.heap[bw]? = some (.cells #[.slice sa sn sc, .slice la ln lc, .slice fa fn fc] 34 (0, 0)) by rw [hw9]; have := putA_blk (i := 1) hw8 (.slice la ln lc); simpa using this)
 rw [<- hw9]
 clear hw9 hw8 c0 c1 c2 cf
 have HR9 := hI (hc9.blk HR8.out (by have := HLT.out; simp; omega))
 have HD9 := hI (HD8.out.chg hc9 (by have := HLT.out; simp; omega) (fun y hy => by simp only [List.mem_singleton] at hy; have := HLT.out; omega))
 have HIW := hI (show IsW12 (mask w9 [bd, bw, rb]) attrs l f ⟨sa, sn, sc, la, ln, lc, fa, fn, fc⟩ from ⟨HAT.out, HS8.out.mono (maskC hc9 (by simp)), HCL8.out.mono (maskC hc9 (by simp)), HGL.out, HLL.out, HFA.out, HIF8.out.mono (maskC hc9 (by simp))⟩)
 clear hc9 HR8 HD8 HS8 HIF8 HCL8
 obtain ⟨c0, c1, c2, cf⟩ := blk3 HW9.out
 obtain ⟨r0, r1, r2, rf⟩ := blk3 HR9.out
 go_wp2_with fail
 obtain ⟨wz, hwz⟩ : ∃ wz, wz = put3 w9 rb (.slice sa sn sc) (.slice la ln lc) (.slice fa fn fc) := ⟨_, rfl⟩
 have hcz : Chg [rb] w9 wz := by rw [hwz]; exact put3_chg _ _ _ _ _ (by simp)
 have HZ : wz.heap[rb]? = some (.cells #[.slice sa sn sc, .slice la ln lc, .slice fa fn fc] 34 (0, 0)) := by rw [hwz]; exact put3_blk HR9.out _ _ _
 unfold put3 at hwz
 rw [<- hwz]
 clear hwz c0 c1 c2 cf r0 r1 r2 rf
 obtain ⟨z0, z1, z2, zf⟩ := blk3 HZ
 have hdz := HD9.out.chg hcz (by have := HLT.out; simp; omega) (fun y hy => by simp only [List.mem_singleton] at hy; have := HLT.out; omega)
 refine bodyPost_ret (v := .tuple #[W12.val ⟨sa, sn, sc, la, ln, lc, fa, fn, fc⟩, .pointer (some ⟨bd, 0, none⟩)]) (by simp [results, Tryz.results15, go_sem, W12.val, z0, z1, z2]) rfl ?_
 exact ⟨attrs, l, f, _, bd, rfl, (HIW.out.mono (maskC hcz (by simp))).mono (mask_less _ (by simp)), hdz, by obtain ⟨_, _, _, _, _, _, _, _, hxw, _⟩ := hdz; exact hxw⟩
theorem rDecErr_calls (s : List Attr) (l : List Cla) (f : ZI) (sv : Value) (a : OA) (n c : Nat) (fa : OA) (fn fc : Nat) (w : World) (hs : IsSchema w s sv) (hf : ∀ x ∈ s, x.fits) (hsl : s.length <= 1000000000000000) (hl : IsClas w l a n c) (hn : n <= 1000000) (hok : ∀ x ∈ l, x.fit) (hi : IsIntF w f fa fn) :
  Calls Tryz.prog 35 #[sv, .slice a n c, .slice fa fn fc] w (GivesE (.int .i64 (decErr s l f)) w) := by
 obtain ⟨sa, sn, sc, rfl, hsn⟩ := hs.slice
 have HCL := hI (fun W (hW : Ext w W) => rClauses_calls s l _ a n c W (hs.ext hW) hf hsl (hl.ext hW) (by omega) hok)
 have HFC := hI (fun W (hW : Ext w W) => rFacts_calls s _ f fa fn fc W (hs.ext hW) hf hsl (hi.ext hW))
 obtain ⟨R, hR⟩ : ∃ R, R = decErr s l f := ⟨_, rfl⟩
 rw [<- hR]
 unfold decErr at hR
 obtain ⟨⟨i0, E1⟩, hE1⟩ : ∃ E : Nat × Int, E = clausesErr s l := ⟨_, rfl⟩
 rw [<- hE1] at HCL hR
 obtain ⟨B, hB⟩ : ∃ B, B = factsB s f := ⟨_, rfl⟩
 rw [<- hB] at HFC hR
 have HR := hI hR
 clear hs hf hsl hl hn hok hi hsn hR hE1 hB
 unfold clsV at HCL
 obtain ⟨wa, hwa⟩ : ∃ wa, wa = w.alloc (.cells #[.slice sa sn sc] 24) := ⟨_, rfl⟩
 have HXA := hI (show Ext w wa by rw [hwa]; exact (Ext.refl _).alloc _)
 have HA := hI (show wa.heap[w.heap.size]? = some (.cells #[.slice sa sn sc] 24 (0, 0)) by rw [hwa]; exact alloc_new w _)
 obtain ⟨s0, sf⟩ := blk1 HA.out
 go_enter Tryz.func35, Tryz.ntmps35
 go_upto_region 1 with fail
 rw [<- hwa]
 clear hwa
 go_wp2_with fail
 refine (HCL.out wa HXA.out).mono ?_
 rintro r w1 ⟨rfl, hx1⟩
 have HX1 := hI (HXA.out.trans hx1)
 have HB := hI (hx1.blk HA.out)
 clear hx1 s0 sf HA HXA HCL
 by_cases h1 : E1 = 0
 case neg =>
  have t1 : (E1 != 0) = true := by simp [h1]
  have HQ := hI (show R = E1 by rw [HR.out, if_pos h1])
  clear h1
  go_wp2_with fail
  go_ret
  exact ⟨by rw [HQ.out]; rfl, HX1.out⟩
 have HR4 := hI (show R = if B = false then 16 else 0 by rw [HR.out, if_neg (by simpa using h1)])
 subst h1
 clear HR
 obtain ⟨s0, sf⟩ := blk1 HB.out
 go_wp2_with fail
 refine (HFC.out w1 HX1.out).mono ?_
 rintro r w4 ⟨rfl, hx4⟩
 have HX4 := hI (HX1.out.trans hx4)
 clear hx4 s0 sf HFC
 cases B
 case false =>
  have HQ := hI (show R = 16 by rw [HR4.out]; rfl)
  go_wp2_with fail
  go_ret
  exact ⟨by rw [HQ.out]; rfl, HX4.out⟩
 have HQ := hI (show R = 0 by rw [HR4.out]; rfl)
 go_wp2_with fail
 go_ret
 exact ⟨by rw [HQ.out]; rfl, HX4.out⟩
theorem rDecide_calls (s : List Attr) (l : List Cla) (f : ZI) (sv : Value) (a : OA) (n c : Nat) (fa : OA) (fn fc : Nat) (w : World) (hs : IsSchema w s sv) (hf : ∀ x ∈ s, x.fits) (hsl : s.length <= 1000000000000000) (hl : IsClas w l a n c) (hn : n <= 1000000) (hok : ∀ x ∈ l, x.fit) (hi : IsIntF w f fa fn) :
  Calls Tryz.prog 14 #[sv, .slice a n c, .slice fa fn fc] w (GivesE (decV s l f) w) := by
 obtain ⟨sa, sn, sc, rfl, hsn⟩ := hs.slice
 have HER := hI (fun W (hW : Ext w W) => rDecErr_calls s l f _ a n c fa fn fc W (hs.ext hW) hf hsl (hl.ext hW) hn hok (hi.ext hW))
 have HVE := hI (fun (h0 : decErr s l f = 0) W (hW : Ext w W) => show Calls Tryz.prog 36 #[.agg #[.slice sa sn sc], .slice a n c, .slice fa fn fc] W (GivesE (.agg (vdB (val s l f) l).cells) W) from rVerdict_calls (verIn_of (decErr_ok h0).1 (by have := (decErr_ok h0).2; unfold factsB at this; simp only [Bool.and_eq_true] at this; exact this.2) hf fc (hs.ext hW) (hl.ext hW) (hi.ext hW)) W (Ext.refl W))
 obtain ⟨E, hE⟩ : ∃ E, E = decErr s l f := ⟨_, rfl⟩
 obtain ⟨R, hR⟩ : ∃ R, R = decD s l f := ⟨_, rfl⟩
 unfold decV
 rw [<- hR, <- hE]
 unfold decD at hR
 rw [<- hE] at hR HER HVE
 have HRZ := hI (show E ≠ 0 -> R = ⟨0, 0, 0, 0, 0, false⟩ from fun h => by rw [hR, if_neg h])
 have HRV := hI (fun (h : E = 0) W (hW : Ext w W) => show Calls Tryz.prog 36 #[.agg #[.slice sa sn sc], .slice a n c, .slice fa fn fc] W (GivesE (.agg R.cells) W) by rw [hR, if_pos h]; exact HVE.out h W hW)
 clear hs hf hsl hl hn hok hi hsn hE hR HVE
 obtain ⟨wa, hwa⟩ : ∃ wa, wa = (w.alloc (.cells #[.slice sa sn sc] 24)).alloc (.cells #[.int .i64 0, .int .i64 0, .int .i64 0, .int .i64 0, .int .i64 0, .bool false] 29) := ⟨_, rfl⟩
 have HXA := hI (show Ext w wa by rw [hwa]; exact ((Ext.refl _).alloc _).alloc _)
 have HA := hI (show wa.heap[w.heap.size + 1]? = some (DecO ⟨0, 0, 0, 0, 0, false⟩) by rw [hwa]; exact alloc_atR (by simp))
 have HS := hI (show wa.heap[w.heap.size]? = some (.cells #[.slice sa sn sc] 24 (0, 0)) by rw [hwa]; exact blk_alloc (alloc_new w _))
 obtain ⟨s0, sf⟩ := blk1 HS.out
 go_enter Tryz.func14, Tryz.ntmps14
 go_upto_region 1 with fail
 rw [<- hwa]
 clear hwa
 obtain ⟨bs, hbs⟩ : ∃ bs, bs = w.heap.size := ⟨_, rfl⟩
 rw [<- hbs] at HS HA s0 sf ⊢
 have hlo : w.heap.size <= bs := by omega
 clear hbs
 go_wp2_with fail
 refine (HER.out wa HXA.out).mono ?_
 rintro r w1 ⟨rfl, hx1⟩
 have HX1 := hI (HXA.out.trans hx1)
 have HB := hI (hx1.blk HA.out)
 have HS1 := hI (hx1.blk HS.out)
 clear hx1 HA HXA HER s0 sf HS
 by_cases h1 : E = 0
 case neg =>
  have t1 : (E != 0) = true := by simp [h1]
  have HQ := hI (HRZ.out h1)
  clear h1
  have hz := HB.out
  unfold DecO Dec.cells at hz
  obtain ⟨z0, z1, z2, z3, z4, z5, zf⟩ := blk6d hz
  dsimp only at z0 z1 z2 z3 z4 z5
  go_wp2_with fail
  obtain ⟨w8, hw8⟩ : ∃ w8, w8 = put6d w1 (bs + 1) (.int .i64 0) (.int .i64 0) (.int .i64 0) (.int .i64 0) (.int .i64 0) (.bool false) := ⟨_, rfl⟩
  have HX8 := hI (show Ext w w8 by rw [hw8]; exact (put6d_chg _ _).ext HX1.out (by simp; omega))
  have h8 : w8.heap[bs + 1]? = some (.cells #[.int .i64 0, .int .i64 0, .int .i64 0, .int .i64 0, .int .i64 0, .bool false] 29 (0, 0)) := by rw [hw8]; exact put6d_blk hz
  unfold put6d at hw8
  rw [<- hw8]
  clear hw8 z0 z1 z2 z3 z4 z5 zf hz
  obtain ⟨z0, z1, z2, z3, z4, z5, zf⟩ := blk6d h8
  refine bodyPost_ret (v := .tuple #[.agg R.cells, .int .i64 E]) (by rw [HQ.out]; simp [results, Tryz.results14, go_sem, Dec.cells, z0, z1, z2, z3, z4, z5]) rfl ?_
  exact ⟨rfl, HX8.out⟩
 have HV := hI (HRV.out h1)
 subst h1
 clear HRV HRZ
 obtain ⟨s0, sf⟩ := blk1 HS1.out
 obtain ⟨r1, r2, r3, r4, r5, r6⟩ := R
 unfold Dec.cells at HV
 go_wp2_with fail
 refine (HV.out w1 HX1.out).mono ?_
 rintro e w7 ⟨rfl, hx7⟩
 have HX7 := hI (HX1.out.trans hx7)
 have HB7 := hI (hx7.blk HB.out)
 clear hx7 s0 sf
 have hz := HB7.out
 unfold DecO Dec.cells at hz
 obtain ⟨z0, z1, z2, z3, z4, z5, zf⟩ := blk6d hz
 dsimp only at z0 z1 z2 z3 z4 z5
 go_wp2_with fail
 obtain ⟨w8, hw8⟩ : ∃ w8, w8 = put6d w7 (bs + 1) (.int .i64 r1) (.int .i64 r2) (.int .i64 r3) (.int .i64 r4) (.int .i64 r5) (.bool r6) := ⟨_, rfl⟩
 have HX8 := hI (show Ext w w8 by rw [hw8]; exact (put6d_chg _ _).ext HX7.out (by simp; omega))
 have h8 : w8.heap[bs + 1]? = some (.cells #[.int .i64 r1, .int .i64 r2, .int .i64 r3, .int .i64 r4, .int .i64 r5, .bool r6] 29 (0, 0)) := by rw [hw8]; exact put6d_blk hz
 unfold put6d at hw8
 rw [<- hw8]
 clear hw8 z0 z1 z2 z3 z4 z5 zf hz
 obtain ⟨z0, z1, z2, z3, z4, z5, zf⟩ := blk6d h8
 refine bodyPost_ret (v := .tuple #[.agg #[.int .i64 r1, .int .i64 r2, .int .i64 r3, .int .i64 r4, .int .i64 r5, .bool r6], .int .i64 0]) (by simp [results, Tryz.results14, go_sem, z0, z1, z2, z3, z4, z5]) rfl ?_
 exact ⟨rfl, HX8.out⟩
def sch0 : List Attr := [aPeril, ⟨⟨#[115, 116, 111, 114, 101, 121, 115]⟩, 2, [], 1, 9⟩, ⟨⟨#[97, 108, 97, 114, 109]⟩, 3, [], 0, 0⟩]
def exF : Ex := .mk 4 ⟨#[112, 101, 114, 105, 108]⟩ [⟨#[102, 105, 114, 101]⟩] 0 0 []
def clF : Cla := ⟨2, ⟨#[102, 105, 114, 101]⟩, exF, [], 0⟩
def Sch0Q (w : World) (e : Ending) (w' : World) : Prop := ∃ v, e = .returned v /\ IsSchema w' sch0 v /\ Ext w w'
theorem within0_at (x n r : Int) (w : World) (hn : 0 < n) (hn2 : n <= 1000000000000000000) (hr : (x.tmod n + n).tmod n = r) : Calls Tryz.prog 16 #[.int .i64 x, .int .i64 n] w (fun e w' => e = .returned (.int .i64 r) /\ w' = w) := by
 go_enter Tryz.func16, Tryz.ntmps16
 go_wp2_with fail
 go_ret
 have a1 := Int.tmod_lt_of_pos x hn
 have a5 := Int.lt_tmod_of_pos x hn
 rw [IntWalk.wrap64_in (x.tmod n + n) (by omega), hr]
 exact ⟨rfl, rfl⟩
theorem schema0_calls (w : World) : Calls Tryz.prog 26 #[.int .i64 0] w (Sch0Q w) := by
 go_enter Tryz.func26, Tryz.ntmps26
 go_wp2_with fail
 refine (within0_at 0 6 0 _ (by omega) (by omega) (by decide)).mono ?_
 rintro e w' ⟨rfl, rfl⟩
 go_wp2_with fail
 refine (peril_calls _).mono ?_
 rintro e w' ⟨g, rfl, hp, hx, hgn⟩
 simp at hgn
 have hwz := hx.size
 simp at hwz
 have hb := hx.blk (alloc_new w _)
 have hlt := blk_lt hb
 have c0 := blk_cell hb 0
 have cf := blk_free hb
 simp at c0
 have HX := hI (((Ext.refl w).alloc _).trans hx)
 have HP := hI hp
 clear hx hb hp
 go_wp2_with fail
 refine bodyPost_ret (v := .agg #[.slice (some ⟨w'.heap.size, 0, none⟩) 3 3]) (by simp [results, Tryz.results26, go_sem, c0, hlt]) rfl ?_
 refine ⟨_, rfl, ?_, (HX.out.setAbove (by simp) _).alloc _⟩
 refine isSchema_block (avs := [⟨aPeril, some ⟨g, 0, none⟩, 4, 4⟩, ⟨⟨⟨#[115, 116, 111, 114, 101, 121, 115]⟩, 2, [], 1, 9⟩, none, 0, 0⟩, ⟨⟨⟨#[97, 108, 97, 114, 109]⟩, 3, [], 0, 0⟩, none, 0, 0⟩]) (t := 101) ?_ rfl ?_
 ·simpa [AttrV.cells, aPeril] using alloc_new (w'.setCell ⟨w.heap.size, 0, none⟩ (.slice (some ⟨w'.heap.size, 0, none⟩) 3 3)) (.cells #[.string aPeril.name, .int .i64 1, .slice (some ⟨g, 0, none⟩) 4 4, .int .i64 0, .int .i64 0, .string ⟨#[115, 116, 111, 114, 101, 121, 115]⟩, .int .i64 2, .slice none 0 0, .int .i64 1, .int .i64 9, .string ⟨#[97, 108, 97, 114, 109]⟩, .int .i64 3, .slice none 0 0, .int .i64 0, .int .i64 0] 101)
 intro v hv
 simp only [List.mem_cons, List.not_mem_nil, or_false] at hv
 rcases hv with rfl | rfl | rfl
 ·exact isStrs_set HP.out (by omega) _ _
 ·exact isStrs_nil _
 exact isStrs_nil _
theorem awk12_cla : claErr sch0 [clF] 0 = 0 := by
 unfold claErr
 rw [if_neg (by decide +kernel), if_neg (by decide +kernel), if_neg (by decide +kernel), if_neg (by decide +kernel)]
 show backsErr sch0 [clF] [] = 0
 rw [backsErr]
theorem awk12_lg : claLarge [clF] 0 = 0 := by
 unfold claLarge
 rw [if_neg]
 rintro (h | h)
 ·exact absurd h (by decide +kernel)
 have h2 : backsLarge [clF] [] = true := h
 rw [backsLarge] at h2
 cases h2
theorem awk12_cls : (clausesErr sch0 [clF]).2 = 0 := by
 have h1 : firstI (claErr sch0 [clF]) [clF].length = (0, 0) := firstI_zero _ fun j hj => by
  obtain rfl : j = 0 := by simp at hj; omega
  exact awk12_cla
 have h2 : firstI (claLarge [clF]) [clF].length = (0, 0) := firstI_zero _ fun j hj => by
  obtain rfl : j = 0 := by simp at hj; omega
  exact awk12_lg
 unfold clausesErr
 rw [if_neg (by decide +kernel), if_neg (by decide), h1, if_neg (by simp), if_neg (by
  rw [Classical.not_not]
  refine ⟨[], List.nodup_nil, fun i => ⟨fun h => by simp at h, fun h => ?_⟩, fun k i h => by simp at h⟩
  have h1 := isDef_lt h
  obtain rfl : i = 0 := by simp at h1; omega
  exact absurd h (by decide)), h2]
theorem awk12_vd (V : Ex -> Bool) : vdB V [clF] = if V exF = true then ⟨4, -1, 0, 0, 0, false⟩ else ⟨1, 0, 0, 0, 0, false⟩ := by
 have hw : wbsV V [] = false := by rw [wbsV]
 cases h : V exF <;> simp [vdB, someB, claV, clF, hw, h, limK, limS, greatK, greatS]
theorem awk12_err (f : ZI) (h : factsB sch0 f = true) : decErr sch0 [clF] f = 0 := by
 unfold decErr
 rw [if_neg (by rw [awk12_cls]; decide), if_neg (by simp [h])]
theorem awk12_in : decD sch0 [clF] [0, 1, 0] = ⟨4, -1, 0, 0, 0, false⟩ := by
 unfold decD
 rw [if_pos (awk12_err _ (by decide +kernel)), awk12_vd, if_pos (by decide +kernel)]
theorem awk12_out : decD sch0 [clF] [1, 1, 0] = ⟨1, 0, 0, 0, 0, false⟩ := by
 unfold decD
 rw [if_pos (awk12_err _ (by decide +kernel)), awk12_vd, if_neg (by decide +kernel)]
theorem sch0_fits : ∀ x ∈ sch0, x.fits := by
 intro x hx
 simp only [sch0, List.mem_cons, List.not_mem_nil, or_false] at hx
 rcases hx with rfl | rfl | rfl <;> refine ⟨by decide, by simp [aPeril], fun x hx => ?_⟩ <;> simp [aPeril] at hx
 rcases hx with rfl | rfl | rfl | rfl <;> decide
theorem clF_fit : ∀ x ∈ [clF], x.fit := by
 intro x hx
 obtain rfl := List.mem_singleton.1 hx
 refine ⟨by decide, ?_, ?_, ?_, by simp [clF], by unfold clF wbFits; trivial⟩
 ·simp [clF, exF, Ex.fits, fitsAll]; decide
 ·simp [clF, exF, Ex.few, fewAll]
 simp [clF, exF, Ex.slim, slimAll]
theorem awake12_calls (w : World) (ho : HasOps w) : Calls Tryz.prog 12 #[] w (GivesE (.bool true) w) := by
 have HO := hI ho
 clear ho
 go_enter Tryz.func12, Tryz.ntmps12
 go_wp2_with fail
 refine (schema0_calls w).mono ?_
 rintro r w1 ⟨sv, rfl, hs, hx1⟩
 obtain ⟨sa, sn, sc, rfl, -⟩ := hs.slice
 have HS := hI hs
 have HX1 := hI hx1
 clear hs hx1
 go_upto_region 2 with fail
 obtain ⟨w2, hw2⟩ : ∃ w2, w2 = w1.alloc (.cells #[.slice sa sn sc] 24) := ⟨_, rfl⟩
 obtain ⟨b1, hb1⟩ : ∃ b1 : Nat, b1 = w1.heap.size := ⟨_, rfl⟩
 have HX2 := hI (show Ext w1 w2 by rw [hw2]; exact (Ext.refl _).alloc _)
 have HB1 := hI (show w2.heap[b1]? = some (.cells #[.slice sa sn sc] 24 (0, 0)) by rw [hw2, hb1]; exact alloc_new w1 _)
 rw [<- hw2, <- hb1]
 clear hw2 hb1
 go_upto_region 3 with fail
 obtain ⟨w3, hw3⟩ : ∃ w3, w3 = (w2.alloc (.cells #[.string ⟨#[102, 105, 114, 101]⟩] 9)).alloc (.cells #[.int .i64 2, .string ⟨#[102, 105, 114, 101]⟩, .int .i64 4, .string ⟨#[112, 101, 114, 105, 108]⟩, .slice (some ⟨w2.heap.size, 0, none⟩) 1 1, .int .i64 0, .int .i64 0, .slice none 0 0, .slice none 0 0, .int .i64 0] 48) := ⟨_, rfl⟩
 obtain ⟨y, hy⟩ : ∃ y : Nat, y = w2.heap.size := ⟨_, rfl⟩
 have hx3 : Ext w2 w3 := by rw [hw3]; exact ((Ext.refl _).alloc _).alloc _
 have HCL := hI (show IsClas w3 [clF] (some ⟨y + 1, 0, none⟩) 1 1 from isCla_one (v := ⟨2, ⟨#[102, 105, 114, 101]⟩, ⟨4, ⟨#[112, 101, 114, 105, 108]⟩, some ⟨y, 0, none⟩, 1, 1, 0, 0, none, 0, 0⟩, none, 0, 0, 0⟩) (t := 48) (by rw [hw3, hy]; exact alloc_atR (by simp)) ⟨rfl, rfl, isEx_words (isStrs_block (l := [⟨#[102, 105, 114, 101]⟩]) (t := 9) (by rw [hw3, hy]; exact blk_alloc (alloc_new w2 _)) rfl) 4 0 0 _, rfl, Nat.le_refl _, Or.inl ⟨rfl, rfl⟩, by unfold clF WbsD; trivial, rfl⟩)
 rw [<- hw3, <- hy]
 have HX3 := hI (HX2.out.trans hx3)
 have HB13 := hI (hx3.blk HB1.out)
 clear hw3 hy hx3
 obtain ⟨e0, ef⟩ := blk1 HB13.out
 obtain ⟨w4, hw4⟩ : ∃ w4, w4 = w3.alloc (.cells #[.int .i64 0, .int .i64 1, .int .i64 0] 3) := ⟨_, rfl⟩
 have hx4 : Ext w3 w4 := by rw [hw4]; exact (Ext.refl _).alloc _
 have HPC := hI (decide_calls sch0 [clF] [0, 1, 0] (.agg #[.slice sa sn sc]) (some ⟨y + 1, 0, none⟩) 1 1 (some ⟨w3.heap.size, 0, none⟩) 3 3 w4 (HS.out.ext (HX3.out.trans hx4)) sch0_fits (by simp [sch0]) (HCL.out.ext hx4) (by omega) clF_fit (by rw [hw4]; exact isIntF_new rfl) (by omega) (HO.out.ext (HX1.out.trans (HX3.out.trans hx4))))
 unfold decV at HPC
 rw [awk12_in, awk12_err _ (by decide +kernel)] at HPC
 unfold Dec.cells at HPC
 have HX4 := hI (HX1.out.trans (HX3.out.trans hx4))
 have HB14 := hI (hx4.blk HB13.out)
 have HC4 := hI (HCL.out.ext hx4)
 have HS4 := hI (HS.out.ext (HX3.out.trans hx4))
 clear hx4
 go_wp2_with fail
 rw [<- hw4]
 clear hw4 e0 ef HB13 HCL HS HX3 HX1
 refine HPC.out.mono ?_
 rintro r w5 ⟨rfl, hx5⟩
 go_upto_region 4 with fail
 obtain ⟨w6, hw6⟩ : ∃ w6, w6 = w5.alloc (.cells #[.int .i64 4, .int .i64 (-1), .int .i64 0, .int .i64 0, .int .i64 0, .bool false] 29) := ⟨_, rfl⟩
 have hx6 : Ext w5 w6 := by rw [hw6]; exact (Ext.refl _).alloc _
 obtain ⟨b2, hb2⟩ : ∃ b2 : Nat, b2 = w5.heap.size := ⟨_, rfl⟩
 have HD6 := hI (show w6.heap[b2]? = some (.cells #[.int .i64 4, .int .i64 (-1), .int .i64 0, .int .i64 0, .int .i64 0, .bool false] 29 (0, 0)) by rw [hw6, hb2]; exact alloc_new w5 _)
 rw [<- hw6, <- hb2]
 have HX6 := hI (HX4.out.trans (hx5.trans hx6))
 have HB6 := hI ((hx5.trans hx6).blk HB14.out)
 have HC6 := hI (HC4.out.ext (hx5.trans hx6))
 have HS6 := hI (HS4.out.ext (hx5.trans hx6))
 clear hw6 hb2 hx6 hx5 HPC HX4 HB14 HC4 HS4
 obtain ⟨e0, ef⟩ := blk1 HB6.out
 obtain ⟨w7, hw7⟩ : ∃ w7, w7 = w6.alloc (.cells #[.int .i64 1, .int .i64 1, .int .i64 0] 3) := ⟨_, rfl⟩
 have hx7 : Ext w6 w7 := by rw [hw7]; exact (Ext.refl _).alloc _
 have HPD := hI (decide_calls sch0 [clF] [1, 1, 0] (.agg #[.slice sa sn sc]) (some ⟨y + 1, 0, none⟩) 1 1 (some ⟨w6.heap.size, 0, none⟩) 3 3 w7 (HS6.out.ext hx7) sch0_fits (by simp [sch0]) (HC6.out.ext hx7) (by omega) clF_fit (by rw [hw7]; exact isIntF_new rfl) (by omega) (HO.out.ext (HX6.out.trans hx7)))
 unfold decV at HPD
 rw [awk12_out, awk12_err _ (by decide +kernel)] at HPD
 unfold Dec.cells at HPD
 have HX7 := hI (HX6.out.trans hx7)
 have HD7 := hI (hx7.blk HD6.out)
 clear hx7
 go_wp2_with fail
 rw [<- hw7]
 clear hw7 e0 ef
 refine HPD.out.mono ?_
 rintro r w8 ⟨rfl, hx8⟩
 go_upto_region 5 with fail
 obtain ⟨w9, hw9⟩ : ∃ w9, w9 = w8.alloc (.cells #[.int .i64 1, .int .i64 0, .int .i64 0, .int .i64 0, .int .i64 0, .bool false] 29) := ⟨_, rfl⟩
 have hx9 : Ext w8 w9 := by rw [hw9]; exact (Ext.refl _).alloc _
 obtain ⟨b3, hb3⟩ : ∃ b3 : Nat, b3 = w8.heap.size := ⟨_, rfl⟩
 have HD9 := hI (show w9.heap[b3]? = some (.cells #[.int .i64 1, .int .i64 0, .int .i64 0, .int .i64 0, .int .i64 0, .bool false] 29 (0, 0)) by rw [hw9, hb3]; exact alloc_new w8 _)
 rw [<- hw9, <- hb3]
 have HX9 := hI (HX7.out.trans (hx8.trans hx9))
 have HE9 := hI ((hx8.trans hx9).blk HD7.out)
 clear hw9 hb3 hx9 hx8
 obtain ⟨d0, d1, d2, d3, d4, d5, df⟩ := blk6d HE9.out
 obtain ⟨g0, g1, g2, g3, g4, g5, gf⟩ := blk6d HD9.out
 go_wp2_with fail
 go_ret
 exact givesE_bool rfl HX9.out
theorem put_blk {w : World} {b i : Nat} {cs : Array Value} {t : TypeId} (h : w.heap[b]? = some (.cells cs t (0, 0))) (v : Value) : (w.setCell ⟨b, i, none⟩ v).heap[b]? = some (.cells (cs.setIfInBounds i v) t (0, 0)) := Go.heap_setCell_same w b i cs t v h
theorem intsF_of {w : World} {a : OA} {n : Nat} (h : IntsAt w a n) : ∃ f, IsIntF w f a n /\ f.length = n := by
 have key : ∀ k, k <= n -> ∃ f : ZI, f.length = k /\ ∀ i (hi : i < f.length), ∃ b off, a = some ⟨b, off, none⟩ /\ w.cell? ⟨b, off + i, none⟩ = some (.int .i64 f[i]) := by
  intro k
  induction k with
  | zero => intro _; exact ⟨[], rfl, fun i hi => by simp at hi⟩
  | succ k ih =>
   intro hk
   obtain ⟨f, hl, hf⟩ := ih (by omega)
   obtain ⟨b, off, z, e, hc⟩ := h k (by omega)
   refine ⟨f ++ [z], by simp [hl], fun i hi => ?_⟩
   by_cases h2 : i < f.length
   ·rw [List.getElem_append_left h2]; exact hf i h2
   have : i = k := by simp at hi; omega
   subst this
   rw [List.getElem_append_right (by omega)]
   simp only [List.getElem_singleton]
   exact ⟨b, off, e, hc⟩
 obtain ⟨f, hl, hf⟩ := key n (Nat.le_refl _)
 exact ⟨f, ⟨hl.symm, hf⟩, hl⟩
theorem intCells_len : (f : ZI) -> (f.flatMap intCells).length = f.length
 | [] => rfl
 | z :: r => by rw [List.flatMap_cons, List.length_append, intCells_len r]; simp [intCells]; omega
theorem set_ints {W : World} {base : Nat} {v : Value} {f : ZI} (h : W.ownsRow base 3 1 v f.length (f.flatMap intCells)) (h0 : 0 < f.length) : ∃ g cap, v = .slice (some ⟨g, 0, none⟩) f.length cap /\ base <= g /\ g < W.heap.size /\ (∀ j, W.frozen? ⟨g, j, none⟩ = false) /\ ∀ i (hi : i < f.length), W.cell? ⟨g, i, none⟩ = some (.int .i64 f[i]) /\ ∀ z, IsIntF (W.setCell ⟨g, i, none⟩ (.int .i64 z)) (f.set i z) (some ⟨g, 0, none⟩) f.length := by
 rcases h.2 with ⟨-, h0'⟩ | ⟨g, cap, cur, rfl, hg, hb, hle, hmx, hsz, htk⟩
 ·omega
 have hcell : ∀ j (hj : j < f.length), cur[j]? = some (.int .i64 f[j]) := by
  intro j hj
  have h1 : (cur.toList.take (f.length * 1))[j]? = (f.flatMap intCells)[j]? := by rw [htk]
  rw [List.getElem?_take, if_pos (by omega)] at h1
  have h2 := flatMap_at intCells 1 (fun _ => rfl) f j hj 0 (by simp [intCells])
  simp only [Nat.mul_one, Nat.add_zero] at h2
  rw [h2] at h1
  simpa [intCells] using h1
 refine ⟨g, cap, rfl, hg, blk_lt hb, fun j => blk_free hb j, fun i hi => ⟨by rw [blk_cell hb]; exact hcell i hi, fun z => ⟨by simp, fun j hj => ⟨g, 0, rfl, ?_⟩⟩⟩⟩
 rw [blk_cell (put_blk (i := i) hb (.int .i64 z)), Nat.zero_add]
 have hj' : j < f.length := by simpa using hj
 by_cases hij : i = j
 ·subst hij
  have : i < cur.size := by have := hcell i hi; exact (Array.getElem?_eq_some_iff.1 this).1
  simp [this]
 simp [hij, hcell j hj']
end Go.Proofs.YtefjomofjejklaaGreatDoor
