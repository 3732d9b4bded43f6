/-
  Texts of the claim, joined: DDec, More, Made10, DFacts, Made12, Wrt0, Trm0.
-/
import Derived.Test.YtefjomofjejklaaGreatDoorDt23
namespace Go.Proofs.YtefjomofjejklaaGreatDoor
set_option maxRecDepth 100000
set_option maxHeartbeats 32000000
open Go.RowKit Go.Maps
theorem wbs_chkD {s : List Attr} {l : List Cla} : (u : List Wb) -> (d : Nat) -> backsB d u = true -> backsErr s l u = 0 -> backsLarge l u = false -> wbFits u -> wbsOkT (Pd s l) u
 | [], _, _, _, _, _ => by unfold wbsOkT; trivial
 | .mk n c u :: r, d, h1, h2, h3, h4 => by
  rw [backsB] at h1
  simp only [Bool.and_eq_true] at h1
  obtain ⟨⟨⟨⟨_, _⟩, g1⟩, g2⟩, g3⟩ := h1
  rw [backsErr] at h2
  by_cases k1 : nodesErr s l c ≠ 0
  ·rw [if_pos k1] at h2; exact absurd h2 k1
  rw [if_neg k1] at h2
  by_cases k2 : backsErr s l u ≠ 0
  ·rw [if_pos k2] at h2; exact absurd h2 k2
  rw [if_neg k2] at h2
  rw [backsLarge] at h3
  simp only [Bool.or_eq_false_iff, decide_eq_false_iff_not] at h3
  obtain ⟨⟨q1, q2⟩, q3⟩ := h3
  rw [wbFits] at h4
  obtain ⟨_, f1, f2, f3, f4, f5, f6⟩ := h4
  unfold wbsOkT
  exact ⟨⟨g1, by simpa using k1, by omega, f2, f1, f3⟩, wbs_chkD u (d - 1) g2 (by simpa using k2) q2 f5, f4, wbs_chkD r d g3 h2 q3 f6⟩
theorem pdC_of {s : List Attr} {l : List Cla} (h : (clausesErr s l).2 = 0) (hok : ∀ x ∈ l, x.fit) : ∀ x ∈ l, PdC s l x := by
 have hc := chk_of h
 have hcb := clsB_of h
 unfold clausesErr at h
 rw [if_neg (by simp [hc.sch]), if_neg (by have := hc.len; omega)] at h
 by_cases h3 : (firstI (claErr s l) l.length).2 ≠ 0
 ·rw [if_pos h3] at h; exact absurd h h3
 rw [if_neg h3] at h
 by_cases h4 : ¬ Sorts (l.map Cla.dfn)
 ·rw [if_pos h4] at h; simp at h
 rw [if_neg h4] at h
 have h1 := firstI_none l.length (by simpa using h3)
 have h2 := firstI_none l.length h
 intro x hx
 obtain ⟨f1, f2, f3, f4, f5, f6⟩ := hok x hx
 obtain ⟨_, g2, g3, _, _⟩ := hc.good x hx
 have hb := hcb x hx
 have hxp := hc.exp x hx
 obtain ⟨i, hi, rfl⟩ := List.getElem_of_mem hx
 have k1 := h1 i hi
 have k2 := h2 i hi
 unfold claErr at k1
 unfold claLarge at k2
 rw [getD_clK hi] at k1 k2
 rw [if_neg (by simp [hb])] at k1
 by_cases q2 : (findAt l l[i].name).getD 0 < i
 ·rw [if_pos q2] at k1; cases k1
 rw [if_neg q2] at k1
 by_cases q3 : (attrAt s l[i].name).isSome
 ·rw [if_pos q3] at k1; cases k1
 rw [if_neg q3, if_neg (by simp [g2])] at k1
 by_cases q5 : 2000 < expanded l l[i].cond \/ backsLarge l l[i].unl = true
 ·rw [if_pos q5] at k2; cases k2
 simp only [not_or] at q5
 refine ⟨⟨g3, g2, hxp, f3, f2, f4⟩, ?_, f5⟩
 simp only [clauseB, Bool.and_eq_true, Bool.or_eq_true, decide_eq_true_eq, beq_iff_eq] at hb
 obtain ⟨⟨_, a5⟩, _⟩ := hb
 rcases a5 with a5 | ⟨⟨_, _⟩, b3⟩
 ·rw [List.eq_nil_of_length_eq_zero a5]
  unfold wbsOkT; trivial
 exact wbs_chkD _ _ b3 k1 (by simpa using q5.2) f6
theorem decErr_ok {s : List Attr} {l : List Cla} {f : ZI} (h : decErr s l f = 0) : (clausesErr s l).2 = 0 /\ factsB s f = true := by
 unfold decErr at h
 by_cases h1 : (clausesErr s l).2 ≠ 0
 ·rw [if_pos h1] at h; exact absurd h h1
 rw [if_neg h1] at h
 cases hf : factsB s f
 ·rw [hf] at h; simp at h
 exact ⟨by simpa using h1, rfl⟩
theorem ofB_mem {ks : ZI} {l : List Cla} {x : Cla} (h : x ∈ ofB ks l) : x ∈ l := (List.mem_filter.1 h).1
noncomputable def decD (s : List Attr) (l : List Cla) (f : ZI) : Dec := open Classical in if decErr s l f = 0 then vdB (val s l f) l else ⟨0, 0, 0, 0, 0, false⟩
noncomputable def decV (s : List Attr) (l : List Cla) (f : ZI) : Value := .tuple #[.agg (decD s l f).cells, .int .i64 (decErr s l f)]
theorem filter_take {L : List Cla} (p : Cla -> Bool) {k : Nat} (hk : k < L.length) : (L.take (k + 1)).filter p = if p L[k] = true then (L.take k).filter p ++ [L[k]] else (L.take k).filter p := by
 rw [List.take_succ_eq_append_getElem hk, List.filter_append, List.filter_cons]
 cases p L[k] <;> simp
theorem decide_calls (s : List Attr) (l : List Cla) (f : ZI) (sv : Value) (a : OA) (n c : Nat) (fa : OA) (fn fc : Nat) (w : World) (hs : IsSchema w s sv) (hf : ∀ x ∈ s, x.fits) (hsl : s.length <= 1000000000000000) (hl : IsClas w l a n c) (hn : n <= 1000000) (hok : ∀ x ∈ l, x.fit) (hi : IsIntF w f fa fn) (hfn : fn <= 1000000000000000) (ho : HasOps w) :
  Calls Tryz.prog 13 #[sv, .slice a n c, .slice fa fn fc] w (GivesE (decV s l f) w) := by
 obtain ⟨sa, sn, sc, rfl, hsn⟩ := hs.slice
 have HCK := hI (fun W (hW : Ext w W) => dchecked_calls s l f _ a n c fa fn fc W (hs.ext hW) hf hsl (hl.ext hW) hn hok (hi.ext hW) hfn (ho.ext hW))
 have HDI := hI (fun (h0 : decErr s l f = 0) (lv : LossV) W (hW : Ext w W) (h : IsDLoss W s l f lv n) => show DIn W s l f lv n from ⟨h, (decErr_ok h0).1, (decErr_ok h0).2, hf, hok, by have h1 := h.ints.1; have h2 := hi.1; omega, ho.ext hW⟩)
 have HPC := hI (fun (h0 : decErr s l f = 0) => pdC_of (decErr_ok h0).1 hok)
 have HC2 := hI (fun W (hW : Ext w W) => dCovers_calls l a n c W (hl.ext hW) hn)
 have HC4 := hI (fun W (hW : Ext w W) => dConditions_calls l a n c W (hl.ext hW) hn)
 have HC3 := hI (fun W (hW : Ext w W) => dExclusions_calls l a n c W (hl.ext hW) hn)
 have HC5 := hI (fun W (hW : Ext w W) => dTerms_calls l a n c W (hl.ext hW) hn)
 have HLN := hI (fun (ks : ZI) => show (ofB ks l).length <= 1000000 from Nat.le_trans (ofB_len ks l) (by rw [<- hl.len]; exact hn))
 obtain ⟨V, hV⟩ : ∃ V, V = val s l f := ⟨_, rfl⟩
 obtain ⟨E, hE⟩ : ∃ E, E = decErr s l f := ⟨_, rfl⟩
 obtain ⟨R, hR⟩ : ∃ R, R = decD s l f := ⟨_, rfl⟩
 unfold decV
 rw [<- hR, <- hE]
 unfold decD at hR
 rw [<- hE, <- hV] at hR
 unfold DChkQ at HCK
 rw [<- hE] at HCK HDI HPC
 have HAN := hI (fun (h0 : E = 0) (lv : LossV) (ks : ZI) (a' : OA) (c' : Nat) (B : Bool) W (hW : Ext w W) (h : IsDLoss W s l f lv n) (hc : IsClas W (ofB ks l) a' (ofB ks l).length c') => dany_calls (ofB ks l) a' _ c' B W (HDI.out h0 lv W hW h) hc (HLN.out ks) (fun x hx => HPC.out h0 x (ofB_mem hx)))
 have HAP := hI (fun (h0 : E = 0) (lv : LossV) (x : Cla) (hx : x ∈ l) (v : ClV) W (hW : Ext w W) (h : IsDLoss W s l f lv n) (hc : IsCla W x v) => dclause_calls x.cond x.unl v.kind v.name v.x v.au v.nu v.cu v.amount W (HDI.out h0 lv W hW h) (HPC.out h0 x hx).1 (HPC.out h0 x hx).2.1 (by rw [hc.2.2.2.1]; exact (HPC.out h0 x hx).2.2) hc.2.2.2.1 hc.2.2.1 hc.2.2.2.2.2.2.1)
 rw [<- hV] at HAN HAP
 have HRZ := hI (show E ≠ 0 -> R = ⟨0, 0, 0, 0, 0, false⟩ from fun h => by rw [hR, if_neg h])
 have HRV := hI (show E = 0 -> R = vdB V l from fun h => by rw [hR, if_pos h])
 clear hs hf hsl hl hn hok hi hfn ho hsn hV hE hR HDI HPC
 obtain ⟨wa, hwa⟩ : ∃ wa, wa = (w.alloc (.cells #[.slice sa sn sc] 24)).alloc (.cells #[.int .i64 0, .int .i64 0, .int .i64 0, .int .i64 0, .int .i64 0, .bool false] 29) := ⟨_, rfl⟩
 have HXA := hI (show Ext w wa by rw [hwa]; exact ((Ext.refl _).alloc _).alloc _)
 have HA := hI (show wa.heap[w.heap.size + 1]? = some (DecO ⟨0, 0, 0, 0, 0, false⟩) by rw [hwa]; exact alloc_atR (by simp))
 obtain ⟨s0, sf⟩ := blk1 (show wa.heap[w.heap.size]? = some (.cells #[.slice sa sn sc] 24 (0, 0)) by rw [hwa]; exact blk_alloc (alloc_new w _))
 go_enter Tryz.func13, Tryz.ntmps13
 go_upto_region 1 with fail
 rw [<- hwa]
 clear hwa
 obtain ⟨bd, hbd⟩ : ∃ bd, bd = w.heap.size + 1 := ⟨_, rfl⟩
 rw [<- hbd] at HA ⊢
 have hlo : w.heap.size <= bd := by omega
 clear hbd
 go_wp2_with fail
 refine (HCK.out wa HXA.out).mono ?_
 rintro r w1 ⟨hx1, hr⟩
 have HX1 := hI (HXA.out.trans hx1)
 have HB := hI (hx1.blk HA.out)
 clear hx1 HA HXA HCK s0 sf
 rcases hr with ⟨h1, rfl⟩ | ⟨h1, lo, rfl, hlo1⟩
 ·have t1 : (E != 0) = true := by simp [h1]
  have HQ := hI (HRZ.out h1)
  obtain ⟨w2, hw2⟩ : ∃ w2, w2 = w1.alloc (.cells #[.slice none 0 0, .map none, .slice none 0 0] 74) := ⟨_, rfl⟩
  have HX2 := hI (show Ext w w2 by rw [hw2]; exact HX1.out.alloc _)
  have HB2 := hI (show w2.heap[bd]? = some (DecO ⟨0, 0, 0, 0, 0, false⟩) by rw [hw2]; exact blk_alloc HB.out)
  unfold lossZero
  clear h1
  go_upto_region 2 with fail
  rw [<- hw2]
  clear hw2 HX1 HB
  have hz := HB2.out
  unfold DecO Dec.cells at hz
  obtain ⟨z0, z1, z2, z3, z4, z5, zf⟩ := blk6d hz
  dsimp only at z0 z1 z2 z3 z4 z5
  go_wp2_with fail
  obtain ⟨w8, hw8⟩ : ∃ w8, w8 = put6d w2 bd (.int .i64 0) (.int .i64 0) (.int .i64 0) (.int .i64 0) (.int .i64 0) (.bool false) := ⟨_, rfl⟩
  have HX8 := hI (show Ext w w8 by rw [hw8]; exact (put6d_chg _ _).ext HX2.out (by simp; omega))
  have h8 : w8.heap[bd]? = some (.cells #[.int .i64 0, .int .i64 0, .int .i64 0, .int .i64 0, .int .i64 0, .bool false] 29 (0, 0)) := by rw [hw8]; exact put6d_blk hz
  unfold put6d at hw8
  rw [<- hw8]
  clear hw8 z0 z1 z2 z3 z4 z5 zf hz
  obtain ⟨z0, z1, z2, z3, z4, z5, zf⟩ := blk6d h8
  refine bodyPost_ret (v := .tuple #[.agg R.cells, .int .i64 E]) (by rw [HQ.out]; simp [results, Tryz.results13, go_sem, Dec.cells, z0, z1, z2, z3, z4, z5]) rfl ?_
  exact ⟨rfl, HX8.out⟩
 have HE0 := hI h1
 have HLO := hI hlo1
 have HRV2 := hI (HRV.out h1)
 subst h1
 clear hlo1 HRZ HRV
 have HA2 := hI (fun (ks : ZI) (B : Bool) (a' : OA) (c' : Nat) W (hW : Ext w1 W) hc => HAN.out rfl lo ks a' c' B W (HX1.out.trans hW) (HLO.out.ext hW) hc)
 have HP2 := hI (fun (x : Cla) (hx : x ∈ l) (v : ClV) W (hW : Ext w1 W) hc => HAP.out rfl lo x hx v W (HX1.out.trans hW) (HLO.out.ext hW) hc)
 have S2 := hI (someB_of V 2 false true rfl l)
 have S4 := hI (someB_of V 4 true false rfl l)
 have S3 := hI (someB_of V 3 false true rfl l)
 obtain ⟨L2, hL2⟩ : ∃ L2, L2 = ofB [2] l := ⟨_, rfl⟩
 obtain ⟨L3, hL3⟩ : ∃ L3, L3 = ofB [3] l := ⟨_, rfl⟩
 obtain ⟨L4, hL4⟩ : ∃ L4, L4 = ofB [4] l := ⟨_, rfl⟩
 have HN2 := hI (HA2.out [2] true)
 have HN3 := hI (HA2.out [3] true)
 have HN4 := hI (HA2.out [4] false)
 rw [<- hL2] at S2 HN2
 rw [<- hL3] at S3 HN3
 rw [<- hL4] at S4 HN4
 obtain ⟨Q2, hQ2⟩ : ∃ Q2, Q2 = someB V 2 false l := ⟨_, rfl⟩
 obtain ⟨Q3, hQ3⟩ : ∃ Q3, Q3 = someB V 3 false l := ⟨_, rfl⟩
 obtain ⟨Q4, hQ4⟩ : ∃ Q4, Q4 = someB V 4 true l := ⟨_, rfl⟩
 rw [S2.out, <- hQ2] at HN2
 rw [S3.out, <- hQ3] at HN3
 rw [S4.out, <- hQ4] at HN4
 have HT := hI (insB_terms V l ⟨4, -1, 0, 0, 0, false⟩)
 have HVD := hI (show R = if Q2 = false then ⟨1, 0, 0, 0, 0, false⟩ else if Q4 = true then ⟨2, 0, 0, 0, 0, false⟩ else if Q3 = true then ⟨3, 0, 0, 0, 0, false⟩ else insB ⟨4, -1, 0, 0, 0, false⟩ ((ofB kindsT l).filter (claV V)) by
  rw [HRV2.out, HT.out, hQ2, hQ3, hQ4, Bool.false_or]; rfl)
 unfold OfQ at HC2 HC3 HC4
 have HM2 := hI (fun W (hW : Ext w W) => (HC2.out W hW).mono (fun r w' (hq : ∃ u a c, u = ofB [2] l /\ r = .returned (.slice a u.length c) /\ IsClas w' u a u.length c /\ Ext W w') => show ∃ x : OA × Nat, r = .returned (.slice x.1 L2.length x.2) /\ IsClas w' L2 x.1 L2.length x.2 /\ Ext W w' by obtain ⟨u, a, c, rfl, q2, q3, q4⟩ := hq; rw [<- hL2] at q2 q3; exact ⟨(a, c), q2, q3, q4⟩))
 have HM3 := hI (fun W (hW : Ext w W) => (HC3.out W hW).mono (fun r w' (hq : ∃ u a c, u = ofB [3] l /\ r = .returned (.slice a u.length c) /\ IsClas w' u a u.length c /\ Ext W w') => show ∃ x : OA × Nat, r = .returned (.slice x.1 L3.length x.2) /\ IsClas w' L3 x.1 L3.length x.2 /\ Ext W w' by obtain ⟨u, a, c, rfl, q2, q3, q4⟩ := hq; rw [<- hL3] at q2 q3; exact ⟨(a, c), q2, q3, q4⟩))
 have HM4 := hI (fun W (hW : Ext w W) => (HC4.out W hW).mono (fun r w' (hq : ∃ u a c, u = ofB [4] l /\ r = .returned (.slice a u.length c) /\ IsClas w' u a u.length c /\ Ext W w') => show ∃ x : OA × Nat, r = .returned (.slice x.1 L4.length x.2) /\ IsClas w' L4 x.1 L4.length x.2 /\ Ext W w' by obtain ⟨u, a, c, rfl, q2, q3, q4⟩ := hq; rw [<- hL4] at q2 q3; exact ⟨(a, c), q2, q3, q4⟩))
 clear hL2 hL3 hL4 hQ2 hQ3 hQ4 S2 S3 S4 HT HRV2 HC2 HC3 HC4 HAN HAP HA2 HE0
 unfold LossV.val at *
 obtain ⟨w2, hw2⟩ : ∃ w2, w2 = w1.alloc (.cells #[.slice lo.sa lo.sn lo.sc, .map (some lo.bm), .slice lo.fa lo.fn lo.fc] 74) := ⟨_, rfl⟩
 have HX12 := hI (show Ext w1 w2 by rw [hw2]; exact (Ext.refl _).alloc _)
 have HB2 := hI (HX12.out.blk HB.out)
 have HL2 := hI (show w2.heap[w1.heap.size]? = some (.cells #[.slice lo.sa lo.sn lo.sc, .map (some lo.bm), .slice lo.fa lo.fn lo.fc] 74 (0, 0)) by rw [hw2]; exact alloc_new w1 _)
 go_upto_region 4 with fail
 rw [<- hw2]
 clear hw2 HB
 obtain ⟨bl, hbl⟩ : ∃ bl, bl = w1.heap.size := ⟨_, rfl⟩
 rw [<- hbl] at HL2 ⊢
 clear hbl
 obtain ⟨x0, x1, x2, xf⟩ := blk3 HL2.out
 have C0 := win_cell x0
 have C1 := win_cell x1
 have C2 := win_cell x2
 refine chn_ext 5 ?_
 repeat (refine chn_plain ?_; intro K hK; go_big_quiet_op; go_big_quiet_on)
 refine chn_call (γ := OA × Nat) (fun x => .slice x.1 L2.length x.2) (fun x W => IsClas W L2 x.1 L2.length x.2) (fun W hW _ _ => ?_) (fun x W W' hx h => h.ext hx) ?_ ⟨(none, 0)⟩
 ·unfold GivesOp
  go_simp
  refine (HM2.out W ((HX1.out.trans HX12.out).trans hW)).mono ?_
  rintro r w9 ⟨x, rfl, h1, h2⟩
  exact ⟨_, rfl, h2, x, rfl, h1⟩
 rintro ⟨xa, xc⟩ K hK
 go_simp; go_big_quiet_on
 repeat (refine chn_plain ?_; intro K hK; go_big_quiet_op; go_big_quiet_on)
 refine chn_known (.bool Q2) (fun _ => True) (fun W hW hu _ => ?_) (fun _ _ _ h => h) ?_
 ·unfold GivesOp
  go_simp
  refine (HN2.out xa xc W (HX12.out.trans hW) hu).mono ?_
  rintro r w9 ⟨rfl, hx9⟩
  exact ⟨_, rfl, hx9, rfl, trivial⟩
 intro K hK
 go_simp; go_big_quiet_on
 repeat (refine chn_plain ?_; intro K hK; go_big_quiet_op; go_big_quiet_on)
 refine chn_nil fun w3 hx _ _ => ?_
 have HX13 := hI (HX12.out.trans hx)
 have HB3 := hI (hx.blk HB2.out)
 have HL3 := hI (hx.blk HL2.out)
 have HXW3 := hI (HX1.out.trans HX13.out)
 clear hx x0 x1 x2 xf C0 C1 C2 HB2 HL2 HX12 HM2 HN2
 cases Q2
 case false =>
  have HQ := hI (show R = ⟨1, 0, 0, 0, 0, false⟩ by rw [HVD.out]; simp)
  have hz := HB3.out
  unfold DecO Dec.cells at hz
  obtain ⟨z0, z1, z2, z3, z4, z5, zf⟩ := blk6d hz
  dsimp only at z0 z1 z2 z3 z4 z5
  go_wp2_with fail
  obtain ⟨w8, hw8⟩ : ∃ w8, w8 = put6d w3 bd (.int .i64 1) (.int .i64 0) (.int .i64 0) (.int .i64 0) (.int .i64 0) (.bool false) := ⟨_, rfl⟩
  have HX8 := hI (show Ext w w8 by rw [hw8]; exact (put6d_chg _ _).ext HXW3.out (by simp; omega))
  have h8 : w8.heap[bd]? = some (.cells #[.int .i64 1, .int .i64 0, .int .i64 0, .int .i64 0, .int .i64 0, .bool false] 29 (0, 0)) := by rw [hw8]; exact put6d_blk hz
  unfold put6d at hw8
  rw [<- hw8]
  clear hw8 z0 z1 z2 z3 z4 z5 zf hz
  obtain ⟨z0, z1, z2, z3, z4, z5, zf⟩ := blk6d h8
  refine bodyPost_ret (v := .tuple #[.agg R.cells, .int .i64 0]) (by rw [HQ.out]; simp [results, Tryz.results13, go_sem, Dec.cells, z0, z1, z2, z3, z4, z5]) rfl ?_
  exact ⟨rfl, HX8.out⟩
 go_wp2_with fail
 obtain ⟨x0, x1, x2, xf⟩ := blk3 HL3.out
 have C0 := win_cell x0
 have C1 := win_cell x1
 have C2 := win_cell x2
 refine chn_ext 4 ?_
 repeat (refine chn_plain ?_; intro K hK; go_big_quiet_op; go_big_quiet_on)
 refine chn_call (γ := OA × Nat) (fun x => .slice x.1 L4.length x.2) (fun x W => IsClas W L4 x.1 L4.length x.2) (fun W hW _ _ => ?_) (fun x W W' hx h => h.ext hx) ?_ ⟨(none, 0)⟩
 ·unfold GivesOp
  go_simp
  refine (HM4.out W ((HX1.out.trans HX13.out).trans hW)).mono ?_
  rintro r w9 ⟨x, rfl, h1, h2⟩
  exact ⟨_, rfl, h2, x, rfl, h1⟩
 rintro ⟨xa, xc⟩ K hK
 go_simp; go_big_quiet_on
 repeat (refine chn_plain ?_; intro K hK; go_big_quiet_op; go_big_quiet_on)
 refine chn_known (.bool Q4) (fun _ => True) (fun W hW hu _ => ?_) (fun _ _ _ h => h) ?_
 ·unfold GivesOp
  go_simp
  refine (HN4.out xa xc W (HX13.out.trans hW) hu).mono ?_
  rintro r w9 ⟨rfl, hx9⟩
  exact ⟨_, rfl, hx9, rfl, trivial⟩
 intro K hK
 go_simp; go_big_quiet_on
 repeat (refine chn_plain ?_; intro K hK; go_big_quiet_op; go_big_quiet_on)
 refine chn_nil fun w4 hx _ _ => ?_
 have HX14 := hI (HX13.out.trans hx)
 have HB4 := hI (hx.blk HB3.out)
 have HL4 := hI (hx.blk HL3.out)
 have HXW4 := hI (HX1.out.trans HX14.out)
 clear hx x0 x1 x2 xf C0 C1 C2 HB3 HL3 HX13 HM4 HN4
 cases Q4
 case true =>
  have HQ := hI (show R = ⟨2, 0, 0, 0, 0, false⟩ by rw [HVD.out]; simp)
  have hz := HB4.out
  unfold DecO Dec.cells at hz
  obtain ⟨z0, z1, z2, z3, z4, z5, zf⟩ := blk6d hz
  dsimp only at z0 z1 z2 z3 z4 z5
  go_wp2_with fail
  obtain ⟨w8, hw8⟩ : ∃ w8, w8 = put6d w4 bd (.int .i64 2) (.int .i64 0) (.int .i64 0) (.int .i64 0) (.int .i64 0) (.bool false) := ⟨_, rfl⟩
  have HX8 := hI (show Ext w w8 by rw [hw8]; exact (put6d_chg _ _).ext HXW4.out (by simp; omega))
  have h8 : w8.heap[bd]? = some (.cells #[.int .i64 2, .int .i64 0, .int .i64 0, .int .i64 0, .int .i64 0, .bool false] 29 (0, 0)) := by rw [hw8]; exact put6d_blk hz
  unfold put6d at hw8
  rw [<- hw8]
  clear hw8 z0 z1 z2 z3 z4 z5 zf hz
  obtain ⟨z0, z1, z2, z3, z4, z5, zf⟩ := blk6d h8
  refine bodyPost_ret (v := .tuple #[.agg R.cells, .int .i64 0]) (by rw [HQ.out]; simp [results, Tryz.results13, go_sem, Dec.cells, z0, z1, z2, z3, z4, z5]) rfl ?_
  exact ⟨rfl, HX8.out⟩
 go_wp2_with fail
 obtain ⟨x0, x1, x2, xf⟩ := blk3 HL4.out
 have C0 := win_cell x0
 have C1 := win_cell x1
 have C2 := win_cell x2
 refine chn_ext 4 ?_
 repeat (refine chn_plain ?_; intro K hK; go_big_quiet_op; go_big_quiet_on)
 refine chn_call (γ := OA × Nat) (fun x => .slice x.1 L3.length x.2) (fun x W => IsClas W L3 x.1 L3.length x.2) (fun W hW _ _ => ?_) (fun x W W' hx h => h.ext hx) ?_ ⟨(none, 0)⟩
 ·unfold GivesOp
  go_simp
  refine (HM3.out W ((HX1.out.trans HX14.out).trans hW)).mono ?_
  rintro r w9 ⟨x, rfl, h1, h2⟩
  exact ⟨_, rfl, h2, x, rfl, h1⟩
 rintro ⟨xa, xc⟩ K hK
 go_simp; go_big_quiet_on
 repeat (refine chn_plain ?_; intro K hK; go_big_quiet_op; go_big_quiet_on)
 refine chn_known (.bool Q3) (fun _ => True) (fun W hW hu _ => ?_) (fun _ _ _ h => h) ?_
 ·unfold GivesOp
  go_simp
  refine (HN3.out xa xc W (HX14.out.trans hW) hu).mono ?_
  rintro r w9 ⟨rfl, hx9⟩
  exact ⟨_, rfl, hx9, rfl, trivial⟩
 intro K hK
 go_simp; go_big_quiet_on
 repeat (refine chn_plain ?_; intro K hK; go_big_quiet_op; go_big_quiet_on)
 refine chn_nil fun w5 hx _ _ => ?_
 have HX15 := hI (HX14.out.trans hx)
 have HB5 := hI (hx.blk HB4.out)
 have HL5 := hI (hx.blk HL4.out)
 have HXW5 := hI (HX1.out.trans HX15.out)
 clear hx x0 x1 x2 xf C0 C1 C2 HB4 HL4 HX14 HM3 HN3
 cases Q3
 case true =>
  have HQ := hI (show R = ⟨3, 0, 0, 0, 0, false⟩ by rw [HVD.out]; simp)
  have hz := HB5.out
  unfold DecO Dec.cells at hz
  obtain ⟨z0, z1, z2, z3, z4, z5, zf⟩ := blk6d hz
  dsimp only at z0 z1 z2 z3 z4 z5
  go_wp2_with fail
  obtain ⟨w8, hw8⟩ : ∃ w8, w8 = put6d w5 bd (.int .i64 3) (.int .i64 0) (.int .i64 0) (.int .i64 0) (.int .i64 0) (.bool false) := ⟨_, rfl⟩
  have HX8 := hI (show Ext w w8 by rw [hw8]; exact (put6d_chg _ _).ext HXW5.out (by simp; omega))
  have h8 : w8.heap[bd]? = some (.cells #[.int .i64 3, .int .i64 0, .int .i64 0, .int .i64 0, .int .i64 0, .bool false] 29 (0, 0)) := by rw [hw8]; exact put6d_blk hz
  unfold put6d at hw8
  rw [<- hw8]
  clear hw8 z0 z1 z2 z3 z4 z5 zf hz
  obtain ⟨z0, z1, z2, z3, z4, z5, zf⟩ := blk6d h8
  refine bodyPost_ret (v := .tuple #[.agg R.cells, .int .i64 0]) (by rw [HQ.out]; simp [results, Tryz.results13, go_sem, Dec.cells, z0, z1, z2, z3, z4, z5]) rfl ?_
  exact ⟨rfl, HX8.out⟩
 go_wp2_with fail
 have HQ := hI (show R = insB ⟨4, -1, 0, 0, 0, false⟩ ((ofB kindsT l).filter (claV V)) by rw [HVD.out]; simp)
 have HKT := hI (HLN.out kindsT)
 have HMT := hI (fun x (hx : x ∈ ofB kindsT l) => HP2.out x (ofB_mem hx))
 refine (HC5.out w5 HXW5.out).mono ?_
 rintro r w6 ⟨u, ta, tc, hu, rfl, hcl, hx6⟩
 have hu' : u = ofB kindsT l := hu
 rw [<- hu'] at HQ HKT HMT
 have HXW6 := hI (HXW5.out.trans hx6)
 have HX16 := hI (HX15.out.trans hx6)
 have HB6 := hI (hx6.blk HB5.out)
 have HL6 := hI (hx6.blk HL5.out)
 have HCL := hI hcl
 obtain ⟨m, hm⟩ : ∃ m, m = u.length := ⟨_, rfl⟩
 have HM := hI hm
 rw [<- hm] at HKT HCL ⊢
 have hm6 := HKT.out
 clear hu hu' hcl hx6 hm HC5 HP2 HVD HLN HB5 HL5 HXW5 HX15
 go_wp2_with fail
 go_loopw [10, 43] (fun lv i wr => ∃ (k : Nat) (vs : List ClV) (q : List Cla), i = .int .i64 k /\ k <= m /\ q = (u.take k).filter (claV V) /\ q.length <= k /\ ClasR w6 q vs /\ wr.ownsRow w6.heap.size 48 10 lv q.length (vs.flatMap ClV.cells) /\ Ext w6 wr) (fun _ i _ => m - (intOf i).toNat)
 case atStart => exact ⟨0, [], [], rfl, by omega, rfl, by simp, ⟨rfl, fun i h => by simp at h⟩, World.ownsRow_nil _ _ _ _, Ext.refl _⟩
 case round =>
  obtain ⟨k, vs, q, rfl, hkn2, hq, hql, hcr, hown, hx⟩ := hrel
  obtain ⟨la, lc, hlv⟩ := owns_form hown
  subst hlv
  have HU := hI hq
  have HCR := hI hcr
  have HOWN := hI hown
  have HX := hI hx
  clear hq hcr hown hx
  by_cases hlt : k < m
  ·have hkl : k < u.length := by have := HM.out; omega
   have t1 : decide ((k : Int) < (m : Int)) = true := decide_eq_true (by omega)
   obtain ⟨cb, coff, v, rfl, hcla, hrow⟩ := HCL.out.at hkl
   obtain ⟨c0, c1, c2, c3, c4, c5, c6, c7, c8, c9⟩ := (hrow.mono HX.out.sub).ten
   have HCLA := hI hcla
   have HREC := hI (fun W (hW : Ext w6 W) => HMT.out u[k] (List.getElem_mem hkl) v W (HX16.out.trans hW) (hcla.mono hW.sub))
   have HST := hI (filter_take (claV V) hkl)
   obtain ⟨T, hT⟩ : ∃ T, T = claV V u[k] := ⟨_, rfl⟩
   rw [show (V u[k].cond && !wbsV V u[k].unl) = T from hT.symm] at HREC
   rw [<- hT, <- HU.out] at HST
   clear hcla hrow hT
   obtain ⟨wb, hwb⟩ : ∃ wb, wb = wr.alloc (.cells #[.int .i64 v.kind, .string v.name, .int .i64 v.x.op, .string v.x.name, .slice v.x.aw v.x.nw v.x.cw, .int .i64 v.x.lo, .int .i64 v.x.hi, .slice v.x.aa v.x.na v.x.ca, .slice v.au v.nu v.cu, .int .i64 v.amount] 48) := ⟨_, rfl⟩
   have HXB := hI (show Ext wr wb by rw [hwb]; exact (Ext.refl _).alloc _)
   have HBC := hI (show wb.heap[wr.heap.size]? = some (.cells #[.int .i64 v.kind, .string v.name, .int .i64 v.x.op, .string v.x.name, .slice v.x.aw v.x.nw v.x.cw, .int .i64 v.x.lo, .int .i64 v.x.hi, .slice v.x.aa v.x.na v.x.ca, .slice v.au v.nu v.cu, .int .i64 v.amount] 48 (0, 0)) by rw [hwb]; exact alloc_new wr _)
   obtain ⟨f0, f1, f2, f3, f4, f5, f6, f7, f8, f9, ff⟩ := blk10 HBC.out
   obtain ⟨x0, x1, x2, xf⟩ := blk3 ((HX.out.trans HXB.out).blk HL6.out)
   go_upto_region 14 with fail
   rw [<- hwb]
   clear hwb c0 c1 c2 c3 c4 c5 c6 c7 c8 c9
   go_wp2_with fail
   refine (HREC.out wb (HX.out.trans HXB.out)).mono ?_
   rintro e w9 ⟨rfl, hx9⟩
   have HX9 := hI (HXB.out.trans hx9)
   have HBC9 := hI (hx9.blk HBC.out)
   have hsb : w6.heap.size <= w9.heap.size := Nat.le_trans HX.out.size HX9.out.size
   clear hx9 f0 f1 f2 f3 f4 f5 f6 f7 f8 f9 ff x0 x1 x2 xf HBC HXB
   cases T
   case false =>
    go_wp2_with fail
    go_roundw
    case rel => exact ⟨k + 1, vs, q, by go_num, by omega, by rw [HST.out]; rfl, by omega, HCR.out, owns_chg HOWN.out (HX9.out.chg []) (by simp), HX.out.trans HX9.out⟩
    case measure => simp [intOf]; omega
   case true =>
    have HO3 := hI (owns_chg HOWN.out (HX9.out.chg []) (by simp))
    obtain ⟨f0, f1, f2, f3, f4, f5, f6, f7, f8, f9, ff⟩ := blk10 HBC9.out
    go_wp2_with (at_builtin; refine wpList_append_at elemCla rfl _ _ rfl w6.heap.size _ q.length _ rfl HO3.out _ 1 1 rfl ?f0 rfl ?f1 ?f2 ?f3 ?f4 ?_)
    case f0 => simp
    case f1 => simp [Value.oneCell']
    case f2 => unfold maxLen; omega
    case f3 => omega
    case f4 => omega
    intro v8 w8 hown8 hc8 hw8
    have HO8 := hI hown8
    have HX8 := hI (hc8.ext (HX.out.trans HX9.out) fun q hq => (HO3.out.lt q (mem_rowOf.1 hq)).1)
    clear hown8 hc8 hw8 f0 f1 f2 f3 f4 f5 f6 f7 f8 f9 ff
    go_wp2_with fail
    go_roundw
    case rel => exact ⟨k + 1, vs ++ [v], q ++ [u[k]], by go_num, by omega, by rw [HST.out]; rfl, by simp; omega, HCR.out.snoc HCLA.out, by simpa [ClV.cells] using HO8.out, HX8.out⟩
    case measure => simp [intOf]; omega
  have t1 : decide ((k : Int) < (m : Int)) = false := decide_eq_false (by omega)
  have HQ2 := hI (show R = insB ⟨4, -1, 0, 0, 0, false⟩ q by rw [HQ.out, HU.out, List.take_of_length_le (by have := HM.out; omega)])
  have hcl := clas_owns (M := []) HOWN.out (by simp) (HCR.out.mono (HX.out.sub.trans (to_mask_nil _)))
  obtain ⟨a', c', hv, hcl⟩ := hcl
  simp only [Value.slice.injEq, true_and] at hv
  obtain ⟨rfl, rfl⟩ := hv
  have HCL2 := hI (insured_calls q la q.length lc wr (hcl.mono (mask_sub _ _)) (by omega))
  rw [<- HQ2.out] at HCL2
  have HBW := hI (HX.out.blk HB6.out)
  clear hcl
  obtain ⟨r1, r2, r3, r4, r5, r6⟩ := R
  unfold Dec.cells at HCL2
  go_wp2_with fail
  refine HCL2.out.mono ?_
  rintro e w7 ⟨rfl, hx7⟩
  have HX7 := hI ((HXW6.out.trans HX.out).trans hx7)
  have HB7 := hI (hx7.blk HBW.out)
  clear hx7
  have hz := HB7.out
  unfold DecO Dec.cells at hz
  obtain ⟨z0, z1, z2, z3, z4, z5, zf⟩ := blk6d hz
  dsimp only at z0 z1 z2 z3 z4 z5
  go_wp2_with fail
  obtain ⟨w8, hw8⟩ : ∃ w8, w8 = put6d w7 bd (.int .i64 r1) (.int .i64 r2) (.int .i64 r3) (.int .i64 r4) (.int .i64 r5) (.bool r6) := ⟨_, rfl⟩
  have HX8 := hI (show Ext w w8 by rw [hw8]; exact (put6d_chg _ _).ext HX7.out (by simp; omega))
  have h8 : w8.heap[bd]? = some (.cells #[.int .i64 r1, .int .i64 r2, .int .i64 r3, .int .i64 r4, .int .i64 r5, .bool r6] 29 (0, 0)) := by rw [hw8]; exact put6d_blk hz
  unfold put6d at hw8
  rw [<- hw8]
  clear hw8 z0 z1 z2 z3 z4 z5 zf hz
  obtain ⟨z0, z1, z2, z3, z4, z5, zf⟩ := blk6d h8
  refine bodyPost_ret (v := .tuple #[.agg #[.int .i64 r1, .int .i64 r2, .int .i64 r3, .int .i64 r4, .int .i64 r5, .bool r6], .int .i64 0]) (by simp [results, Tryz.results13, go_sem, z0, z1, z2, z3, z4, z5]) rfl ?_
  exact ⟨rfl, HX8.out⟩
theorem gives_appendA {t e : TypeId} {z : Value} {size bytes : Nat} (E : ElemT t e z size bytes) {ρ : Operand -> Value} {W : World} {T : Value -> World -> Prop} {dst : Option Tmp} {ty : TypeId} {pos : String} {after : Array Edge} {guard : Option (Nat × Bool)}
  (s x : Operand) (base : Nat) (v : Value) (n : Nat) (xs : List Value) (hs : ρ s = v) (B off m c : Nat) (news : List Value) (hx : ρ x = .slice (some ⟨B, off, none⟩) m c) (hl : news.length = m * size) (h1 : ∀ u ∈ news, u.oneCell' = true) (hm : 0 < m) (hn : n + m <= 100000000) (hb : bytes <= 1000)
  (hown : W.ownsRow base e size v n xs) (hnews : ∀ j (h : j < news.length), W.cell? ⟨B, off + j, none⟩ = some news[j]) (hbase : base <= W.heap.size)
  (h : ∀ g cap w', w'.ownsRow base e size (.slice (some ⟨g, 0, none⟩) (n + m) cap) (n + m) (xs ++ news) -> W.grownBy w' v.ownBlock -> (v.ownBlock = some g \/ g = W.heap.size) -> g < w'.heap.size -> T (.slice (some ⟨g, 0, none⟩) (n + m) cap) w') :
  GivesOp Tryz.prog { dst := dst, op := .call { callee := .builtin .append, args := #[s, x], argTypes := #[t, t] }, type := ty, pos := pos, after := after, guard := guard } ρ W T := by
 obtain ⟨i, hi, hz, hsz, hby⟩ := info_parts E.info
 obtain ⟨g, cap, w', hrun, h2, h3, h4, h5⟩ := run_append_lies (P := Tryz.prog) W t ty base e i z size bytes E.ht hi hz hsz hby E.hzs E.hsz v n xs hown ⟨B, off, none⟩ m c news hl (by
   intro j u hu
   obtain ⟨hj, rfl⟩ := List.getElem?_eq_some_iff.1 hu
   have : (⟨B, off, none⟩ : Addr).add j = ⟨B, off + j, none⟩ := by unfold Addr.add; split <;> simp_all
   rw [this]
   exact hnews j hj) h1 hm (by simp only [maxLen]; omega) (by
   calc (n + m) * bytes <= 100000000 * 1000 := Nat.mul_le_mul hn hb
    _ <= 140737488355328 := by omega) hbase _ rfl
 unfold GivesOp
 have he : execOp ρ { dst := dst, op := .call { callee := .builtin .append, args := #[s, x], argTypes := #[t, t] }, type := ty, pos := pos, after := after, guard := guard } = (do pure (.value (<- Builtin.append_ #[t, t] ty #[v, .slice (some ⟨B, off, none⟩) m c]))) := by
  rw [<- hs, <- hx, BigFrame.execOp_builtin, BigFrame.builtin_append]; simp
 rw [he]
 simp only [Sem.run_bind, hrun]
 exact h g cap w' h2 h3 h4 h5
def ErM (base : Nat) (nm : BA) (W W' : World) : Prop := ∃ N, Chg N W W' /\ ∀ k ∈ N, base <= k /\ ∀ cs t, W.heap[k]? = some (.cells cs t (0, 0)) -> (cs.size = 10 -> cs[1]? ≠ some (.string nm)) /\ (cs.size = 6 -> ∃ cs', W'.heap[k]? = some (.cells cs' t (0, 0)) /\ cs'.size = 6)
theorem ErM.refl (base : Nat) (nm : BA) (W : World) : ErM base nm W W := ⟨[], Chg.refl _ _, fun k hk => by simp at hk⟩
theorem ErM.of {base : Nat} {nm : BA} {W W' : World} (h : Ext W W') : ErM base nm W W' := ⟨[], h.chg [], fun k hk => by simp at hk⟩
theorem ErM.ext {w W W' : World} {nm : BA} (h : Ext w W) (he : ErM w.heap.size nm W W') : Ext w W' := by
 obtain ⟨N, hc, hN⟩ := he
 exact hc.ext h fun y hy => (hN y hy).1
theorem ErM.clause {base : Nat} {nm : BA} {W W' : World} (h : ErM base nm W W') {g : Nat} {cs : Array Value} {t : TypeId} (hg : W.heap[g]? = some (.cells cs t (0, 0))) (h10 : cs.size = 10) (hn : cs[1]? = some (.string nm)) : W'.heap[g]? = some (.cells cs t (0, 0)) := by
 obtain ⟨N, hc, hN⟩ := h
 exact hc.blk hg fun hm => ((hN g hm).2 cs t hg).1 h10 hn
theorem ErM.shape {base : Nat} {nm : BA} {W W' : World} (h : ErM base nm W W') {g : Nat} {cs : Array Value} {t : TypeId} (hg : W.heap[g]? = some (.cells cs t (0, 0))) (h6 : cs.size = 6) : ∃ cs', W'.heap[g]? = some (.cells cs' t (0, 0)) /\ cs'.size = 6 := by
 obtain ⟨N, hc, hN⟩ := h
 by_cases hm : g ∈ N
 ·exact ((hN g hm).2 cs t hg).2 h6
 exact ⟨cs, hc.blk hg hm, h6⟩
theorem ErM.row {base : Nat} {nm : BA} {W W' : World} {v : Value} {n : Nat} {vs : List ClV} (ho : W.ownsRow base 48 10 v n (vs.flatMap ClV.cells)) (h0 : n = 0 \/ ∀ x ∈ vs, x.name ≠ nm) (hz : n = 0 -> ∀ g, v.ownBlock = some g -> ∃ t, W.heap[g]? = some (.cells #[] t (0, 0))) (hg : W.grownBy W' v.ownBlock) : ErM base nm W W' := by
 refine ⟨rowOf v, ?_, fun k hk => ?_⟩
 ·refine ⟨hg.os, hg.tape, hg.output, hg.size, fun j hj hn => hg.block j hj (fun e => hn ?_)⟩
  exact mem_rowOf.2 e.symm
 have hkv := mem_rowOf.1 hk
 refine ⟨(ho.lt k hkv).1, fun cs t hb => ?_⟩
 by_cases hn : n = 0
 ·obtain ⟨t', e⟩ := hz hn k hkv
  rw [hb] at e
  simp only [Option.some.injEq, Obj.cells.injEq] at e
  obtain ⟨rfl, _⟩ := e
  exact ⟨fun h => by simp at h, fun h => by simp at h⟩
 rcases ho.2 with ⟨rfl, _⟩ | ⟨g, cap, cur, rfl, hg1, hgb, hle, hmx, hsz, htk⟩
 ·cases hkv
 have e : k = g := by simpa [Value.ownBlock] using hkv.symm
 subst e
 rw [hb] at hgb
 simp only [Option.some.injEq, Obj.cells.injEq] at hgb
 obtain ⟨rfl, _⟩ := hgb
 refine ⟨fun h10 hnm => ?_, fun h6 => by omega⟩
 have hcap : cap = 1 := by omega
 have hn1 : n = 1 := by omega
 subst hn1
 rcases h0 with h0 | h0
 ·omega
 have hl := ho.1
 cases vs with
 | nil => simp at hl
 | cons x r =>
  refine h0 x (by simp) ?_
  have h1 : (cs.toList.take (1 * 10))[1]? = ((x :: r).flatMap ClV.cells)[1]? := by rw [htk]
  rw [List.getElem?_take, if_pos (by omega), List.flatMap_cons, List.getElem?_append_left (by simp [ClV.cells])] at h1
  rw [Array.getElem?_toList, hnm] at h1
  simpa [ClV.cells] using h1.symm
open Go.RowKit
def pcd : BA := ⟨#[99, 45]⟩
theorem new_callsB (la : OA) (ln lc : Nat) (w0 w : World) (h : IntsAt w0 la ln) (hx : Ext w0 w) (hl : ln <= 1000000000000000) : Calls Tryz.prog 17 #[.slice la ln lc] w (fun e w' => ∃ bd, e = .returned (.pointer (some ⟨bd, 0, none⟩)) /\ DeckAt w0 w' bd /\ Ext w w' /\ w.heap.size <= bd) := by
 have HX := hI hx
 clear hx
 go_enter Tryz.func17, Tryz.ntmps17
 go_wp2_with fail
 go_ret
 exact ⟨w.heap.size, rfl, ⟨la, ln, lc, 0, alloc_new w _, by omega, hl, h, HX.out.trans ((Ext.refl w).alloc _), HX.out.size⟩, (Ext.refl w).alloc _, Nat.le_refl _⟩
def intCells (z : Int) : List Value := [.int .i64 z]
def FctQ (attrs : List Attr) (w0 : World) (bd : Nat) (M : ZN) (w : World) (e : Ending) (w' : World) : Prop := ∃ (f : ZI) (a : OA) (c : Nat), e = .returned (.slice a f.length c) /\ factsAll attrs f = true /\ f.length <= 1000 /\ IsIntF (mask w' M) f a f.length /\ DeckAt w0 w' bd /\ Chg [bd] w w'
def FctL (attrs : List Attr) (w0 w : World) (bd bs base : Nat) (o : Obj) (v i : Value) (wr : World) : Prop := ∃ f : ZI, i = .int .i64 (f.length : Nat) /\ f.length <= attrs.length /\ (∀ j (h1 : j < attrs.length) (h2 : j < f.length), (domB attrs[j]).1 <= f[j] /\ f[j] <= (domB attrs[j]).2) /\ wr.ownsRow base 3 1 v f.length (f.flatMap intCells) /\ wr.heap[bs]? = some o /\ DeckAt w0 wr bd /\ Chg [bd] w wr
theorem schemas_err : (schemas.all fun l => decide (schemaErr l = 0) && l.all fun a => decide (a.name.size <= 1000) && (decide (a.words.length <= 1000) && a.words.all fun x => decide (x.size <= 1000))) = true := by decide +kernel
theorem schema_zero {l : List Attr} (h : l ∈ schemas) : schemaErr l = 0 := by
 have := List.all_eq_true.1 schemas_err l h
 simp only [Bool.and_eq_true, decide_eq_true_eq] at this
 exact this.1
theorem ints_own {w : World} {M : ZN} {base : Nat} {v : Value} {f : ZI} (h : w.ownsRow base 3 1 v f.length (f.flatMap intCells)) (hM : ∀ k, v.ownBlock = some k -> k ∉ M) : ∃ a c, v = .slice a f.length c /\ IsIntF (mask w M) f a f.length := by
 obtain ⟨a, c, rfl, hr⟩ := IsRows.of_owns (f := intCells) (fun _ => rfl) h
 refine ⟨a, c, rfl, rfl, fun i hi => ?_⟩
 obtain ⟨b, off, rfl, hc⟩ := hr.2.2.2 i hi
 refine ⟨b, off, rfl, ?_⟩
 have := hc 0 (by simp [intCells])
 rw [mask_cell, if_neg (hM _ rfl)]
 simpa [intCells] using this
theorem own_snoc {w : World} {base : Nat} {v : Value} {f : ZI} {k : Nat} {z : Int} (hk : k = f.length) (h : w.ownsRow base 3 1 v (k + 1) (f.flatMap intCells ++ (#[Value.int .i64 z] : Array Value).toList)) : w.ownsRow base 3 1 v (f ++ [z]).length ((f ++ [z]).flatMap intCells) := by
 have : (f ++ [z]).length = k + 1 := by simp [hk]
 rw [this]
 simpa [intCells] using h
theorem dfacts_calls {attrs : List Attr} (h0 : schemaErr attrs = 0) (hf : ∀ x ∈ attrs, x.fits) {w0 w : World} {bd : Nat} (hd : DeckAt w0 w bd) (sa : OA) (sn sc : Nat) (M : ZN) (hs : IsSchema (mask w [bd]) attrs (.agg #[.slice sa sn sc])) (hM : ∀ y ∈ M, y < w.heap.size) :
  Calls Tryz.prog 38 #[.pointer (some ⟨bd, 0, none⟩), .agg #[.slice sa sn sc]] w (FctQ attrs w0 bd M w) := by
 obtain ⟨q1, q2, q3⟩ := schema_attrs h0
 have hbw := hd.lt
 have HSN := hI (show sn = attrs.length by obtain ⟨a', n', c', e', h', -⟩ := hs.parts; simp at e'; omega)
 have HDOM := hI (fun (i : Nat) (hi : i < attrs.length) W (hW : Chg [bd] w W) => rDomain_calls attrs (.agg #[.slice sa sn sc]) i W (((hs.mono (mask_step hW (by simp))).mono (mask_sub _ _))) hf (by omega) h0 hi)
 have HAD := hI (fun (i : Nat) (hi : i < attrs.length) => attr_dom (q3 i hi).1)
 have HD := hI hd
 have HM := hI hM
 have HW0 := hI (show w0.heap.size <= w.heap.size by obtain ⟨_, _, _, _, _, _, _, _, hxw, _⟩ := hd; exact hxw.size)
 clear hs hM hf q1 q3 h0 hd
 obtain ⟨wa, hwa⟩ : ∃ wa, wa = w.alloc (.cells #[.slice sa sn sc] 24) := ⟨_, rfl⟩
 have hxa : Ext w wa := by rw [hwa]; exact (Ext.refl _).alloc _
 have HB0 := hI (show wa.heap[w.heap.size]? = some (.cells #[.slice sa sn sc] 24 (0, 0)) by rw [hwa]; exact alloc_new w _)
 have HDA := hI (HD.out.ext hxa)
 have HCA := hI (hxa.chg [bd])
 clear hxa
 go_enter Tryz.func38, Tryz.ntmps38
 go_upto_region 1 with fail
 rw [<- hwa]
 clear hwa
 go_wp2_with fail
 go_loopw [5, 6] (FctL attrs w0 w bd w.heap.size (w.heap.size + 1) (.cells #[.slice sa sn sc] 24 (0, 0))) (fun _ i _ => sn - (intOf i).toNat)
 case atStart => exact ⟨[], rfl, by simp, fun j _ h => by simp at h, ⟨rfl, Or.inl ⟨rfl, rfl⟩⟩, HB0.out, HDA.out, HCA.out⟩
 case round =>
  obtain ⟨f, rfl, hk, hall, hown, hb0, hd, hc⟩ := hrel
  obtain ⟨k, hkf⟩ : ∃ k, k = f.length := ⟨_, rfl⟩
  rw [<- hkf] at hown hk ⊢
  have HKF := hI hkf
  have HALL := hI hall
  have HOWN := hI hown
  have HBB := hI hb0
  have HDR := hI hd
  have HCR := hI hc
  obtain ⟨e0, ef⟩ := blk1 hb0
  have HRO := hI (show ∀ z ∈ rowOf u5, w.heap.size + 1 <= z /\ z < wr.heap.size from fun z hz => ⟨(hown.lt z (mem_rowOf.1 hz)).1, (hown.lt z (mem_rowOf.1 hz)).2⟩)
  clear hkf hall hown hb0 hd hc
  by_cases hkn : k < sn
  ·have hka : k < attrs.length := by have := HSN.out; omega
   have t1 : decide ((k : Int) < (sn : Int)) = true := decide_eq_true (by omega)
   have HDK := hI (HDOM.out k hka wr HCR.out)
   obtain ⟨hlh, hlo, hhi, -, -⟩ := HAD.out k hka
   unfold domV at HDK
   obtain ⟨lo, hlov⟩ : ∃ lo, lo = (domB attrs[k]).1 := ⟨_, rfl⟩
   obtain ⟨hi, hhiv⟩ : ∃ hi, hi = (domB attrs[k]).2 := ⟨_, rfl⟩
   rw [<- hlov, <- hhiv] at HDK
   rw [<- hlov] at hlh hlo
   rw [<- hhiv] at hlh hhi
   have HLV := hI hlov
   have HHV := hI hhiv
   clear hlov hhiv
   go_wp2_with fail
   refine HDK.out.mono ?_
   rintro r w1 ⟨rfl, hx1⟩
   have HD1 := hI (HDR.out.ext hx1)
   have HC1 := hI (HCR.out.then (hx1.chg [bd]))
   have HB1 := hI (hx1.blk HBB.out)
   have HO1 := hI (owns_ext HOWN.out hx1)
   have HR1 := hI (show ∀ z ∈ rowOf u5, w.heap.size + 1 <= z /\ z < w1.heap.size from fun z hz => by have := HRO.out z hz; have := hx1.size; omega)
   clear hx1 e0 ef HDR HCR HBB HOWN HRO HDK
   go_wp2_with fail
   refine (next_calls HD1.out (hi - lo + 1) (by omega) (by omega)).mono ?_
   rintro r w2 ⟨r1, rfl, hr1, hr2, hd2, hc2⟩
   have HD2 := hI hd2
   have HC2 := hI (HC1.out.then hc2)
   have HB2 := hI (hc2.blk HB1.out (by simp; omega))
   have HO2 := hI (owns_chg HO1.out hc2 (fun q hq hm => by have := (HR1.out q (mem_rowOf.2 hq)).1; simp only [List.mem_singleton] at hm; omega))
   have HR2 := hI (show ∀ z ∈ rowOf u5, w.heap.size + 1 <= z /\ z < w2.heap.size from fun z hz => by have := HR1.out z hz; have := hc2.size; omega)
   clear hd2 hc2 HD1 HC1 HB1 HO1 HR1
   have HLH := hI (show lo <= hi /\ 0 <= r1 /\ r1 < hi - lo + 1 from ⟨hlh, hr1, hr2⟩)
   go_wp2_with fail
   refine (next_calls HD2.out 5 (by omega) (by omega)).mono ?_
   rintro r w3 ⟨r3, rfl, hr3, hr4, hd3, hc3⟩
   have HD3 := hI hd3
   have HC3 := hI (HC2.out.then hc3)
   have HB3 := hI (hc3.blk HB2.out (by simp; omega))
   have HO3 := hI (owns_chg HO2.out hc3 (fun q hq hm => by have := (HR2.out q (mem_rowOf.2 hq)).1; simp only [List.mem_singleton] at hm; omega))
   have HR3 := hI (show ∀ z ∈ rowOf u5, w.heap.size + 1 <= z /\ z < w3.heap.size from fun z hz => by have := HR2.out z hz; have := hc3.size; omega)
   clear hd3 hc3 HD2 HC2 HB2 HO2 HR2 hlh hlo hhi hr1 hr2
   rcases (by omega : r3 = 0 \/ r3 = 1 \/ r3 = 2 \/ (r3 ≠ 0 /\ r3 ≠ 1 /\ r3 ≠ 2)) with rfl | rfl | rfl | ⟨q0, q1, q2⟩
   case' inl => go_upto_region 14 with fail
   case' inr.inl => go_upto_region 14 with fail
   case' inr.inr.inl =>
    go_wp2_with fail
    refine (next_calls HD3.out 12 (by omega) (by omega)).mono ?_
    rintro r w3 ⟨r5, rfl, hr5, hr6, hd3, hc3⟩
    have HD3 := hI hd3
    have HC3 := hI (HC3.out.then hc3)
    have HB3 := hI (hc3.blk HB3.out (by simp; omega))
    have HO3 := hI (owns_chg HO3.out hc3 (fun q hq hm => by have := (HR3.out q (mem_rowOf.2 hq)).1; simp only [List.mem_singleton] at hm; omega))
    have HR3 := hI (show ∀ z ∈ rowOf u5, w.heap.size + 1 <= z /\ z < w3.heap.size from fun z hz => by have := HR3.out z hz; have := hc3.size; omega)
    clear hd3 hc3
    go_upto_region 14 with fail
   case' inr.inr.inr =>
    have t0 : (r3 == 0) = false := by simp [q0]
    have t2 : (r3 == 1) = false := by simp [q1]
    have t3 : (r3 == 2) = false := by simp [q2]
    go_upto_region 14 with fail
   all_goals
    have hsx := HC3.out.size
    have hblt := blk_lt HB3.out
    go_wp2_with (at_builtin; refine wpList_append_at elemInts rfl _ _ rfl (w.heap.size + 1) _ k _ rfl HO3.out _ 1 1 rfl ?f0 rfl ?f1 ?f2 ?f3 ?f4 ?_)
    case f0 => simp
    case f1 => simp [Value.oneCell']
    case f2 => unfold maxLen; omega
    case f3 => omega
    case f4 => omega
    intro v8 w8 hown8 hc8 hw8
    have HO8 := hI (own_snoc HKF.out hown8)
    have HB8 := hI (hc8.blk HB3.out (fun hm => by have := (HR3.out _ hm).1; omega))
    have HD8 := hI (HD3.out.chg hc8 (fun hm => by have := (HR3.out _ hm).1; omega) (fun y hy => by have := (HR3.out _ hy).1; have := HW0.out; omega))
    have HC8 := hI (HC3.out.trans hc8 (fun y hy => Or.inr (by have := (HR3.out _ hy).1; omega)))
    obtain ⟨a8, c8, hv8⟩ := owns_formG hown8
    subst hv8
    clear hown8 hc8 hw8
    go_wp2_with fail
    go_roundw
    case rel =>
     have hlh := HLH.out
     refine ⟨f ++ [_], ?_, ?_, fun j h1 h2 => ?_, HO8.out, HB8.out, HD8.out, HC8.out⟩
     ·rw [List.length_append, <- HKF.out]
      go_num
     ·rw [List.length_append, <- HKF.out]; simp; omega
     by_cases e : j < f.length
     ·rw [List.getElem_append_left e]; exact HALL.out j h1 e
     have hjk : j = k := by have := HKF.out; simp at h2; omega
     subst hjk
     rw [List.getElem_append_right (by omega)]
     simp only [List.getElem_singleton]
     rw [<- HLV.out, <- HHV.out]
     exact ⟨by omega, by omega⟩
    case measure => simp [intOf]; omega
  have t1 : decide ((k : Int) < (sn : Int)) = false := decide_eq_false (by omega)
  have hk2 : k = attrs.length := by have := HSN.out; omega
  have hos := HOWN.out
  rw [HKF.out] at hos
  obtain ⟨a', c', rfl, hii⟩ := ints_own (M := M) hos (fun z hz hm => by have := (HRO.out z (mem_rowOf.2 hz)).1; have := HM.out z hm; omega)
  have HII := hI hii
  clear hos hii
  go_wp2_with fail
  go_ret
  exact ⟨f, a', c', by rw [<- HKF.out]; rfl, factsAll_of (by rw [<- HKF.out]; exact hk2) HALL.out, by rw [<- HKF.out]; omega, HII.out, HDR.out, HCR.out⟩
structure W12 where
 sa : OA
 sn : Nat
 sc : Nat
 la : OA
 ln : Nat
 lc : Nat
 fa : OA
 fn : Nat
 fc : Nat
def W12.val (v : W12) : Value := .agg #[.slice v.sa v.sn v.sc, .slice v.la v.ln v.lc, .slice v.fa v.fn v.fc]
structure IsW12 (w : World) (s : List Attr) (l : List Cla) (f : ZI) (v : W12) : Prop where
 mem : s ∈ schemas
 sch : IsSchema w s (.agg #[.slice v.sa v.sn v.sc])
 clas : IsClas w l v.la v.ln v.lc
 glok : GLOk s pcd l
 len : l.length <= 10
 one : 1 <= l.length
 facts : factsAll s f = true
 ints : IsIntF w f v.fa v.fn
theorem IsW12.mono {w w' : World} {s : List Attr} {l : List Cla} {f : ZI} {v : W12} (h : IsW12 w s l f v) (hs : Sub w w') : IsW12 w' s l f v :=
 ⟨h.mem, h.sch.mono hs, h.clas.mono hs, h.glok, h.len, h.one, h.facts, h.ints.mono hs⟩
theorem good_fit12 {c : Cla} (h : CGood c) (hn : c.name.size <= 1000) : c.fit := by
 obtain ⟨g1, g2, g3, g4, g5, g6⟩ := h
 have hl := wbN_len c.unl
 exact ⟨by omega, g1, g2, slim_of_size _ (by omega), by omega, wbFits_of_ok _ g5 (by omega)⟩
theorem IsW12.cfit {w : World} {s : List Attr} {l : List Cla} {f : ZI} {v : W12} (h : IsW12 w s l f v) : ∀ c ∈ l, c.fit := fun c hc => good_fit12 (h.glok.1 c hc).1 (by have := (h.glok.1 c hc).2; have h3 : pcd.size = 2 := rfl; omega)
theorem putA_blk {w : World} {b i : Nat} {cs : Array Value} {t : TypeId} (h : w.heap[b]? = some (.cells cs t (0, 0))) (v : Value) : (w.setCell ⟨b, i, none⟩ v).heap[b]? = some (.cells (cs.setIfInBounds i v) t (0, 0)) := Go.heap_setCell_same w b i cs t v h
theorem put1_chg (w : World) (b i : Nat) (v : Value) : Chg [b] w (w.setCell ⟨b, i, none⟩ v) := (Chg.refl _ w).setCell (Or.inl (by simp)) _
theorem maskC {W W' : World} {K N : ZN} (h : Chg K W W') (hk : ∀ y ∈ K, y ∈ N) : Sub (mask W N) (mask W' N) := mask_grow h fun y hy => Or.inl (hk y hy)
def Made12Q (w : World) (e : Ending) (w' : World) : Prop := ∃ s l f v bd, e = .returned (.tuple #[W12.val v, .pointer (some ⟨bd, 0, none⟩)]) /\ IsW12 (mask w' [bd]) s l f v /\ DeckAt w w' bd /\ Ext w w'
theorem made12_calls (da : OA) (dn dc : Nat) (w0 : World) (h : IntsAt w0 da dn) (hdl : dn <= 1000000000000000) : Calls Tryz.prog 15 #[.slice da dn dc] w0 (Made12Q w0) := by
 have HI := hI h
 clear h
 obtain ⟨rb, hrb⟩ : ∃ rb, rb = w0.heap.size := ⟨_, rfl⟩
 obtain ⟨wa, hwa⟩ : ∃ wa, wa = w0.alloc (.cells #[.slice none 0 0, .slice none 0 0, .slice none 0 0] 34) := ⟨_, rfl⟩
 have HXA := hI (show Ext w0 wa by rw [hwa]; exact (Ext.refl _).alloc _)
 have HRA := hI (show wa.heap[rb]? = some (.cells #[.slice none 0 0, .slice none 0 0, .slice none 0 0] 34 (0, 0)) by rw [hwa, hrb]; exact alloc_new w0 _)
 have HRE := hI hrb
 go_enter Tryz.func15, Tryz.ntmps15
 go_upto_region 1 with fail
 rw [<- hwa, <- hrb]
 clear hwa hrb
 go_wp2_with fail
 refine (new_callsB da dn dc w0 wa HI.out HXA.out hdl).mono ?_
 rintro e w1 ⟨bd, rfl, hd1, hx1, hbl⟩
 go_upto_region 3 with fail
 obtain ⟨bw, hbw⟩ : ∃ bw, bw = w1.heap.size := ⟨_, rfl⟩
 obtain ⟨w2, hw2⟩ : ∃ w2, w2 = w1.alloc (.cells #[.slice none 0 0, .slice none 0 0, .slice none 0 0] 34) := ⟨_, rfl⟩
 have hx2 : Ext w1 w2 := by rw [hw2]; exact (Ext.refl _).alloc _
 have HW2 := hI (show w2.heap[bw]? = some (.cells #[.slice none 0 0, .slice none 0 0, .slice none 0 0] 34 (0, 0)) by rw [hw2, hbw]; exact alloc_new w1 _)
 have HLT := hI (show rb < bd /\ bd < bw /\ w0.heap.size <= rb by have := blk_lt HRA.out; have := hd1.lt; have := HRE.out; omega)
 rw [<- hw2, <- hbw]
 clear hw2 hbw
 have HD2 := hI (hd1.ext hx2)
 have HR2 := hI (hx2.blk (hx1.blk HRA.out))
 clear hd1 hx1 hx2 hbl HXA HRA HRE
 go_wp2_with fail
 refine (next_calls HD2.out 6 (by omega) (by omega)).mono ?_
 rintro e w3 ⟨z, rfl, hz0, hz1, hd3, hc3⟩
 have HLB := hI (show ∀ y ∈ [bd, bw, rb], y < w3.heap.size from fun y hy => by
  have h1 := blk_lt HW2.out
  have h2 := HLT.out
  have h3 := hc3.size
  simp only [List.mem_cons, List.not_mem_nil, or_false] at hy
  rcases hy with rfl | rfl | rfl <;> omega)
 have HD3 := hI hd3
 have HW3 := hI (hc3.blk HW2.out (by have := HLT.out; simp; omega))
 have HR3 := hI (hc3.blk HR2.out (by have := HLT.out; simp; omega))
 clear hd3 hc3 HD2 HW2 HR2
 go_wp2_with fail
 refine (schema_calls z [bd, bw, rb] w3 HLB.out).mono ?_
 rintro e w4 ⟨attrs, v, rfl, hat, hsch, hx4⟩
 obtain ⟨sa, sn, sc, rfl, hsn⟩ := hsch.slice
 have HAT := hI hat
 have HR4 := hI (hx4.blk HR3.out)
 have HD4 := hI (HD3.out.ext hx4)
 have HS4 := hI hsch
 have HLB4 := hI (show ∀ y ∈ [bd, bw, rb], y < w4.heap.size from fun y hy => Nat.lt_of_lt_of_le (HLB.out y hy) hx4.size)
 have hw4 := hx4.blk HW3.out
 clear hat hsch hx4 HW3 HR3 HD3 HLB hsn
 obtain ⟨c0, c1, c2, cf⟩ := blk3 hw4
 go_upto_region 4 with fail
 obtain ⟨w5, hw5⟩ : ∃ w5, w5 = w4.setCell ⟨bw, 0, none⟩ (.slice sa sn sc) := ⟨_, rfl⟩
 have hc5 : Chg [bw] w4 w5 := by rw [hw5]; exact put1_chg _ _ _ _
 have HW5 := hI (show w5.heap[bw]? = some (.cells #[.slice sa sn sc, .slice none 0 0, .slice none 0 0] 34 (0, 0)) by rw [hw5]; have := putA_blk (i := 0) hw4 (.slice sa sn sc); simpa using this)
 rw [<- hw5]
 clear hw5 hw4 c0 c1 c2 cf
 have HR5 := hI (hc5.blk HR4.out (by have := HLT.out; simp; omega))
 have HD5 := hI (HD4.out.chg hc5 (by have := HLT.out; simp; omega) (fun y hy => by simp only [List.mem_singleton] at hy; have := HLT.out; omega))
 have HS5 := hI (HS4.out.mono (maskC hc5 (by simp)))
 have HLB5 := hI (show ∀ y ∈ [bd, bw, rb], y < w5.heap.size from fun y hy => Nat.lt_of_lt_of_le (HLB4.out y hy) hc5.size)
 clear hc5 HR4 HD4 HS4 HLB4
 obtain ⟨c0, c1, c2, cf⟩ := blk3 HW5.out
 go_wp2_with fail
 refine (dfacts_calls (schema_zero HAT.out) (attrs_fits HAT.out) HD5.out sa sn sc [bd, bw, rb] (HS5.out.mono (mask_less _ (by simp))) HLB5.out).mono ?_
 rintro e w6 ⟨f, fa, fc, rfl, hfa, -, hif, hd6, hc6⟩
 have HFA := hI hfa
 have HIF6 := hI hif
 have HD6 := hI hd6
 have hw6 := hc6.blk HW5.out (by have := HLT.out; simp; omega)
 have HR6 := hI (hc6.blk HR5.out (by have := HLT.out; simp; omega))
 have HS6 := hI (HS5.out.mono (maskC hc6 (by simp)))
 have HLB6 := hI (show ∀ y ∈ [bd, bw, rb], y < w6.heap.size from fun y hy => Nat.lt_of_lt_of_le (HLB5.out y hy) hc6.size)
 clear hfa hif hd6 hc6 c0 c1 c2 cf HD5 HW5 HR5 HS5 HLB5
 obtain ⟨c0, c1, c2, cf⟩ := blk3 hw6
 obtain ⟨fn, hfn⟩ : ∃ fn, fn = f.length := ⟨_, rfl⟩
 rw [<- hfn]
 rw [<- hfn] at HIF6
 clear hfn
 go_upto_region 5 with fail
 obtain ⟨w7, hw7⟩ : ∃ w7, w7 = w6.setCell ⟨bw, 2, none⟩ (.slice fa fn fc) := ⟨_, rfl⟩
 have hc7 : Chg [bw] w6 w7 := by rw [hw7]; exact put1_chg _ _ _ _
 have HW7 := hI (show w7.heap[bw]? = some (.cells #[.slice sa sn sc, .slice none 0 0, .slice fa fn fc] 34 (0, 0)) by rw [hw7]; have := putA_blk (i := 2) hw6 (.slice fa fn fc); simpa using this)
 rw [<- hw7]
 clear hw7 hw6 c0 c1 c2 cf
 have HR7 := hI (hc7.blk HR6.out (by have := HLT.out; simp; omega))
 have HD7 := hI (HD6.out.chg hc7 (by have := HLT.out; simp; omega) (fun y hy => by simp only [List.mem_singleton] at hy; have := HLT.out; omega))
 have HS7 := hI (HS6.out.mono (maskC hc7 (by simp)))
 have HIF7 := hI (HIF6.out.mono (maskC hc7 (by simp)))
 have HLB7 := hI (show ∀ y ∈ [bd, bw, rb], y < w7.heap.size from fun y hy => Nat.lt_of_lt_of_le (HLB6.out y hy) hc7.size)
 clear hc7 HR6 HD6 HS6 HLB6 HIF6
 obtain ⟨c0, c1, c2, cf⟩ := blk3 HW7.out
 have HCL := hI (show Calls Tryz.prog 39 #[.pointer (some ⟨bd, 0, none⟩), .agg #[.slice sa sn sc], .int .i64 9, .string ⟨#[99, 45]⟩] w7 (GenQ attrs pcd 9 w0 bd [bd, bw, rb] w7) from
  gclauses_calls HAT.out (schemas_ok attrs HAT.out).1 (schemas_ok attrs HAT.out).2.1 (schemas_ok attrs HAT.out).2.2 HD7.out sa sn sc [bd, bw, rb] (HS7.out.mono (mask_less _ (by simp))) HLB7.out 9 (by omega) pcd (by decide))
 go_wp2_with fail
 refine HCL.out.mono ?_
 rintro e w8 ⟨l, la, ln, lc, rfl, hcl, hgl, hl1, hl2, hd8, hc8⟩
 have HGL := hI hgl
 have HLL := hI (show l.length <= 10 from hl2)
 have HL1 := hI hl1
 have HCL8 := hI hcl
 have HD8 := hI hd8
 have hw8 := hc8.blk HW7.out (by have := HLT.out; simp; omega)
 have HR8 := hI (hc8.blk HR7.out (by have := HLT.out; simp; omega))
 have HS8 := hI (HS7.out.mono (maskC hc8 (by simp)))
 have HIF8 := hI (HIF7.out.mono (maskC hc8 (by simp)))
 clear hcl hgl hl1 hl2 hd8 hc8 c0 c1 c2 cf HD7 HW7 HR7 HS7 HIF7 HLB7 HCL
 obtain ⟨c0, c1, c2, cf⟩ := blk3 hw8
 go_upto_region 6 with fail
 obtain ⟨w9, hw9⟩ : ∃ w9, w9 = w8.setCell ⟨bw, 1, none⟩ (.slice la ln lc) := ⟨_, rfl⟩
 have hc9 : Chg [bw] w8 w9 := by rw [hw9]; exact put1_chg _ _ _ _
 have HW9 := hI (show w9.heap[bw]? = some (.cells #[.slice sa sn sc, .slice la ln lc, .slice fa fn fc] 34 (0, 0)) by rw [hw9]; have := putA_blk (i := 1) hw8 (.slice la ln lc); simpa using this)
 rw [<- hw9]
 clear hw9 hw8 c0 c1 c2 cf
 have HR9 := hI (hc9.blk HR8.out (by have := HLT.out; simp; omega))
 have HD9 := hI (HD8.out.chg hc9 (by have := HLT.out; simp; omega) (fun y hy => by simp only [List.mem_singleton] at hy; have := HLT.out; omega))
 have HIW := hI (show IsW12 (mask w9 [bd, bw, rb]) attrs l f ⟨sa, sn, sc, la, ln, lc, fa, fn, fc⟩ from ⟨HAT.out, HS8.out.mono (maskC hc9 (by simp)), HCL8.out.mono (maskC hc9 (by simp)), HGL.out, HLL.out, HL1.out, HFA.out, HIF8.out.mono (maskC hc9 (by simp))⟩)
 clear hc9 HR8 HD8 HS8 HIF8 HCL8
 obtain ⟨c0, c1, c2, cf⟩ := blk3 HW9.out
 obtain ⟨r0, r1, r2, rf⟩ := blk3 HR9.out
 go_wp2_with fail
 obtain ⟨wz, hwz⟩ : ∃ wz, wz = put3 w9 rb (.slice sa sn sc) (.slice la ln lc) (.slice fa fn fc) := ⟨_, rfl⟩
 have hcz : Chg [rb] w9 wz := by rw [hwz]; exact put3_chg _ _ _ _ _ (by simp)
 have HZ : wz.heap[rb]? = some (.cells #[.slice sa sn sc, .slice la ln lc, .slice fa fn fc] 34 (0, 0)) := by rw [hwz]; exact put3_blk HR9.out _ _ _
 unfold put3 at hwz
 rw [<- hwz]
 clear hwz c0 c1 c2 cf r0 r1 r2 rf
 obtain ⟨z0, z1, z2, zf⟩ := blk3 HZ
 have hdz := HD9.out.chg hcz (by have := HLT.out; simp; omega) (fun y hy => by simp only [List.mem_singleton] at hy; have := HLT.out; omega)
 refine bodyPost_ret (v := .tuple #[W12.val ⟨sa, sn, sc, la, ln, lc, fa, fn, fc⟩, .pointer (some ⟨bd, 0, none⟩)]) (by simp [results, Tryz.results15, go_sem, W12.val, z0, z1, z2]) rfl ?_
 exact ⟨attrs, l, f, _, bd, rfl, (HIW.out.mono (maskC hcz (by simp))).mono (mask_less _ (by simp)), hdz, by obtain ⟨_, _, _, _, _, _, _, _, hxw, _⟩ := hdz; exact hxw⟩
def P2 (l : List Cla) (e : Ex) : Prop := expanded l e <= 2000
theorem wbs_P2 {l : List Cla} : (u : List Wb) -> backsLarge l u = false -> wbFits u -> wbsOkT (P2 l) u
 | [], _, _ => by unfold wbsOkT; trivial
 | .mk n c u :: r, h, hf => by
  rw [backsLarge] at h
  simp only [Bool.or_eq_false_iff, decide_eq_false_iff_not] at h
  rw [wbFits] at hf
  unfold wbsOkT
  exact ⟨by unfold P2; omega, wbs_P2 u h.1.2 hf.2.2.2.2.2.1, hf.2.2.2.2.1, wbs_P2 r h.2 hf.2.2.2.2.2.2⟩
theorem wbs_weak {P Q : Ex -> Prop} (h : ∀ e, P e -> Q e) : (u : List Wb) -> wbsOkT P u -> wbsOkT Q u
 | [], _ => by unfold wbsOkT; trivial
 | .mk n c u :: r, hu => by
  unfold wbsOkT at hu ⊢
  exact ⟨h c hu.1, wbs_weak h u hu.2.1, hu.2.2.1, wbs_weak h r hu.2.2.2⟩
theorem dec_snoc {s : List Attr} {l : List Cla} {f : ZI} {c : Cla} (h : MoreOk s l c) (hc : (clausesErr s l).2 = 0) (hok : ∀ x ∈ l, x.fit) (hcf : c.fit) (hlen : l.length < 100) (hf : factsB s f = true) : decErr s (l ++ [c]) f = 0 /\ decD s (l ++ [c]) f = vdB (val s l f) (l ++ [c]) := by
 have h1 := h.ok hc hlen
 have h0 : decErr s (l ++ [c]) f = 0 := by
  unfold decErr
  rw [if_neg (by simp [h1]), if_neg (by simp [hf])]
 refine ⟨h0, ?_⟩
 unfold decD
 rw [if_pos h0]
 have hV : ∀ e, P2 l e -> val s (l ++ [c]) f e = val s l f e := fun e he => val_snoc h.kind s f he
 refine vdB_same fun x hx => ?_
 rcases List.mem_append.1 hx with hx | hx
 ·have hp := pdC_of hc hok x hx
  exact claV_same hV hp.1.2.2.1 (wbs_weak (fun e he => he.2.2.1) _ hp.2.1)
 obtain rfl := List.mem_singleton.1 hx
 exact claV_same hV h.exp (wbs_P2 _ h.large hcf.2.2.2.2.2)
theorem dec_same {s : List Attr} {l : List Cla} {f : ZI} (hc : (clausesErr s l).2 = 0) (hf : factsB s f = true) : decErr s l f = 0 /\ decD s l f = vdB (val s l f) l := by
 have h0 : decErr s l f = 0 := by
  unfold decErr
  rw [if_neg (by simp [hc]), if_neg (by simp [hf])]
 exact ⟨h0, by unfold decD; rw [if_pos h0]⟩
theorem IsW12.names {w : World} {s : List Attr} {l : List Cla} {f : ZI} {v : W12} (h : IsW12 w s l f v) {nm : BA} (hn : nm.size ≠ 4) : ∀ x ∈ l, x.name ≠ nm := by
 intro x hx e
 have h1 := (h.glok.1 x hx).2
 have h2 : pcd.size = 2 := rfl
 rw [e, h2] at h1
 omega
theorem IsW12.cls {w : World} {s : List Attr} {l : List Cla} {f : ZI} {v : W12} (h : IsW12 w s l f v) : (clausesErr s l).2 = 0 := by rw [glok_good h.mem h.glok]
theorem IsW12.fac {w : World} {s : List Attr} {l : List Cla} {f : ZI} {v : W12} (h : IsW12 w s l f v) : factsB s f = true := by
 unfold factsB
 rw [(chk_of h.cls).sch, h.facts]
 rfl
theorem nodes_names {s : List Attr} {l : List Cla} : (e : Ex) -> nodesErr s l e = 0 -> ∀ t ∈ namesE e, (attrAt s t).isSome = true \/ (Proofs.YtefjomofjejklaaGreatDoor.defAt l t).isSome = true
 | .mk op name words lo hi args, h, t, ht => by
  rw [nodesErr] at h
  by_cases hn : nodeErr s l op name words lo hi ≠ 0
  ·rw [if_pos hn] at h; exact absurd h hn
  rw [if_neg hn] at h
  rw [namesE] at ht
  rcases List.mem_append.1 ht with ht | ht
  ·by_cases h3 : op = 3
   ·rw [if_pos h3] at ht
    obtain rfl := List.mem_singleton.1 ht
    have hn' : nodeErr s l op t words lo hi = 0 := by simpa using hn
    unfold nodeErr at hn'
    rw [if_pos h3] at hn'
    cases ha : attrAt s t with
    | some i => exact Or.inl rfl
    | none =>
     rw [ha] at hn'
     cases hd : Proofs.YtefjomofjejklaaGreatDoor.defAt l t with
     | some d => exact Or.inr rfl
     | none => rw [hd] at hn'; simp at hn'
   rw [if_neg h3] at ht; simp at ht
  exact nodesL args h t ht
where
 nodesL : (r : List Ex) -> nodesErrL s l r = 0 -> ∀ t ∈ namesL r, (attrAt s t).isSome = true \/ (Proofs.YtefjomofjejklaaGreatDoor.defAt l t).isSome = true
  | [], _, t, ht => by rw [namesL] at ht; simp at ht
  | x :: r, h, t, ht => by
   rw [nodesErrL] at h
   by_cases hn : nodesErr s l x ≠ 0
   ·rw [if_pos hn] at h; exact absurd h hn
   rw [if_neg hn] at h
   rw [namesL] at ht
   rcases List.mem_append.1 ht with ht | ht
   ·exact nodes_names x (by simpa using hn) t ht
   exact nodesL r h t ht
theorem exp_attrs {s : List Attr} {l : List Cla} {e : Ex} (hc : Chk s l) (h : nodesErr s [] e = 0) : expanded l e <= e.size := by
 unfold expanded
 rw [expF]
 have e1 : expE (fun t => (Proofs.YtefjomofjejklaaGreatDoor.defAt l t).map fun d => expF l l.length (l.getD d cla0).cond) e = expE (fun _ => none) e := expE_congr e fun t ht => by
  cases hd : Proofs.YtefjomofjejklaaGreatDoor.defAt l t with
  | none => rfl
  | some d =>
   exfalso
   have h1 := nodes_names e h t ht
   have h2 : Proofs.YtefjomofjejklaaGreatDoor.defAt [] t = none := rfl
   rw [h2] at h1
   have hi := defAt_lt hd
   have hnm := (defAt_name hd).1
   have h3 := (hc.good _ (List.getElem_mem hi)).2.2.2.2
   rw [getD_cla hi] at hnm
   rw [hnm] at h3
   rw [h3] at h1
   simp at h1
 rw [e1]
 exact expE_none e
def newN : BA := ⟨#[110, 101, 119]⟩
theorem attr_new {s : List Attr} (h : s ∈ schemas) : attrAt s newN = none := by
 have key : ∀ s ∈ schemas, (attrAt s newN).isNone = true := by decide +kernel
 simpa using key s h
theorem new_ok {w : World} {s : List Attr} {l : List Cla} {f : ZI} {v : W12} (h : IsW12 w s l f v) {c : Cla} {kd : Int} (hc : ClaG s [] kd newN c) (hk : 2 <= kd /\ kd <= 10) (hu : c.unl = []) : MoreOk s l c := by
 obtain ⟨h1, h2, h3, _, h5, h6⟩ := hc
 have hr := made_ref h.mem (fun x hx => by cases hx) h3 (by omega)
 have hz := made_nodes h.mem (l := l) (names := []) (fun x hx => by cases hx) 3 _ h3
 have hz0 := made_nodes h.mem (l := []) (names := []) (fun x hx => by cases hx) 3 _ h3
 have hx := exp_attrs (chk_of h.cls) hz0
 have hsz := (ref_tree hr).2
 refine ⟨by omega, ?_, by rw [h2]; exact h.names (nm := newN) (by decide), by rw [h2]; exact attr_new h.mem, hz, by rw [hu, backsErr], by omega, by rw [hu, backsLarge]⟩
 have hn : nameB newN = true := by decide +kernel
 unfold clauseB
 rw [hr, h2, hn, hu, h1]
 simp only [List.length_nil, decide_true, Bool.true_or, Bool.and_true, Bool.and_eq_true, Bool.or_eq_true, decide_eq_true_eq, beq_iff_eq]
 refine ⟨⟨by omega, by omega⟩, ?_⟩
 rcases h5 with ⟨a1, a2⟩ | ⟨a1, a2, a3⟩
 ·exact Or.inl ⟨a1, a2⟩
 exact Or.inr ⟨⟨a1, a2⟩, a3⟩
theorem new_fit {s : List Attr} {c : Cla} {kd : Int} (hc : ClaG s [] kd newN c) : c.fit := good_fit12 hc.2.2.2.2.2 (by rw [hc.2.1]; decide)
theorem terms_plain {w : World} {s : List Attr} {l : List Cla} {f : ZI} {v : W12} (h : IsW12 w s l f v) {c : Cla} {kd : Int} (hc : ClaG s [] kd newN c) (hk : 5 <= kd /\ kd <= 10) :
  decErr s l f = 0 /\ decErr s (l ++ [c]) f = 0 /\ (decD s (l ++ [c]) f).ver = (decD s l f).ver /\
  ((decD s l f).lim = (decD s (l ++ [c]) f).lim \/ (0 <= (decD s (l ++ [c]) f).lim /\ ((decD s l f).lim < 0 \/ (decD s (l ++ [c]) f).lim < (decD s l f).lim))) /\
  (decD s l f).ded <= (decD s (l ++ [c]) f).ded /\ (decD s l f).fra <= (decD s (l ++ [c]) f).fra /\ (decD s l f).coi <= (decD s (l ++ [c]) f).coi /\ ((decD s l f).avg = true -> (decD s (l ++ [c]) f).avg = true) := by
 have hu : c.unl = [] := by
  rcases hc.2.2.2.1 with e | e
  ·omega
  exact e
 obtain ⟨a0, a1⟩ := dec_same h.cls h.fac
 obtain ⟨b0, b1⟩ := dec_snoc (new_ok h hc (by omega) hu) h.cls h.cfit (new_fit hc) (by have := h.len; omega) h.fac
 rw [vdB_snoc] at b1
 have k1 := hc.1
 have ham : c.kind = 5 -> 1 <= c.amount := fun e => by
  rcases hc.2.2.2.2.1 with ⟨q1, _⟩ | ⟨_, q2, _⟩
  ·rw [<- k1, e] at q1; simp [mostOf] at q1
  exact q2
 rw [show (c.kind == 2) = false by simp; omega, show (c.kind == 3) = false by simp; omega, show (c.kind == 4) = false by simp; omega] at b1
 simp only [Bool.false_and, Bool.or_false] at b1
 refine ⟨a0, b0, ?_⟩
 rw [a1, b1]
 unfold vdB
 cases someB (val s l f) 2 false l
 ·simp
 cases someB (val s l f) 4 true l
 case true => simp
 cases someB (val s l f) 3 false l
 case true => simp
 simp only [Bool.true_eq_false, Bool.false_eq_true, if_false]
 refine ⟨trivial, ?_, ?_, ?_, ?_, fun e => by rw [e]; rfl⟩
 ·unfold limS
  split
  ·rename_i hh
   simp only [Bool.and_eq_true, beq_iff_eq, Bool.or_eq_true, decide_eq_true_eq] at hh
   have := ham hh.1.1
   omega
  exact Or.inl rfl
 ·unfold greatS; split <;> omega
 ·unfold greatS; split <;> omega
 unfold greatS; split <;> omega
end Go.Proofs.YtefjomofjejklaaGreatDoor
