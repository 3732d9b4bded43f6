/-
  Texts of the claim, joined: CNodes, Conv, Upto, MadeP, GenB, GenB2.
-/
import Derived.Test.YtefjomofjejklaaGreatDoorDt14
import Derived.Laws.BytesString
namespace Go.Proofs.YtefjomofjejklaaGreatDoor
set_option maxRecDepth 100000
set_option maxHeartbeats 32000000
open Go.RowKit Go.Maps
theorem firstI_all {f : Nat -> Int} {n : Nat} (h : (firstI f n).2 = 0) : ∀ j, j < n -> f j = 0 := by
 induction n with
 | zero => intro j hj; omega
 | succ n ih =>
  intro j hj
  rw [firstI] at h
  by_cases h1 : (firstI f n).2 ≠ 0
  ·rw [if_pos h1] at h; exact absurd h h1
  rw [if_neg h1] at h
  by_cases h2 : f n ≠ 0
  ·rw [if_pos h2] at h; exact absurd h h2
  by_cases e : j = n
  ·subst e; simpa using h2
  exact ih (by simpa using h1) j (by omega)
theorem schema_attrErr {s : List Attr} (h : schemaErr s = 0) {i : Nat} (hi : i < s.length) : attrErr s[i] = 0 := by
 unfold schemaErr at h
 by_cases h0 : s.length = 0
 ·rw [if_pos h0] at h; cases h
 rw [if_neg h0] at h
 by_cases h6 : 6 < s.length
 ·rw [if_pos h6] at h; cases h
 rw [if_neg h6] at h
 have := firstI_all h i hi
 unfold attrIErr at this
 rw [getD_attr hi] at this
 split at this
 ·cases this
 split at this
 ·cases this
 exact this
theorem attr_lohi {a : Attr} (h : attrErr a = 0) (hk : a.kind = 1 \/ a.kind = 3) : a.lo = 0 /\ a.hi = 0 := by
 unfold attrErr at h
 rcases hk with hk | hk
 ·rw [if_pos hk] at h
  split at h
  ·cases h
  rename_i h1
  omega
 rw [if_neg (by omega), if_neg (by omega), if_pos hk] at h
 split at h
 ·cases h
 rename_i h1
 omega
theorem cnode_eq {s : List Attr} {l : List Cla} (hs : schemaErr s = 0) {e : Ex} (he : okNode e) : cnodeErr s l e.op e.name e.words e.lo e.hi = nodeErr s l e.op e.name e.words e.lo e.hi := by
 have key : ∀ (ws vs : ZB), (ws.all fun x => decide (x ∈ vs)) = ws.all fun x => vs.any fun y => decide (y = x) := by
  intro ws vs
  congr 1
  funext x
  rw [Bool.eq_iff_iff]
  simp
 rcases he with ⟨h1, h2, h3, h4, h5, h6⟩ | ⟨h1, h2, h3, h4, h5, h6⟩ | ⟨h1, h2, h3, h4, h5, h6⟩ | ⟨h1, h2, h3, h4, h5, h6⟩ | ⟨h1, h2, h3, h4, h5, h6⟩ | ⟨h1, h2, h3, h4, h5, h6⟩ | ⟨h1, h2, h3, h4, h5, h6⟩
 ·rw [h1]; rfl
 ·rw [h1]; rfl
 ·rw [h1, h3, h4, h5]
  cases ho : attrAt s e.name with
  | none =>
   rw [cnode_none (by decide) ho]
   simp [nodeErr, ho]
  | some i =>
   have hi := attrAt_lt ho
   have e5 : nodeErr s l 3 e.name [] 0 0 = if s[i].kind ≠ 3 then 9 else 0 := by
    unfold nodeErr
    rw [if_pos rfl, ho]
    simp only [getD_attr hi]
   rw [cnode_some (by decide) ho hi, e5, show kindFor 3 = 3 from rfl]
   by_cases hk : s[i].kind = 3
   ·have := attr_lohi (schema_attrErr hs hi) (Or.inr hk)
    rw [this.1, this.2]
    simp [hk]
   rw [if_pos hk, if_pos hk]
 ·rw [h1, h4, h5]
  cases ho : attrAt s e.name with
  | none =>
   rw [cnode_none (by decide) ho]
   simp [nodeErr, ho]
  | some i =>
   have hi := attrAt_lt ho
   have e5 : nodeErr s l 4 e.name e.words 0 0 = if s[i].kind ≠ 1 then 9 else if (e.words.all fun x => s[i].words.any fun y => decide (y = x)) = false then 7 else 0 := by
    unfold nodeErr
    rw [if_neg (show ¬ (4 : Int) = 3 by decide), if_pos rfl, ho]
    simp only [getD_attr hi]
   rw [cnode_some (by decide) ho hi, e5, show kindFor 4 = 1 from rfl]
   by_cases hk : s[i].kind = 1
   ·have := attr_lohi (schema_attrErr hs hi) (Or.inl hk)
    rw [this.1, this.2, key]
    simp [hk]
   rw [if_pos hk, if_pos hk]
 ·rw [h1, h3]
  cases ho : attrAt s e.name with
  | none =>
   rw [cnode_none (by decide) ho]
   simp [nodeErr, ho]
  | some i =>
   have hi := attrAt_lt ho
   have e5 : nodeErr s l 5 e.name [] e.lo e.hi = if s[i].kind ≠ 2 then 9 else if e.lo < s[i].lo \/ s[i].hi < e.hi then 1 else 0 := by
    unfold nodeErr
    rw [if_neg (show ¬ (5 : Int) = 3 by decide), if_neg (show ¬ (5 : Int) = 4 by decide), if_pos rfl, ho]
    simp only [getD_attr hi]
   rw [cnode_some (by decide) ho hi, e5, show kindFor 5 = 2 from rfl]
   simp
 ·rw [h1]; rfl
 rcases h1 with h1 | h1 <;> (rw [h1]; rfl)
theorem cnodes_calls (s : List Attr) (hse : schemaErr s = 0) (l : List Cla) (hf : ∀ x ∈ s, x.fits) (hsl : s.length <= 1000000000000000) (bm nm : Nat) (m : Nat) : ∀ (e : Ex) (ev sv : Value) (w : World), e.size <= m -> m <= 1000000000000000 -> e.few -> e.fits -> okTree e -> IsSchema w s sv -> DefsAt w l bm nm -> IsEx w e ev ->
  Calls Tryz.prog 139 #[sv, .map (some bm), ev] w (GivesE (.int .i64 (nodesErr s l e)) w) := by
 induction m with
 | zero => intro e ev sv w h; have := size_pos e; omega
 | succ m ih =>
  intro e ev sv w hm hMM hfew hfit hok hs hd he
  obtain ⟨sa, sn, sc, rfl, hsn⟩ := hs.slice
  obtain ⟨hfw, hfa⟩ := few_parts hfew
  obtain ⟨hen, hft⟩ := fits_parts2 hfit
  have HN0 := hI (fun (W : World) (h1 : IsSchema W s (.agg #[.slice sa sn sc])) (h2 : DefsAt W l bm nm) (h3 : IsEx W e ev) => cnode_calls s (.agg #[.slice sa sn sc]) l bm nm e ev W h1 hf hsl h2 h3 hfw hen)
  rw [cnode_eq hse (okTree_parts hok).1] at HN0
  obtain ⟨aw, nw, cw, aa, na, ca, rfl, hw, hna, hca, ha, hx⟩ := he.parts
  have hS : e.size = 1 + sizes e.args := e.size_eq
  have hla := length_le_sizes e.args
  have hna2 : na <= 1000000000000000 := by omega
  have hsz : sizes e.args <= m := by omega
  have HE := hI he
  have HS := hI hs
  have HD := hI hd
  have HX := hI hx
  have HNA := hI hna
  have HFT := hI hft
  have HFA := hI hfa
  have HOK := hI (okTree_parts hok).2
  have HEQ := hI (nodesErr_eq s l e)
  have IH := hI ih
  clear hs hd he hx hna hw hca ha hS hla hsn hfw hfa hfew ih hf hm hft hfit hok
  unfold exV at *
  obtain ⟨wa, hwa⟩ : ∃ wa, wa = (w.alloc (.cells #[.slice sa sn sc] 24)).alloc (.cells #[.int .i64 e.op, .string e.name, .slice aw nw cw, .int .i64 e.lo, .int .i64 e.hi, .slice aa na ca] 45) := ⟨_, rfl⟩
  have hxa : Ext w wa := by rw [hwa]; exact ((Ext.refl _).alloc _).alloc _
  have hb0 : wa.heap[w.heap.size]? = some (.cells #[.slice sa sn sc] 24 (0, 0)) := by rw [hwa]; exact blk_alloc (alloc_new w _)
  have hb1 : wa.heap[w.heap.size + 1]? = some (.cells #[.int .i64 e.op, .string e.name, .slice aw nw cw, .int .i64 e.lo, .int .i64 e.hi, .slice aa na ca] 45 (0, 0)) := by rw [hwa]; exact alloc_atR (by simp)
  have HXA := hI hxa
  have HB0 := hI hb0
  have HB1 := hI hb1
  obtain ⟨a0, af⟩ := blk1 hb0
  obtain ⟨b0, b1, b2, b3, b4, b5, bf⟩ := blk6 hb1
  have hlt1 := blk_lt hb1
  have HN1 := hI (HN0.out wa (HS.out.ext hxa) (HD.out.ext hxa) (HE.out.ext hxa))
  clear hxa hb0 hb1 HN0
  obtain ⟨N, hN⟩ : ∃ N, N = nodeErr s l e.op e.name e.words e.lo e.hi := ⟨_, rfl⟩
  rw [<- hN] at HN1 HEQ
  obtain ⟨E, hE⟩ : ∃ E, E = nodesErr s l e := ⟨_, rfl⟩
  rw [<- hE] at HEQ ⊢
  clear hN hE
  go_enter Tryz.func139, Tryz.ntmps139
  go_upto_region 1 with fail
  rw [<- hwa]
  clear hwa
  go_wp2_with fail
  refine HN1.out.mono ?_
  rintro r w3 ⟨rfl, hx3⟩
  have HX3 := hI (HXA.out.trans hx3)
  have HB03 := hI (hx3.blk HB0.out)
  have HB13 := hI (hx3.blk HB1.out)
  clear hx3 a0 af b0 b1 b2 b3 b4 b5 bf hlt1
  by_cases hz : N = 0
  case neg =>
   have tz : (N != 0) = true := by simp [hz]
   have HQ := hI (show E = N by rw [HEQ.out, if_pos hz])
   clear hz
   go_wp2_with fail
   go_ret
   exact givesE_of (by rw [HQ.out]) HX3.out
  have tz : (N != 0) = false := by simp [hz]
  have HQ := hI (show E = nodesErrL s l e.args by rw [HEQ.out, if_neg (by simpa using hz)])
  clear hz HEQ
  obtain ⟨b0, b1, b2, b3, b4, b5, bf⟩ := blk6 HB13.out
  have hlt1 := blk_lt HB13.out
  go_wp2_with fail
  clear b0 b1 b2 b3 b4 b5 bf hlt1
  go_loopw [21] (fun t wr => ∃ k : Nat, t = .int .i64 k /\ k <= na /\ (∀ j (h : j < e.args.length), j < k -> nodesErr s l e.args[j] = 0) /\ wr.heap[w.heap.size]? = some (.cells #[.slice sa sn sc] 24 (0, 0)) /\ Ext w wr) (fun t _ => na - (intOf t).toNat)
  case atStart => exact ⟨0, rfl, by omega, fun j _ h => by omega, HB03.out, HX3.out⟩
  case round =>
   obtain ⟨k, rfl, hk, hall, hbx, hxr⟩ := hrel
   have HALL := hI hall
   have HBX := hI hbx
   have HXR := hI hxr
   obtain ⟨a0, af⟩ := blk1 hbx
   have hlt0 := blk_lt hbx
   clear hall hbx hxr
   by_cases hkn : k < na
   ·have hka : k < e.args.length := by have := HNA.out; omega
    have t1 : decide ((k : Int) < (na : Int)) = true := decide_eq_true (by omega)
    obtain ⟨b, off, rfl, aw1, nw1, cw1, aa1, na1, ca1, h0, h1, h2, h3, h4, h5, h6⟩ := ExsD.at e.args _ (ExsD.ext HXR.out e.args _ HX.out) k hka
    have hs1 := sizes_take_succ e.args k hka
    have hs2 := sizes_take_le e.args (k + 1)
    have hk1 : e.args[k].size <= m := by omega
    have hblt := block_lt h0
    simp only at hblt
    have HC := hI (fun (W : World) (hW : Ext wr W) => IH.out e.args[k] _ (.agg #[.slice sa sn sc]) W hk1 (by omega) (fewAll_at _ HFA.out k hka) (HFT.out _ (List.getElem_mem hka)) (HOK.out _ (List.getElem_mem hka)) (HS.out.ext (HXR.out.trans hW)) (HD.out.ext (HXR.out.trans hW)) (h6.ext hW))
    unfold exV at HC
    clear h6 hs1 hs2
    obtain ⟨E1, hE1⟩ : ∃ E1, E1 = nodesErr s l e.args[k] := ⟨_, rfl⟩
    rw [<- hE1] at HC
    have HE1 := hI hE1
    clear hE1
    go_wp2_with fail
    refine (HC.out _ ((Ext.refl wr).alloc _)).mono ?_
    rintro r w5 ⟨rfl, hx5⟩
    have HX5 := hI ((HXR.out.alloc _).trans hx5)
    have HB5 := hI (hx5.blk (blk_alloc HBX.out))
    clear hx5 h0 h1 h2 h3 h4 h5 a0 af hlt0 HC
    by_cases hz1 : E1 = 0
    ·have tz1 : (E1 != 0) = false := by simp [hz1]
     have HZ1 := hI (HE1.out.symm.trans hz1)
     clear hz1
     go_wp2_with fail
     go_roundw
     case rel =>
      refine ⟨k + 1, by go_num, by omega, fun j hj hjk => ?_, HB5.out, HX5.out⟩
      by_cases e0 : j = k
      ·subst e0; exact HZ1.out
      exact HALL.out j hj (by omega)
     case measure => simp [intOf]; omega
    have tz1 : (E1 != 0) = true := by simp [hz1]
    have HR := hI (show E = E1 by rw [HQ.out, nodesErrL_hit e.args k hka (by rw [<- HE1.out]; exact hz1) (fun j hj => HALL.out j (by omega) hj), HE1.out])
    clear hz1
    go_wp2_with fail
    go_ret
    exact givesE_of (by rw [HR.out]) HX5.out
   have t1 : decide ((k : Int) < (na : Int)) = false := decide_eq_false (by omega)
   have HR := hI (show E = 0 by rw [HQ.out, nodesErrL_zero e.args fun j hj => HALL.out j hj (by have := HNA.out; omega)])
   go_wp2_with fail
   go_ret
   exact givesE_of (by rw [HR.out]) HXR.out
def exprnErr (s : List Attr) (l : List Cla) (e : Ex) : Int := if refExprB e = false then 5 else nodesErr s l e
def exprErr (s : List Attr) (l : List Cla) (e : Ex) : Int := if schemaErr s ≠ 0 then schemaErr s else exprnErr s l e
theorem ref_okTree {e : Ex} (h : refExprB e = true) : okTree e := by
 rw [refExprB, Bool.and_eq_true, Bool.and_eq_true] at h
 exact (nodes_ok e).1 h.2
theorem cexpression_calls (s : List Attr) (hse : schemaErr s = 0) (l : List Cla) (hf : ∀ x ∈ s, x.fits) (hsl : s.length <= 1000000000000000) (bm nm : Nat) (e : Ex) (ev sv : Value) (w : World) (hfew : e.few) (hfit : e.fits) (ho : HasOps w) (hs : IsSchema w s sv) (hd : DefsAt w l bm nm) (he : IsEx w e ev) :
  Calls Tryz.prog 108 #[sv, .map (some bm), ev] w (GivesE (.int .i64 (exprnErr s l e)) w) := by
 obtain ⟨sa, sn, sc, rfl, hsn⟩ := hs.slice
 have HV := hI (fun (W : World) (hW : Ext w W) => Valid_calls e ev W (he.ext hW) (ho.ext hW) hfit)
 have HNC := hI (fun (W : World) (hW : Ext w W) (hz : refExprB e = true) => cnodes_calls s hse l hf hsl bm nm e.size e ev (.agg #[.slice sa sn sc]) W (Nat.le_refl _) (by
  rw [refExprB, Bool.and_eq_true, Bool.and_eq_true] at hz
  have h2 := hz.1.2
  simp only [decide_eq_true_eq] at h2
  unfold refSize at h2; omega) hfew hfit (ref_okTree hz) (hs.ext hW) (hd.ext hW) (he.ext hW))
 rw [validB_ref] at HV
 obtain ⟨aw, nw, cw, aa, na, ca, rfl, -⟩ := he.parts
 obtain ⟨R, hR⟩ : ∃ R, R = exprnErr s l e := ⟨_, rfl⟩
 rw [<- hR]
 have HR := hI (show R = if refExprB e = false then 5 else nodesErr s l e from hR)
 clear hf hfew hfit ho hs hd he hR hsn
 unfold exV at *
 obtain ⟨wa, hwa⟩ : ∃ wa, wa = (w.alloc (.cells #[.slice sa sn sc] 24)).alloc (.cells #[.int .i64 e.op, .string e.name, .slice aw nw cw, .int .i64 e.lo, .int .i64 e.hi, .slice aa na ca] 45) := ⟨_, rfl⟩
 have hxa : Ext w wa := by rw [hwa]; exact ((Ext.refl _).alloc _).alloc _
 have hb0 : wa.heap[w.heap.size]? = some (.cells #[.slice sa sn sc] 24 (0, 0)) := by rw [hwa]; exact blk_alloc (alloc_new w _)
 have hb1 : wa.heap[w.heap.size + 1]? = some (.cells #[.int .i64 e.op, .string e.name, .slice aw nw cw, .int .i64 e.lo, .int .i64 e.hi, .slice aa na ca] 45 (0, 0)) := by rw [hwa]; exact alloc_atR (by simp)
 have HXA := hI hxa
 have HB0 := hI hb0
 have HB1 := hI hb1
 obtain ⟨b0, b1, b2, b3, b4, b5, bf⟩ := blk6 hb1
 have hlt1 := blk_lt hb1
 have HV1 := hI (HV.out wa hxa)
 clear hxa hb0 hb1 HV
 obtain ⟨B, hB⟩ : ∃ B, B = refExprB e := ⟨_, rfl⟩
 rw [<- hB] at HV1 HR
 have HBB := hI hB
 clear hB
 go_enter Tryz.func108, Tryz.ntmps108
 go_upto_region 1 with fail
 rw [<- hwa]
 clear hwa
 go_wp2_with fail
 refine HV1.out.mono ?_
 rintro r w3 ⟨rfl, hx3⟩
 have HX3 := hI (HXA.out.trans hx3)
 have HB03 := hI (hx3.blk HB0.out)
 have HB13 := hI (hx3.blk HB1.out)
 clear hx3 b0 b1 b2 b3 b4 b5 bf hlt1
 cases B
 ·have HF := hI (show R = 5 by rw [HR.out]; rfl)
  go_wp2_with fail
  go_ret
  exact givesE_of (by rw [HF.out]) HX3.out
 have HF := hI (show R = nodesErr s l e by rw [HR.out]; rfl)
 obtain ⟨b0, b1, b2, b3, b4, b5, bf⟩ := blk6 HB13.out
 obtain ⟨a0, af⟩ := blk1 HB03.out
 have hlt1 := blk_lt HB13.out
 go_wp2_with fail
 refine (HNC.out w3 HX3.out HBB.out.symm).mono ?_
 rintro r w5 ⟨rfl, hx5⟩
 have HX5 := hI (HX3.out.trans hx5)
 clear hx5
 go_wp2_with fail
 go_ret
 exact givesE_of (by rw [HF.out]) HX5.out
open Go.RowKit
theorem uBy : Tryz.prog.underlying 5 = some (.int .u8) := by kernel_rfl
theorem uBs : Tryz.prog.underlying 153 = some (.slice 5) := by kernel_rfl
theorem uSt : Tryz.prog.underlying 9 = some .string := by kernel_rfl
theorem upto_calls {w0 w : World} {bd : Nat} (h : DeckAt w0 w bd) (most : Int) (h0 : 0 <= most) (h1 : most <= 10000000000000) :
  Calls Tryz.prog 43 #[.pointer (some ⟨bd, 0, none⟩), .int .i64 most] w (NextQ 0 (most + 1) w0 bd w) := by
 go_enter Tryz.func43, Tryz.ntmps43
 go_wp2_with fail
 refine (next_calls h 6 (by omega) (by omega)).mono ?_
 rintro e w1 ⟨r, rfl, hr0, hr1, hd, hc⟩
 have HC := hI hc
 have h4 : ∀ (k : Int), 0 < k -> k <= 10000000000001 -> Calls Tryz.prog 37 #[.pointer (some ⟨bd, 0, none⟩), .int .i64 k] w1 (NextQ 0 k w0 bd w1) := fun k hk hk2 => next_calls hd k hk (by omega)
 have H4 := hI h4
 clear hc hd h4
 have hr : r = 0 \/ r = 1 \/ r = 2 \/ r = 3 \/ r = 4 \/ r = 5 := by omega
 clear hr0 hr1
 rcases hr with rfl | rfl | rfl | rfl | rfl | rfl
 all_goals
  go_wp2_with fail
  all_goals
   refine (H4.out _ (by omega) (by omega)).mono ?_
   rintro e w2 ⟨q, rfl, hq0, hq1, hd2, hc2⟩
   have HC2 := hI (HC.out.then hc2)
   have HD2 := hI hd2
   clear hc2 hd2 H4 HC
   go_wp2_with fail
   all_goals
    go_ret
    exact ⟨_, rfl, by omega, by omega, HD2.out, HC2.out⟩
def LeftQ (w : World) (e : Ending) (w' : World) : Prop := ∃ b : Bool, e = .returned (.bool b) /\ Ext w w'
theorem left_calls {w0 w : World} {bd : Nat} (h : DeckAt w0 w bd) : Calls Tryz.prog 67 #[.pointer (some ⟨bd, 0, none⟩)] w (LeftQ w) := by
 obtain ⟨la, ln, lc, k, hb, hk, hln, hL, hx, hbd⟩ := h
 obtain ⟨c0, c1, cf⟩ := blk2 hb
 clear hL hx hb
 go_enter Tryz.func67, Tryz.ntmps67
 go_wp2_with fail
 go_quiet (fail)
 go_wp2_with fail
 go_ret
 exact ⟨_, rfl, (Ext.refl w).drewN _⟩
theorem conv_two (w : World) (x : Nat) (hx : x = w.heap.size) (c d : Int) (t : TypeId) : Sem.run Tryz.prog (convert 153 9 (.slice (some ⟨x, 0, none⟩) 2 2)) (w.alloc (.cells #[.int .u8 c, .int .u8 d] t)) = .ok (.string ⟨#[UInt8.ofNat c.toNat, UInt8.ofNat d.toNat]⟩) (w.alloc (.cells #[.int .u8 c, .int .u8 d] t)) := by
 subst hx
 rw [run_convert_bytes_string _ _ _ 5 _ _ _ uBs uBy uSt]
 have := run_bytesToString (P := Tryz.prog) (w.alloc (.cells #[.int .u8 c, .int .u8 d] t)) ⟨w.heap.size, 0, none⟩ 2 2 [c, d] (by
  refine run_loadCells_list (P := Tryz.prog) _ _ [.int .u8 c, .int .u8 d] (fun j v hj => ?_)
  have : (⟨w.heap.size, 0, none⟩ : Addr).add j = ⟨w.heap.size, j, none⟩ := by unfold Addr.add; split <;> simp_all
  rw [this, World.cell?_alloc_at _ _ _ _ rfl]
  simpa using hj)
 rw [this]
 rfl
def lettersB (p : BA) (k : Nat) : BA := p ++ ⟨#[97 + UInt8.ofNat (k / 26 % 26), 97 + UInt8.ofNat (k % 26)]⟩
theorem lettersB_size (p : BA) (k : Nat) : (lettersB p k).size = p.size + 2 := by unfold lettersB; rw [ByteArray.size_append]; rfl
def LettersQ (p : BA) (k : Nat) (w : World) (e : Ending) (w' : World) : Prop := e = .returned (.string (lettersB p k)) /\ Ext w w'
theorem letters_calls (p : BA) (k : Nat) (hk : k <= 1000) (hp : p.size <= 1000) (w : World) : Calls Tryz.prog 66 #[.string p, .int .i64 k] w (LettersQ p k w) := by
 have kc := conv_two
 go_enter Tryz.func66, Tryz.ntmps66
 go_wp2_with fail
 go_ret
 exact ⟨rfl, (Ext.refl w).alloc _⟩
def bndS : Nat -> Nat | 0 => 0 | 1 => 1 | d + 2 => 3 * bndS (d + 1) + 1
theorem schemas_ok3 : (schemas.all fun l => l.all fun a => decide (a.name.size <= 1000) && (decide (a.words.length <= 1000) && a.words.all fun x => decide (x.size <= 1000))) = true := by decide +kernel
theorem fitsAll_of : (l : List Ex) -> (∀ x ∈ l, x.fits) -> fitsAll l
 | [], _ => by unfold fitsAll; trivial
 | e :: r, h => by unfold fitsAll; exact ⟨h e (by simp), fitsAll_of r fun x hx => h x (by simp [hx])⟩
theorem fewAll_of : (l : List Ex) -> (∀ x ∈ l, x.few) -> fewAll l
 | [], _ => by unfold fewAll; trivial
 | e :: r, h => by unfold fewAll; exact ⟨h e (by simp), fewAll_of r fun x hx => h x (by simp [hx])⟩
theorem bareL_of : (l : List Ex) -> (∀ x ∈ l, bareE x = true) -> bareL l = true
 | [], _ => by unfold bareL; rfl
 | e :: r, h => by unfold bareL; rw [h e (by simp), bareL_of r fun x hx => h x (by simp [hx])]; rfl
theorem sizes_of {k : Nat} : (l : List Ex) -> (∀ x ∈ l, x.size <= k) -> sizes l <= l.length * k
 | [], _ => by simp [sizes]
 | e :: r, h => by
  have h1 := h e (by simp)
  have h2 := sizes_of r fun x hx => h x (by simp [hx])
  simp only [sizes, List.length_cons, Nat.succ_mul]
  omega
structure MadeOk (d : Nat) (e : Ex) : Prop where
 fits : e.fits
 few : e.few
 size : e.size <= bndS d
 bare : bareE e = true
theorem bndS_pos (d : Nat) : 1 <= bndS (d + 1) := by cases d with | zero => exact Nat.le_refl _ | succ d => simp only [bndS]; omega
theorem atom_okay {attrs : List Attr} (hs : attrs ∈ schemas) {names : ZB} (hn : ∀ x ∈ names, x.size <= 1000) {e : Ex} (h : AtomOf attrs names e) (d : Nat) : MadeOk (d + 1) e := by
 have hat : ∀ a ∈ attrs, _ := fun a ha => List.all_eq_true.1 (List.all_eq_true.1 schemas_ok3 attrs hs) a ha
 obtain ⟨op, name, words, lo, hi, args⟩ := e
 obtain ⟨ha, h⟩ := h
 simp only [Ex.args] at ha
 subst ha
 simp only [Ex.op, Ex.name, Ex.words, Ex.lo, Ex.hi] at h
 have key : name.size <= 1000 /\ words.length <= 1000 /\ ∀ x ∈ words, x.size <= 1000 := by
  rcases h with ⟨h1, h2, h3, h4, h5⟩ | ⟨h1, h2, h3, h4, h5⟩ | ⟨h1, h2, h3, h4, h5⟩ | ⟨h1, ⟨a, haa, hk, hnm, hne, hnd, hin⟩, h4, h5⟩ | ⟨h1, ⟨a, haa, hk, hnm, hl1, hl2, hl3⟩, h3⟩
  ·subst h2 h3; exact ⟨by decide, by simp, by simp⟩
  ·subst h2 h3; exact ⟨by decide, by simp, by simp⟩
  ·subst h3
   refine ⟨?_, by simp, by simp⟩
   rcases h2 with h2 | ⟨a, haa, _, h2⟩
   ·exact hn _ h2
   have := hat a haa
   simp only [Bool.and_eq_true, decide_eq_true_eq] at this
   rw [h2]; exact this.1
  ·have hq := hat a haa
   simp only [Bool.and_eq_true, decide_eq_true_eq, List.all_eq_true] at hq
   exact ⟨by rw [hnm]; exact hq.1, Nat.le_trans (List.Nodup.length_le_of_subset hnd (fun x hx => hin x hx)) hq.2.1, fun x hx => hq.2.2 x (hin x hx)⟩
  have hq := hat a haa
  simp only [Bool.and_eq_true, decide_eq_true_eq] at hq
  subst h3
  exact ⟨by rw [hnm]; exact hq.1, by simp, by simp⟩
 obtain ⟨k1, k2, k3⟩ := key
 have hb := bndS_pos d
 refine ⟨?_, ?_, ?_, ?_⟩
 ·unfold Ex.fits; exact ⟨by omega, fun x hx => by have := k3 x hx; omega, by unfold fitsAll; trivial⟩
 ·unfold Ex.few; exact ⟨by omega, by unfold fewAll; trivial⟩
 ·simp [Ex.size, sizes]; omega
 unfold bareE; simp [bareL]
theorem made_okay {attrs : List Attr} (hs : attrs ∈ schemas) {names : ZB} (hn : ∀ x ∈ names, x.size <= 1000) : (d : Nat) -> (e : Ex) -> MadeE attrs names d e -> MadeOk d e
 | 0, e, h => h.elim
 | d + 1, e, h => by
  rcases h with h | ⟨hl, h1, h2, h3, h4, h⟩
  ·exact atom_okay hs hn h d
  have ih := fun x hx => made_okay hs hn d x (h x hx)
  have hne : e.args ≠ [] := by intro e0; rw [e0] at hl; simp at hl
  obtain ⟨d, rfl⟩ : ∃ k, d = k + 1 := by
   cases d with
   | succ k => exact ⟨k, rfl⟩
   | zero =>
    obtain ⟨x, hx⟩ := List.exists_mem_of_ne_nil _ hne
    exact (h x hx).elim
  have h3l : e.args.length <= 3 := by omega
  have hop : e.op ≠ 3 := by omega
  clear hl
  obtain ⟨op, name, words, lo, hi, args⟩ := e
  simp only [Ex.args, Ex.name, Ex.words, Ex.op] at *
  subst h1 h2
  refine ⟨?_, ?_, ?_, ?_⟩
  ·unfold Ex.fits; exact ⟨by show (0 : Nat) <= _; omega, by simp, fitsAll_of _ fun x hx => (ih x hx).fits⟩
  ·unfold Ex.few; exact ⟨by simp, fewAll_of _ fun x hx => (ih x hx).few⟩
  ·have := sizes_of args fun x hx => (ih x hx).size
   have h5 : args.length * bndS (d + 1) <= 3 * bndS (d + 1) := Nat.mul_le_mul_right _ h3l
   simp only [Ex.size, bndS]; omega
  unfold bareE; rw [bareL_of _ fun x hx => (ih x hx).bare]; simp [hop]
theorem owns_formG {w : World} {base : Nat} {e : TypeId} {size : Nat} {v : Value} {n : Nat} {xs : List Value} (h : w.ownsRow base e size v n xs) : ∃ a c, v = .slice a n c := by
 rcases h.2 with ⟨rfl, rfl⟩ | ⟨g, cap, cur, rfl, _⟩
 ·exact ⟨none, 0, rfl⟩
 exact ⟨_, cap, rfl⟩
def IsWb (w : World) (x : Wb) (v : WbV) : Prop := v.name = x.name /\ IsEx w x.cond v.x.val /\ v.nu = x.unl.length /\ v.nu <= v.cu /\ OkAddr v.au v.cu /\ WbsD w x.unl v.au
theorem IsWb.mono {w w' : World} {x : Wb} {v : WbV} (h : IsWb w x v) (hs : Sub w w') : IsWb w' x v := ⟨h.1, h.2.1.mono hs, h.2.2.1, h.2.2.2.1, h.2.2.2.2.1, WbsD.mono hs _ _ h.2.2.2.2.2⟩
def WbsR (w : World) (l : List Wb) (vs : List WbV) : Prop := l.length = vs.length /\ ∀ i (h1 : i < l.length) (h2 : i < vs.length), IsWb w l[i] vs[i]
theorem WbsR.mono {w w' : World} {l : List Wb} {vs : List WbV} (h : WbsR w l vs) (hs : Sub w w') : WbsR w' l vs := ⟨h.1, fun i h1 h2 => (h.2 i h1 h2).mono hs⟩
theorem WbsR.nil (w : World) : WbsR w [] [] := ⟨rfl, fun i h => by simp at h⟩
theorem WbsR.snoc {w : World} {l : List Wb} {vs : List WbV} {c : Wb} {v : WbV} (h : WbsR w l vs) (hc : IsWb w c v) : WbsR w (l ++ [c]) (vs ++ [v]) := by
 refine ⟨by simp [h.1], fun i h1 h2 => ?_⟩
 by_cases hi : i < l.length
 ·have hi2 : i < vs.length := by rw [<- h.1]; exact hi
  simp only [List.getElem_append_left hi, List.getElem_append_left hi2]
  exact h.2 i hi hi2
 have e1 : i = l.length := by simp at h1; omega
 subst e1
 simp only [List.getElem_append_right (Nat.le_refl _), List.getElem_append_right (show vs.length <= l.length by rw [h.1]; exact Nat.le_refl _), Nat.sub_self, List.getElem_cons_zero]
 simpa [h.1] using hc
theorem elemWb : ElemT 46 53 (.agg #[.string ⟨#[]⟩, .int .i64 0, .string ⟨#[]⟩, .slice none 0 0, .int .i64 0, .int .i64 0, .slice none 0 0, .slice none 0 0]) 8 128 := ⟨by kernel_rfl, by kernel_rfl, rfl, by decide⟩
theorem wbs_owns {w : World} {M : ZN} {base : Nat} {v : Value} {l : List Wb} {vs : List WbV} (h : w.ownsRow base 53 8 v l.length (vs.flatMap WbV.cells)) (hM : ∀ k, v.ownBlock = some k -> k ∉ M) (hR : WbsR (mask w M) l vs) :
  ∃ a c, v = .slice a l.length c /\ l.length <= c /\ OkAddr a c /\ WbsD (mask w M) l a := by
 rw [hR.1] at h
 obtain ⟨a, c, rfl, hr⟩ := IsRows.of_owns WbV.len h
 refine ⟨a, c, by rw [hR.1], by rw [hR.1]; exact hr.2.1, hr.2.2.1, ?_⟩
 match l, hR with
 | [], _ => unfold WbsD; trivial
 | e :: r, hR =>
  obtain ⟨b, off, rfl, h1⟩ := hr.2.2.2 0 (by rw [<- hR.1]; simp)
  refine WbsD.of (e :: r) off vs hR.1 fun i h3 h4 => ?_
  obtain ⟨q1, q2, q3, q4, q5, q6⟩ := hR.2 i h3 h4
  refine ⟨q1, fun j hj => ?_, q2, q3, q4, q5, q6⟩
  obtain ⟨b', off', e1, h5⟩ := hr.2.2.2 i h4
  simp only [Option.some.injEq, Addr.mk.injEq, and_true] at e1
  obtain ⟨rfl, rfl⟩ := e1
  rw [mask_cell, if_neg (hM _ rfl), h5 j hj]
theorem wbN_snoc : (l : List Wb) -> (n : BA) -> (c : Ex) -> (u : List Wb) -> wbN (l ++ [.mk n c u]) = wbN l + 1 + wbN u
 | [], n, c, u => by simp [wbN]
 | .mk n' c' u' :: r, n, c, u => by rw [List.cons_append, wbN, wbN, wbN_snoc r n c u]; omega
theorem nameB_size {x : BA} (h : nameB x = true) : x.size <= 16 := by
 simp only [nameB, wordB, Bool.and_eq_true, decide_eq_true_eq] at h
 exact h.1.1.1.1.2
def WbM (attrs : List Attr) (names : ZB) : List Wb -> Prop
 | [] => True
 | .mk n c u :: r => nameB n = true /\ MadeE attrs names 2 c /\ WbM attrs names u /\ WbM attrs names r
theorem WbM.snoc {attrs : List Attr} {names : ZB} : (l : List Wb) -> (n : BA) -> (c : Ex) -> (u : List Wb) -> WbM attrs names l -> nameB n = true -> MadeE attrs names 2 c -> WbM attrs names u -> WbM attrs names (l ++ [.mk n c u])
 | [], n, c, u, _, h1, h2, h3 => by simp only [List.nil_append, WbM]; exact ⟨h1, h2, h3, trivial⟩
 | .mk n' c' u' :: r, n, c, u, h, h1, h2, h3 => by
  rw [WbM] at h
  rw [List.cons_append, WbM]
  exact ⟨h.1, h.2.1, h.2.2.1, WbM.snoc r n c u h.2.2.2 h1 h2 h3⟩
theorem WbM.ok {attrs : List Attr} (hs : attrs ∈ schemas) {names : ZB} (hn : ∀ x ∈ names, x.size <= 1000) : (l : List Wb) -> WbM attrs names l -> wbOk l
 | [], _ => by unfold wbOk; trivial
 | .mk n c u :: r, h => by
  rw [WbM] at h
  have h1 := made_okay hs hn 2 c h.2.1
  have h2 := h1.size
  have h3 := nameB_size h.1
  simp only [bndS] at h2
  rw [wbOk]
  exact ⟨by omega, h1.fits, h1.few, by omega, WbM.ok hs hn u h.2.2.1, WbM.ok hs hn r h.2.2.2⟩
def bndB : Nat -> Nat | 0 => 0 | d + 1 => 2 * (1 + bndB d)
def BacksQ (attrs : List Attr) (names : ZB) (d : Nat) (w0 : World) (bd : Nat) (M : ZN) (w : World) (e : Ending) (w' : World) : Prop := ∃ l a n c, e = .returned (.slice a n c) /\ n = l.length /\ n <= c /\ OkAddr a c /\ WbsD (mask w' M) l a /\ WbM attrs names l /\ wbN l <= bndB d /\ DeckAt w0 w' bd /\ Chg [bd] w w'
def GnG (w0 wr : World) (bd : Nat) (W : World) : Prop := DeckAt w0 W bd /\ Chg [bd] wr W
def GnE (bd : Nat) (_ : Nat) (W W' : World) : Prop := Chg [bd] W W'
def GnB (bd q : Nat) (N : ZN) (k : Nat) (W W' : World) : Prop := Chg (if k = q then bd :: N else [bd]) W W'
def GnL (w0 wr : World) (bd q : Nat) (N : ZN) (L : ZN) (W : World) : Prop := DeckAt w0 W bd /\ Chg (bd :: N) wr W /\ (q ∉ L -> Chg [bd] wr W)
theorem gnl {w0 wr W W' : World} {bd q : Nat} {N L : ZN} (h : DeckAt w0 W bd /\ Chg [bd] wr W) (hd : DeckAt w0 W' bd) (hc : Chg [bd] W W') : GnL w0 wr bd q N L W' :=
 ⟨hd, (h.2.then hc).weak (fun y hy => by simp at hy; simp [hy]), fun _ => h.2.then hc⟩
theorem mask_step {W W' : World} {bd : Nat} {N : ZN} (h : Chg [bd] W W') (hb : bd ∈ N) : Sub (mask W N) (mask W' N) := mask_sub_mask fun k hk hn => ⟨hn, h.block k hk fun hm => hn (by simp only [List.mem_singleton] at hm; rw [hm]; exact hb)⟩
def BkL (attrs : List Attr) (names : ZB) (w0 w : World) (d bd bw : Nat) (M : ZN) (sa : OA) (sn sc : Nat) (v k : Value) (wr : World) : Prop := ∃ (l : List Wb) (vs : List WbV) (q : Int), k = .int .i64 q /\ q + l.length <= 2 /\ 0 <= q /\ wr.ownsRow (bw + 1) 53 8 v l.length (vs.flatMap WbV.cells) /\ WbsR (mask wr (bd :: rowOf v ++ M)) l vs /\
 WbM attrs names l /\ wbN l <= l.length * (1 + bndB d) /\ DeckAt w0 wr bd /\ Chg [bd] w wr /\ wr.heap[bw]? = some (.cells #[.slice sa sn sc] 24 (0, 0))
def nmsO : Obj := .cells #[.string ⟨#[119]⟩, .string ⟨#[120]⟩, .string ⟨#[121]⟩] 9 (0, 0)
def WbGood (attrs : List Attr) (names : ZB) (d : Nat) (x : Wb) : Prop := nameB x.name = true /\ MadeE attrs names 2 x.cond /\ WbM attrs names x.unl /\ wbN x.unl <= bndB d
theorem nms_at {W : World} {g r : Nat} (h : W.heap[g]? = some nmsO) (hr : r < 3) : ∃ s : BA, W.cell? ⟨g, r, none⟩ = some (.string s) /\ nameB s = true := by
 rcases (by omega : r = 0 \/ r = 1 \/ r = 2) with rfl | rfl | rfl
 ·exact ⟨_, blk_cell h 0, by decide +kernel⟩
 ·exact ⟨_, blk_cell h 1, by decide +kernel⟩
 exact ⟨_, blk_cell h 2, by decide +kernel⟩
theorem DeckAt.lt {w0 w : World} {bd : Nat} (h : DeckAt w0 w bd) : bd < w.heap.size := by obtain ⟨_, _, _, _, hb, _⟩ := h; exact blk_lt hb
def bk5R (attrs : List Attr) (names : ZB) (d bd bw : Nat) (M N : ZN) (l : List Wb) (ws : List WbV) (sa : OA) (sn sc : Nat) (an : OA) (nn cn : Nat) (va : OA) (vc : Nat) : Nat -> Value -> World -> Prop
 | 0, u, _ => u = .slice va l.length vc
 | 1, u, W => ∃ (g : Nat), u = .slice (some ⟨g, 0, none⟩) 3 3 /\ (W.heap[g]? = some nmsO /\ g ≠ bd)
 | 2, u, _ => u = .pointer (some ⟨bd, 0, none⟩)
 | 3, u, _ => ∃ (r : Nat), u = .int .i64 ((r : Nat) : Int) /\ r < 3
 | 4, u, W => ∃ (g : Nat) (r : Nat), u = .pointer (some ⟨g, r, none⟩) /\ (W.heap[g]? = some nmsO /\ g ≠ bd /\ r < 3)
 | 5, u, _ => ∃ (s : BA), u = .string s /\ nameB s = true
 | 6, u, _ => u = .pointer (some ⟨bd, 0, none⟩)
 | 7, u, _ => u = .agg #[.slice sa sn sc]
 | 8, u, _ => u = .slice an nn cn
 | 9, u, W => ∃ (x : Ex) (xv : ExV), u = ExV.val xv /\ (MadeE attrs names 2 x /\ IsEx (mask W N) x (ExV.val xv))
 | 10, u, _ => u = .pointer (some ⟨bd, 0, none⟩)
 | 11, u, _ => u = .agg #[.slice sa sn sc]
 | 12, u, _ => u = .slice an nn cn
 | 13, u, _ => u = .int .i64 ((d : Int) + 1)
 | 14, u, _ => u = .int .i64 d
 | 15, u, W => ∃ (bl : List Wb) (ba : OA) (bn : Nat) (bc : Nat), u = .slice ba bn bc /\ (bn = bl.length /\ bn <= bc /\ OkAddr ba bc /\ WbsD (mask W N) bl ba /\ WbM attrs names bl /\ wbN bl <= bndB d)
 | 16, u, W => ∃ (x : Wb) (wv : WbV), u = .agg #[.string wv.name, .int .i64 wv.x.op, .string wv.x.name, .slice wv.x.aw wv.x.nw wv.x.cw, .int .i64 wv.x.lo, .int .i64 wv.x.hi, .slice wv.x.aa wv.x.na wv.x.ca, .slice wv.au wv.nu wv.cu] /\ (IsWb (mask W N) x wv /\ WbGood attrs names d x)
 | 17, u, W => ∃ (x : Wb) (wv : WbV) (g : Nat), u = .slice (some ⟨g, 0, none⟩) 1 1 /\ (W.heap[g]? = some (.cells wv.cells.toArray 53 (0, 0)) /\ g ≠ bd /\ IsWb (mask W N) x wv /\ WbGood attrs names d x)
 | _, u, W => ∃ (x : Wb) (wv : WbV) (v2 : Value), u = v2 /\ (W.ownsRow (bw + 1) 53 8 v2 (l.length + 1) (ws.flatMap WbV.cells ++ wv.cells) /\ WbsR (mask W (bd :: rowOf v2 ++ M)) (l ++ [x]) (ws ++ [wv]) /\ WbGood attrs names d x)
theorem backs_calls {attrs : List Attr} (names : ZB) (hok : ∀ a ∈ attrs, OkAttr a) (hne : attrs ≠ []) (hl : attrs.length <= 1000) (hnl : names.length <= 1000) : ∀ (d : Nat), d <= 10 -> ∀ {w0 w : World} {bd : Nat} (_ : DeckAt w0 w bd) (sa : OA) (sn sc : Nat) (an : OA) (nn cn : Nat) (M : ZN) (_ : IsSchema (mask w [bd]) attrs (.agg #[.slice sa sn sc])) (_ : IsStrs (mask w [bd]) names an nn cn) (_ : ∀ y ∈ M, y < w.heap.size),
  Calls Tryz.prog 41 #[.pointer (some ⟨bd, 0, none⟩), .agg #[.slice sa sn sc], .slice an nn cn, .int .i64 (d : Nat)] w (BacksQ attrs names d w0 bd M w) := by
 intro d
 induction d with
 | zero =>
  intro _ w0 w bd hd sa sn sc an nn cn M hs hn hM
  have HD := hI (hd.ext ((Ext.refl w).alloc (.cells #[.slice sa sn sc] 24)))
  clear hd hs hn
  go_enter Tryz.func41, Tryz.ntmps41
  go_wp2_with fail
  refine (next_calls HD.out 3 (by omega) (by omega)).mono ?_
  rintro e w1 ⟨z, rfl, hz0, hz1, hd1, hc1⟩
  have HD1 := hI hd1
  have HC1 := hI ((((Ext.refl w).alloc (.cells #[.slice sa sn sc] 24)).chg [bd]).then hc1)
  clear hd1 hc1
  go_wp2_with fail
  go_loopw [9, 10] (fun v k wr => v = .slice none 0 0 /\ k = .int .i64 z /\ wr = w1) (fun _ k _ => (intOf k).toNat)
  case atStart => exact ⟨rfl, rfl, rfl⟩
  case round =>
   obtain ⟨rfl, rfl, rfl⟩ := hrel
   by_cases hq : 0 < z
   ·have t14 : decide (0 < z) = true := decide_eq_true hq
    go_wp2_with fail
    go_ret
    exact ⟨[], none, 0, 0, rfl, rfl, Nat.le_refl _, Or.inl ⟨rfl, rfl⟩, by unfold WbsD; trivial, by unfold WbM; trivial, by simp [wbN], HD1.out, HC1.out⟩
   have t14 : decide (0 < z) = false := decide_eq_false hq
   go_wp2_with fail
   go_ret
   exact ⟨[], none, 0, 0, rfl, rfl, Nat.le_refl _, Or.inl ⟨rfl, rfl⟩, by unfold WbsD; trivial, by unfold WbM; trivial, by simp [wbN], HD1.out, HC1.out⟩
 | succ d ih =>
  intro hd10 w0 w bd hd sa sn sc an nn cn M hs hn hM
  have hbw := hd.lt
  have hb0 : w0.heap.size <= bd := by obtain ⟨_, _, _, _, _, _, _, _, _, h⟩ := hd; exact h
  have HB0 := hI (show w0.heap.size <= w.heap.size + 1 by omega)
  have HBW := hI hbw
  have HD := hI (hd.ext ((Ext.refl w).alloc (.cells #[.slice sa sn sc] 24)))
  have HS := hI hs
  have HN := hI hn
  have HM := hI hM
  have IH := Lib.hid @ih
  have HOKK := hI hok
  have HB1 := hI (alloc_new w (.cells #[.slice sa sn sc] 24))
  clear hd hs hn hM ih hok hbw hb0
  go_enter Tryz.func41, Tryz.ntmps41
  go_wp2_with fail
  refine (next_calls HD.out 3 (by omega) (by omega)).mono ?_
  rintro e w1 ⟨z, rfl, hz0, hz1, hd1, hc1⟩
  have HD1 := hI hd1
  have HC1 := hI ((((Ext.refl w).alloc (.cells #[.slice sa sn sc] 24)).chg [bd]).then hc1)
  have HB2 := hI (hc1.blk HB1.out (by have := HBW.out; simp; omega))
  obtain ⟨bw, hbw⟩ : ∃ bw, bw = w.heap.size := ⟨_, rfl⟩
  have HBE := hI hbw
  rw [<- hbw] at HB2 HB0 HBW HM ⊢
  clear hd1 hc1 HB1 HD hbw
  go_wp2_with fail
  go_loopw [9, 10] (BkL attrs names w0 w d bd bw M sa sn sc) (fun _ k _ => (intOf k).toNat)
  case atStart => exact ⟨[], [], z, rfl, by simp; omega, hz0, World.ownsRow_nil _ _ _ _, WbsR.nil _, by unfold WbM; trivial, by simp [wbN], HD1.out, HC1.out, HB2.out⟩
  case round =>
   obtain ⟨l, ws, q, rfl, hq2, hq0, hown, hwr, hok, hwn, hdk, hcg, hbx⟩ := hrel
   obtain ⟨va, vc, hv⟩ := owns_formG hown
   subst hv
   have HOW := hI hown
   have HWL := hI hwr
   have HWO := hI hok
   have HWN := hI hwn
   have HDK := hI hdk
   have HCG := hI hcg
   have HBX := hI hbx
   have HSZ := hI (show bw + 1 <= wr.heap.size from blk_lt hbx)
   clear hown hwr hok hwn hdk hcg hbx HD1 HC1 HB2
   by_cases hq : 0 < q
   ·have t14 : decide (0 < q) = true := decide_eq_true hq
    have t17 : decide ((0 : Int) < (d : Int) + 1) = true := decide_eq_true (by omega)
    have hl2 : l.length <= 2 := by omega
    obtain ⟨N, hN⟩ : ∃ N, N = bd :: rowOf (.slice va l.length vc) ++ M := ⟨_, rfl⟩
    have HNN := hI (show bd ∈ N by rw [hN]; simp)
    have HNL := hI (show ∀ y ∈ N, y < wr.heap.size by
     intro y hy
     rw [hN] at hy
     simp only [List.cons_append, List.mem_cons, List.mem_append] at hy
     have := HSZ.out; have := HBW.out
     rcases hy with rfl | hy | hy
     ·omega
     ·exact (HOW.out.lt y (mem_rowOf.1 hy)).2
     have := HM.out y hy; omega)
    have HWR := hI (show ∀ W, Chg [bd] wr W -> WbsR (mask W N) l ws from fun W hW => by rw [hN]; exact HWL.out.mono (mask_step hW (by simp)))
    have HKP := hI (show ∀ W w2 g2 cap, Chg [bd] wr W -> Chg (rowOf (.slice va l.length vc)) W w2 -> ((Value.slice va l.length vc).ownBlock = some g2 \/ g2 = W.heap.size) -> Sub (mask W N) (mask w2 (bd :: rowOf (.slice (some ⟨g2, 0, none⟩) (l.length + 1) cap) ++ M)) from fun W w2 g2 cap hW hc hg => by
     rw [hN]
     refine mask_sub_mask fun k hk hn => ⟨fun hm => ?_, hc.block k hk fun hm => hn (by simp [hm])⟩
     simp only [List.cons_append, List.mem_cons, List.mem_append] at hm hn
     rcases hm with h | h | h
     ·exact hn (Or.inl h)
     ·have h2 := mem_rowOf.1 h
      simp only [Value.ownBlock, Option.some.injEq] at h2
      rcases hg with e | e
      ·exact hn (Or.inr (Or.inl (mem_rowOf.2 (by rw [e, h2]))))
      omega
     exact hn (Or.inr (Or.inr h)))
    have HDX := hI (show ∀ W, DeckAt w0 W bd -> Chg [bd] wr W -> Calls Tryz.prog 40 #[.pointer (some ⟨bd, 0, none⟩), .agg #[.slice sa sn sc], .slice an nn cn, .int .i64 2] W (MadeQ (MadeE attrs names 2) w0 bd N W) from fun W hd hW =>
     (dexpr_calls attrs names HOKK.out hne hl hnl 1 (by omega) hd sa sn sc an nn cn N (HS.out.mono (mask_step (HCG.out.then hW) (by simp))) (HN.out.mono (mask_step (HCG.out.then hW) (by simp))) (fun y hy => Nat.lt_of_lt_of_le (HNL.out y hy) hW.size)).mono fun e w' h => h)
    have HIH := hI (show ∀ W, DeckAt w0 W bd -> Chg [bd] wr W -> Calls Tryz.prog 41 #[.pointer (some ⟨bd, 0, none⟩), .agg #[.slice sa sn sc], .slice an nn cn, .int .i64 (d : Nat)] W (BacksQ attrs names d w0 bd N W) from fun W hd hW =>
     IH.out (by omega) hd sa sn sc an nn cn N (HS.out.mono (mask_step (HCG.out.then hW) (by simp))) (HN.out.mono (mask_step (HCG.out.then hW) (by simp))) (fun y hy => Nat.lt_of_lt_of_le (HNL.out y hy) hW.size))
    clear hN
    go_upto_region 5 with fail
    refine wp_region_growL (m := 19) [18] (GnL w0 wr bd 18 (rowOf (.slice va l.length vc))) (GnB bd 18 (rowOf (.slice va l.length vc))) (GrP (bk5R attrs names d bd bw M N l ws sa sn sc an nn cn va vc)) (by kernel_rfl) (by kernel_rfl) ⟨HDK.out.ext ((Ext.refl wr).drew), ((Ext.refl wr).drew).chg _, fun _ => ((Ext.refl wr).drew).chg _⟩ ?_ ?_ ?_
    ·intro i k v W W' hi hk hne hout h hE
     have hi' := ltc19 hi
     clear hi hk
     by_cases hk : k = 18
     ·subst hk
      exfalso
      rcases hi' with rfl | rfl | rfl | rfl | rfl | rfl | rfl | rfl | rfl | rfl | rfl | rfl | rfl | rfl | rfl | rfl | rfl | rfl | rfl
      ·exact absurd hout (by decide +kernel)
      ·exact absurd hout (by decide +kernel)
      ·exact absurd hout (by decide +kernel)
      ·exact absurd hout (by decide +kernel)
      ·exact absurd hout (by decide +kernel)
      ·exact absurd hout (by decide +kernel)
      ·exact absurd hout (by decide +kernel)
      ·exact absurd hout (by decide +kernel)
      ·exact absurd hout (by decide +kernel)
      ·exact absurd hout (by decide +kernel)
      ·exact absurd hout (by decide +kernel)
      ·exact absurd hout (by decide +kernel)
      ·exact absurd hout (by decide +kernel)
      ·exact absurd hout (by decide +kernel)
      ·exact absurd hout (by decide +kernel)
      ·exact absurd hout (by decide +kernel)
      ·exact absurd hout (by decide +kernel)
      ·exact absurd hout (by decide +kernel)
      exact hne rfl
     have hE : Chg [bd] W W' := (by have h9 := hE; unfold GnB at h9; rwa [if_neg hk] at h9)
     rcases hi' with rfl | rfl | rfl | rfl | rfl | rfl | rfl | rfl | rfl | rfl | rfl | rfl | rfl | rfl | rfl | rfl | rfl | rfl | rfl
     ·exact h
     ·obtain ⟨g, e0, h⟩ := h
      exact ⟨g, e0, ⟨hE.blk h.1 (by simpa using h.2), h.2⟩⟩
     ·exact h
     ·obtain ⟨r, e0, h⟩ := h
      exact ⟨r, e0, h⟩
     ·obtain ⟨g, r, e0, h⟩ := h
      exact ⟨g, r, e0, ⟨hE.blk h.1 (by simpa using h.2.1), h.2⟩⟩
     ·obtain ⟨s, e0, h⟩ := h
      exact ⟨s, e0, h⟩
     ·exact h
     ·exact h
     ·exact h
     ·obtain ⟨x, xv, e0, h⟩ := h
      exact ⟨x, xv, e0, ⟨h.1, h.2.mono (mask_step hE HNN.out)⟩⟩
     ·exact h
     ·exact h
     ·exact h
     ·exact h
     ·exact h
     ·obtain ⟨bl, ba, bn, bc, e0, h⟩ := h
      exact ⟨bl, ba, bn, bc, e0, ⟨h.1, h.2.1, h.2.2.1, WbsD.mono (mask_step hE HNN.out) _ _ h.2.2.2.1, h.2.2.2.2⟩⟩
     ·obtain ⟨x, wv, e0, h⟩ := h
      exact ⟨x, wv, e0, ⟨h.1.mono (mask_step hE HNN.out), h.2⟩⟩
     ·obtain ⟨x, wv, g, e0, h⟩ := h
      exact ⟨x, wv, g, e0, ⟨hE.blk h.1 (by simpa using h.2.1), h.2.1, h.2.2.1.mono (mask_step hE HNN.out), h.2.2.2⟩⟩
     obtain ⟨x, wv, v2, e0, h⟩ := h
     exact ⟨x, wv, v2, e0, ⟨owns_chg h.1 hE (fun q hq hm => by simp only [List.mem_singleton] at hm; have := (h.1.lt q hq).1; have := HBW.out; omega), h.2.1.mono (mask_step hE (by simp)), h.2.2⟩⟩
    ·intro q op hq ho L vs W hqL hcL hW hd ρ hρ
     have hq' := ltc19 hq
     clear hq
     have o9 : ρ (.tmp 9) = .slice va l.length vc := hρ.out 9 rfl
     have o0 : ρ (.tmp 0) = .pointer (some ⟨bd, 0, none⟩) := hρ.out 0 rfl
     have i2 := hρ.i 2 23
     have i1 := hρ.i 1 22
     have i3 := hρ.i 3 24
     have i4 := hρ.i 4 25
     have o5 : ρ (.tmp 5) = .pointer (some ⟨bw, 0, none⟩) := hρ.out 5 rfl
     have o2 : ρ (.tmp 2) = .slice an nn cn := hρ.out 2 rfl
     have i6 := hρ.i 6 27
     have i7 := hρ.i 7 28
     have i8 := hρ.i 8 29
     have o3 : ρ (.tmp 3) = .int .i64 ((d : Int) + 1) := hρ.out 3 rfl
     have i13 := hρ.i 13 34
     have i10 := hρ.i 10 31
     have i11 := hρ.i 11 32
     have i12 := hρ.i 12 33
     have i14 := hρ.i 14 35
     have i5 := hρ.i 5 26
     have i9 := hρ.i 9 30
     have i15 := hρ.i 15 36
     have i16 := hρ.i 16 37
     have i0 := hρ.i 0 21
     have i17 := hρ.i 17 38
     have hc := hρ.const
     have hfn := hρ.func
     clear hρ
     rcases hq' with rfl | rfl | rfl | rfl | rfl | rfl | rfl | rfl | rfl | rfl | rfl | rfl | rfl | rfl | rfl | rfl | rfl | rfl | rfl
     ·have hnq : 18 ∉ L := fun h => absurd (hcL 18 h) (by decide +kernel)
      have HW := hI (show DeckAt w0 W bd /\ Chg [bd] wr W from ⟨hW.1, hW.2.2 hnq⟩)
      clear hW hqL hcL
      have HNQ := hI hnq
      clear hnq
      cases ho
      clear hd
      unfold GivesOp
      go_simp
      exact ⟨Chg.refl _ _, gnl HW.out HW.out.1 (Chg.refl _ _), rfl⟩
     ·have hnq : 18 ∉ L := fun h => absurd (hcL 18 h) (by decide +kernel)
      have HW := hI (show DeckAt w0 W bd /\ Chg [bd] wr W from ⟨hW.1, hW.2.2 hnq⟩)
      clear hW hqL hcL
      have HNQ := hI hnq
      clear hnq
      cases ho
      clear hd
      unfold GivesOp
      go_simp
      exact ⟨((Ext.refl W).alloc _).chg _, gnl HW.out (HW.out.1.ext ((Ext.refl W).alloc _)) (((Ext.refl W).alloc _).chg [bd]), W.heap.size, rfl, alloc_new W _, by have := HW.out.1.lt; omega⟩
     ·have hnq : 18 ∉ L := fun h => absurd (hcL 18 h) (by decide +kernel)
      have HW := hI (show DeckAt w0 W bd /\ Chg [bd] wr W from ⟨hW.1, hW.2.2 hnq⟩)
      clear hW hqL hcL
      have HNQ := hI hnq
      clear hnq
      cases ho
      clear hd
      unfold GivesOp
      go_simp
      exact ⟨Chg.refl _ _, gnl HW.out HW.out.1 (Chg.refl _ _), rfl⟩
     ·have hnq : 18 ∉ L := fun h => absurd (hcL 18 h) (by decide +kernel)
      have HW := hI (show DeckAt w0 W bd /\ Chg [bd] wr W from ⟨hW.1, hW.2.2 hnq⟩)
      clear hW hqL hcL
      have HNQ := hI hnq
      clear hnq
      cases ho
      have h2 : vs 2 = _ := hd ⟨2, .data⟩ (by simp) rfl
      rw [h2] at i2
      clear hd
      unfold GivesOp
      go_simp
      refine (next_calls HW.out.1 3 (by omega) (by omega)).mono ?_
      rintro e5 w5 ⟨z, rfl, hz0, hz1, hd5, hc5⟩
      obtain ⟨r, rfl⟩ : ∃ r : Nat, z = r := ⟨z.toNat, by omega⟩
      exact ⟨_, rfl, hc5, gnl HW.out hd5 hc5, r, rfl, by omega⟩
     ·have hnq : 18 ∉ L := fun h => absurd (hcL 18 h) (by decide +kernel)
      have HW := hI (show DeckAt w0 W bd /\ Chg [bd] wr W from ⟨hW.1, hW.2.2 hnq⟩)
      clear hW hqL hcL
      have HNQ := hI hnq
      clear hnq
      cases ho
      obtain ⟨g, h1, hs1⟩ : ∃ (g : Nat), vs 1 = .slice (some ⟨g, 0, none⟩) 3 3 /\ (W.heap[g]? = some nmsO /\ g ≠ bd) := hd ⟨1, .data⟩ (by simp) rfl
      have HS1 := hI hs1
      clear hs1
      rw [h1] at i1
      obtain ⟨r, h3, hs3⟩ : ∃ (r : Nat), vs 3 = .int .i64 ((r : Nat) : Int) /\ r < 3 := hd ⟨3, .data⟩ (by simp) rfl
      have HS3 := hI hs3
      clear hs3
      rw [h3] at i3
      clear hd
      have b0 : (0 : Int) <= ((r : Nat) : Int) := by omega
      have b1 : ((r : Nat) : Int) < 3 := by have := HS3.out; omega
      unfold GivesOp
      go_simp
      exact ⟨Chg.refl _ _, gnl HW.out HW.out.1 (Chg.refl _ _), g, r, rfl, HS1.out.1, HS1.out.2, HS3.out⟩
     ·have hnq : 18 ∉ L := fun h => absurd (hcL 18 h) (by decide +kernel)
      have HW := hI (show DeckAt w0 W bd /\ Chg [bd] wr W from ⟨hW.1, hW.2.2 hnq⟩)
      clear hW hqL hcL
      have HNQ := hI hnq
      clear hnq
      cases ho
      obtain ⟨g, r, h4, hs4⟩ : ∃ (g : Nat) (r : Nat), vs 4 = .pointer (some ⟨g, r, none⟩) /\ (W.heap[g]? = some nmsO /\ g ≠ bd /\ r < 3) := hd ⟨4, .data⟩ (by simp) rfl
      have HS4 := hI hs4
      clear hs4
      rw [h4] at i4
      clear hd
      obtain ⟨s, hs, hss⟩ := nms_at HS4.out.1 HS4.out.2.2
      unfold GivesOp
      go_simp
      exact ⟨Chg.refl _ _, gnl HW.out HW.out.1 (Chg.refl _ _), s, rfl, hss⟩
     ·have hnq : 18 ∉ L := fun h => absurd (hcL 18 h) (by decide +kernel)
      have HW := hI (show DeckAt w0 W bd /\ Chg [bd] wr W from ⟨hW.1, hW.2.2 hnq⟩)
      clear hW hqL hcL
      have HNQ := hI hnq
      clear hnq
      cases ho
      clear hd
      unfold GivesOp
      go_simp
      exact ⟨Chg.refl _ _, gnl HW.out HW.out.1 (Chg.refl _ _), rfl⟩
     ·have hnq : 18 ∉ L := fun h => absurd (hcL 18 h) (by decide +kernel)
      have HW := hI (show DeckAt w0 W bd /\ Chg [bd] wr W from ⟨hW.1, hW.2.2 hnq⟩)
      clear hW hqL hcL
      have HNQ := hI hnq
      clear hnq
      cases ho
      clear hd
      obtain ⟨g7, gf7⟩ := blk1 (HW.out.2.blk HBX.out (by have := HBW.out; simp; omega))
      unfold GivesOp
      go_simp
      exact ⟨Chg.refl _ _, gnl HW.out HW.out.1 (Chg.refl _ _), rfl⟩
     ·have hnq : 18 ∉ L := fun h => absurd (hcL 18 h) (by decide +kernel)
      have HW := hI (show DeckAt w0 W bd /\ Chg [bd] wr W from ⟨hW.1, hW.2.2 hnq⟩)
      clear hW hqL hcL
      have HNQ := hI hnq
      clear hnq
      cases ho
      clear hd
      unfold GivesOp
      go_simp
      exact ⟨Chg.refl _ _, gnl HW.out HW.out.1 (Chg.refl _ _), rfl⟩
     ·have hnq : 18 ∉ L := fun h => absurd (hcL 18 h) (by decide +kernel)
      have HW := hI (show DeckAt w0 W bd /\ Chg [bd] wr W from ⟨hW.1, hW.2.2 hnq⟩)
      clear hW hqL hcL
      have HNQ := hI hnq
      clear hnq
      cases ho
      have h6 : vs 6 = _ := hd ⟨6, .data⟩ (by simp) rfl
      rw [h6] at i6
      have h7 : vs 7 = _ := hd ⟨7, .data⟩ (by simp) rfl
      rw [h7] at i7
      have h8 : vs 8 = _ := hd ⟨8, .data⟩ (by simp) rfl
      rw [h8] at i8
      clear hd
      unfold GivesOp
      go_simp
      refine (HDX.out W HW.out.1 HW.out.2).mono ?_
      rintro e5 w5 ⟨x, xv, rfl, hm5, hi5, hd5, hc5⟩
      exact ⟨_, rfl, hc5, gnl HW.out hd5 hc5, x, xv, rfl, hm5, hi5⟩
     ·have hnq : 18 ∉ L := fun h => absurd (hcL 18 h) (by decide +kernel)
      have HW := hI (show DeckAt w0 W bd /\ Chg [bd] wr W from ⟨hW.1, hW.2.2 hnq⟩)
      clear hW hqL hcL
      have HNQ := hI hnq
      clear hnq
      cases ho
      clear hd
      unfold GivesOp
      go_simp
      exact ⟨Chg.refl _ _, gnl HW.out HW.out.1 (Chg.refl _ _), rfl⟩
     ·have hnq : 18 ∉ L := fun h => absurd (hcL 18 h) (by decide +kernel)
      have HW := hI (show DeckAt w0 W bd /\ Chg [bd] wr W from ⟨hW.1, hW.2.2 hnq⟩)
      clear hW hqL hcL
      have HNQ := hI hnq
      clear hnq
      cases ho
      clear hd
      obtain ⟨g7, gf7⟩ := blk1 (HW.out.2.blk HBX.out (by have := HBW.out; simp; omega))
      unfold GivesOp
      go_simp
      exact ⟨Chg.refl _ _, gnl HW.out HW.out.1 (Chg.refl _ _), rfl⟩
     ·have hnq : 18 ∉ L := fun h => absurd (hcL 18 h) (by decide +kernel)
      have HW := hI (show DeckAt w0 W bd /\ Chg [bd] wr W from ⟨hW.1, hW.2.2 hnq⟩)
      clear hW hqL hcL
      have HNQ := hI hnq
      clear hnq
      cases ho
      clear hd
      unfold GivesOp
      go_simp
      exact ⟨Chg.refl _ _, gnl HW.out HW.out.1 (Chg.refl _ _), rfl⟩
     ·have hnq : 18 ∉ L := fun h => absurd (hcL 18 h) (by decide +kernel)
      have HW := hI (show DeckAt w0 W bd /\ Chg [bd] wr W from ⟨hW.1, hW.2.2 hnq⟩)
      clear hW hqL hcL
      have HNQ := hI hnq
      clear hnq
      cases ho
      clear hd
      unfold GivesOp
      go_simp
      exact ⟨Chg.refl _ _, gnl HW.out HW.out.1 (Chg.refl _ _), rfl⟩
     ·have hnq : 18 ∉ L := fun h => absurd (hcL 18 h) (by decide +kernel)
      have HW := hI (show DeckAt w0 W bd /\ Chg [bd] wr W from ⟨hW.1, hW.2.2 hnq⟩)
      clear hW hqL hcL
      have HNQ := hI hnq
      clear hnq
      cases ho
      have h13 : vs 13 = _ := hd ⟨13, .data⟩ (by simp) rfl
      rw [h13] at i13
      clear hd
      have hwd : IntKind.i64.wrap ((d : Nat) : Int) = ((d : Nat) : Int) := IntWalk.i64_in _ (by omega)
      unfold GivesOp
      go_simp
      try rw [hwd]
      exact ⟨Chg.refl _ _, gnl HW.out HW.out.1 (Chg.refl _ _), rfl⟩
     ·have hnq : 18 ∉ L := fun h => absurd (hcL 18 h) (by decide +kernel)
      have HW := hI (show DeckAt w0 W bd /\ Chg [bd] wr W from ⟨hW.1, hW.2.2 hnq⟩)
      clear hW hqL hcL
      have HNQ := hI hnq
      clear hnq
      cases ho
      have h10 : vs 10 = _ := hd ⟨10, .data⟩ (by simp) rfl
      rw [h10] at i10
      have h11 : vs 11 = _ := hd ⟨11, .data⟩ (by simp) rfl
      rw [h11] at i11
      have h12 : vs 12 = _ := hd ⟨12, .data⟩ (by simp) rfl
      rw [h12] at i12
      have h14 : vs 14 = _ := hd ⟨14, .data⟩ (by simp) rfl
      rw [h14] at i14
      clear hd
      unfold GivesOp
      go_simp
      refine (HIH.out W HW.out.1 HW.out.2).mono ?_
      rintro e5 w5 ⟨bl, ba, bn, bc, rfl, q1, q2, q3, q4, q5, q6, hd5, hc5⟩
      exact ⟨_, rfl, hc5, gnl HW.out hd5 hc5, bl, ba, bn, bc, rfl, q1, q2, q3, q4, q5, q6⟩
     ·have hnq : 18 ∉ L := fun h => absurd (hcL 18 h) (by decide +kernel)
      have HW := hI (show DeckAt w0 W bd /\ Chg [bd] wr W from ⟨hW.1, hW.2.2 hnq⟩)
      clear hW hqL hcL
      have HNQ := hI hnq
      clear hnq
      cases ho
      obtain ⟨s, h5, hs5⟩ : ∃ (s : BA), vs 5 = .string s /\ nameB s = true := hd ⟨5, .data⟩ (by simp) rfl
      have HS5 := hI hs5
      clear hs5
      rw [h5] at i5
      obtain ⟨x, xv, h9, hs9⟩ : ∃ (x : Ex) (xv : ExV), vs 9 = ExV.val xv /\ (MadeE attrs names 2 x /\ IsEx (mask W N) x (ExV.val xv)) := hd ⟨9, .data⟩ (by simp) rfl
      have HS9 := hI hs9
      clear hs9
      rw [h9] at i9
      obtain ⟨bl, ba, bn, bc, h15, hs15⟩ : ∃ (bl : List Wb) (ba : OA) (bn : Nat) (bc : Nat), vs 15 = .slice ba bn bc /\ (bn = bl.length /\ bn <= bc /\ OkAddr ba bc /\ WbsD (mask W N) bl ba /\ WbM attrs names bl /\ wbN bl <= bndB d) := hd ⟨15, .data⟩ (by simp) rfl
      have HS15 := hI hs15
      clear hs15
      rw [h15] at i15
      clear hd
      unfold ExV.val exV at i9
      unfold GivesOp
      go_simp
      exact ⟨Chg.refl _ _, gnl HW.out HW.out.1 (Chg.refl _ _), .mk s x bl, ⟨s, xv, ba, bn, bc⟩, rfl, ⟨rfl, HS9.out.2, HS15.out.1, HS15.out.2.1, HS15.out.2.2.1, HS15.out.2.2.2.1⟩, HS5.out, HS9.out.1, HS15.out.2.2.2.2.1, HS15.out.2.2.2.2.2⟩
     ·have hnq : 18 ∉ L := fun h => absurd (hcL 18 h) (by decide +kernel)
      have HW := hI (show DeckAt w0 W bd /\ Chg [bd] wr W from ⟨hW.1, hW.2.2 hnq⟩)
      clear hW hqL hcL
      have HNQ := hI hnq
      clear hnq
      cases ho
      obtain ⟨x, wv, h16, hs16⟩ : ∃ (x : Wb) (wv : WbV), vs 16 = .agg #[.string wv.name, .int .i64 wv.x.op, .string wv.x.name, .slice wv.x.aw wv.x.nw wv.x.cw, .int .i64 wv.x.lo, .int .i64 wv.x.hi, .slice wv.x.aa wv.x.na wv.x.ca, .slice wv.au wv.nu wv.cu] /\ (IsWb (mask W N) x wv /\ WbGood attrs names d x) := hd ⟨16, .data⟩ (by simp) rfl
      have HS16 := hI hs16
      clear hs16
      rw [h16] at i16
      clear hd
      unfold GivesOp
      go_simp
      exact ⟨((Ext.refl W).alloc _).chg _, gnl HW.out (HW.out.1.ext ((Ext.refl W).alloc _)) (((Ext.refl W).alloc _).chg [bd]), x, wv, W.heap.size, rfl, alloc_new W _, by have := HW.out.1.lt; omega, HS16.out.1.mono (mask_step (((Ext.refl W).alloc _).chg [bd]) HNN.out), HS16.out.2⟩
     have hnq : 18 ∉ L := hqL
     have HW := hI (show DeckAt w0 W bd /\ Chg [bd] wr W from ⟨hW.1, hW.2.2 hnq⟩)
     clear hW hqL hcL
     have HNQ := hI hnq
     clear hnq
     cases ho
     have h0 : vs 0 = _ := hd ⟨0, .data⟩ (by simp) rfl
     rw [h0] at i0
     obtain ⟨x, wv, g, h17, hs17⟩ : ∃ (x : Wb) (wv : WbV) (g : Nat), vs 17 = .slice (some ⟨g, 0, none⟩) 1 1 /\ (W.heap[g]? = some (.cells wv.cells.toArray 53 (0, 0)) /\ g ≠ bd /\ IsWb (mask W N) x wv /\ WbGood attrs names d x) := hd ⟨17, .data⟩ (by simp) rfl
     have HS17 := hI hs17
     clear hs17
     rw [h17] at i17
     clear hd
     have ho0 := owns_chg HOW.out HW.out.2 (fun q hq hm => by simp only [List.mem_singleton] at hm; have := (HOW.out.lt q hq).1; have := HBW.out; omega)
     refine gives_append elemWb _ _ (bw + 1) _ l.length _ i0 g 1 1 wv.cells i17 rfl (by simp [WbV.cells, Value.oneCell']) (by omega) (by omega) (by omega) ho0 (fun j hj => by rw [blk_cell HS17.out.1]; simp) (by have := HW.out.2.size; have := HSZ.out; omega) ?_
     intro g2 cap w2 ho2 hg2 hw2 hlt2
     have hcg : Chg (rowOf (.slice va l.length vc)) W w2 := grown_chg hg2
     have hcb : Chg (bd :: rowOf (.slice va l.length vc)) W w2 := hcg.weak (fun y hy => List.mem_cons_of_mem _ hy)
     have hbd2 : bd ∉ rowOf (.slice va l.length vc) := fun hm => by have := (HOW.out.lt bd (mem_rowOf.1 hm)).1; have := HBW.out; omega
     have hkeep : Sub (mask W N) (mask w2 (bd :: rowOf (.slice (some ⟨g2, 0, none⟩) (l.length + 1) cap) ++ M)) := HKP.out W w2 _ _ HW.out.2 hcg hw2
     exact ⟨hcb, ⟨HW.out.1.chg hcg hbd2 (fun q hq => by have := (HOW.out.lt q (mem_rowOf.1 hq)).1; have := HB0.out; omega), (HW.out.2.weak (fun y hy => by simp at hy; simp [hy])).then hcb, fun h => absurd (by simp) h⟩, x, wv, _, rfl, ho2, ((HWR.out W HW.out.2).mono hkeep).snoc (HS17.out.2.2.1.mono hkeep), HS17.out.2.2.2⟩
    intro L vs W hLm hW hR
    rw [if_neg (by decide +kernel)]
    obtain ⟨x, wv, v2, h18, hs18⟩ : ∃ (x : Wb) (wv : WbV) (v2 : Value), vs 18 = v2 /\ (W.ownsRow (bw + 1) 53 8 v2 (l.length + 1) (ws.flatMap WbV.cells ++ wv.cells) /\ WbsR (mask W (bd :: rowOf v2 ++ M)) (l ++ [x]) (ws ++ [wv]) /\ WbGood attrs names d x) := hR 18 (by simp) (by omega)
    have HS18 := hI hs18
    clear hs18
    refine wpOp_lastG rfl ?_
    change wpList _ _ _ [⟨some 9, .assign (.tmp 39), _, _, _, none⟩] _ _
    simp only [acts, dstAt, List.range, List.range.loop, List.foldl_cons, List.foldl_nil, h18]
    go_simp
    have hW2 : DeckAt w0 W bd /\ Chg (bd :: rowOf (.slice va l.length vc)) wr W := ⟨hW.1, hW.2.1⟩
    clear hR hW hLm h18
    have HW2 := hI hW2
    obtain ⟨a2, c2, hv2⟩ := owns_formG HS18.out.1
    subst hv2
    obtain ⟨xn, xc, xu⟩ := x
    have HG := hI HS18.out.2.2
    have HC2 := hI (show Chg [bd] w W from HCG.out.trans hW2.2 (fun y hy => by
     rcases List.mem_cons.1 hy with h | h
     ·exact Or.inl (by simp [h])
     have := (HOW.out.lt y (mem_rowOf.1 h)).1
     have := HBE.out
     exact Or.inr (by omega)))
    have HBX2 := hI (hW2.2.blk HBX.out (fun hy => by
     rcases List.mem_cons.1 hy with h | h
     ·have := HBW.out; omega
     have := (HOW.out.lt bw (mem_rowOf.1 h)).1; omega))
    clear hW2
    go_wp2_with fail
    go_roundw
    case rel => exact ⟨l ++ [.mk xn xc xu], ws ++ [wv], q - 1, by go_num, by simp; omega, by omega, by have := HS18.out.1; simpa using this, HS18.out.2.1, WbM.snoc l xn xc xu HWO.out HG.out.1 HG.out.2.1 HG.out.2.2.1, by
     have h1 := HWN.out
     have h2 : wbN xu <= bndB d := HG.out.2.2.2
     rw [wbN_snoc, List.length_append, List.length_singleton, Nat.add_mul, Nat.one_mul]
     omega, HW2.out.1, HC2.out, HBX2.out⟩
    case measure => simp [intOf]; omega
   have t14 : decide (0 < q) = false := decide_eq_false hq
   obtain ⟨a', c', hv, h1, h2, h3⟩ := wbs_owns (M := M) HOW.out (fun k hk hm => by have := (HOW.out.lt k hk).1; have := HM.out k hm; omega) (HWL.out.mono (mask_less _ (fun y hy => by simp [hy])))
   have HV := hI hv
   have H3 := hI h3
   have H2 := hI h2
   clear hv h3 h2
   go_wp2_with fail
   go_ret
   rw [HV.out]
   exact ⟨l, a', _, c', rfl, rfl, h1, H2.out, H3.out, HWO.out, Nat.le_trans HWN.out (by simp only [bndB]; exact Nat.mul_le_mul_right _ (by omega)), HDK.out, HCG.out⟩
end Go.Proofs.YtefjomofjejklaaGreatDoor
