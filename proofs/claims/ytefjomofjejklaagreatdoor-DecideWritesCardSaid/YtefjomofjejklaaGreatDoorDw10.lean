/-
  Texts of the claim, joined: Value, Eval, Holds, DApp, DOf.
-/
import Derived.Test.YtefjomofjejklaaGreatDoorDw09
namespace Go.Proofs.YtefjomofjejklaaGreatDoor
set_option maxRecDepth 100000
set_option maxHeartbeats 32000000
open Go.RowKit Go.Maps
def fvV (lv : Value) : Value := .func (.func 116) #[lv] #[]
def idxI (o : Option Nat) : Int := match o with | some k => k | none => -1
theorem indexF_calls (lv : Value) (args : List Ex) (aa : OA) (na ca : Nat) (P : Ex -> Bool) (w : World) (hna : na = args.length) (hn2 : na <= 1000000) (hx : ExsD w args aa)
  (hc : ∀ (j : Nat) (hj : j < args.length) (xv : Value) (W : World), Ext w W -> IsEx W args[j] xv -> Calls Tryz.prog 116 #[lv, xv] W (GivesE (.bool (P args[j])) W)) :
  Calls Tryz.prog 174 #[.slice aa na ca, fvV lv] w (GivesE (.int .i64 (idxI (args.findIdx? P))) w) := by
 have HX := hI hx
 have HNA := hI hna
 have HC := hI hc
 obtain ⟨R, hR⟩ : ∃ R, R = idxI (args.findIdx? P) := ⟨_, rfl⟩
 rw [<- hR]
 have HR := hI hR
 clear hx hna hc hR
 unfold fvV
 go_enter Tryz.func174, Tryz.ntmps174
 go_wp2_with fail
 go_loopw [8] (fun i wr => ∃ k : Nat, i = .int .i64 k /\ k <= na /\ (∀ j (h : j < args.length), j < k -> P args[j] = false) /\ Ext w wr) (fun i _ => na - (intOf i).toNat)
 case atStart => exact ⟨0, rfl, by omega, fun j _ h => by omega, Ext.refl _⟩
 case round =>
  obtain ⟨k, rfl, hk, hno, hxr⟩ := hrel
  have HNO := hI hno
  have HXR := hI hxr
  clear hno hxr
  by_cases hkn : k < na
  ·have hka : k < args.length := by have := HNA.out; omega
   have t1 : decide ((k : Int) < (na : Int)) = true := decide_eq_true (by omega)
   obtain ⟨b, off, rfl, aw1, nw1, cw1, aa1, na1, ca1, h0, h1, h2, h3, h4, h5, h6⟩ := ExsD.at args _ (ExsD.ext HXR.out args _ HX.out) k hka
   have HAK := hI (HC.out k hka _ wr HXR.out h6)
   obtain ⟨B, hB⟩ : ∃ B, B = P args[k] := ⟨_, rfl⟩
   rw [<- hB] at HAK
   have HBB := hI hB
   unfold exV at HAK
   clear h6 hB
   go_wp2_with fail
   refine HAK.out.mono ?_
   rintro r w3 ⟨rfl, hx3⟩
   have HX3 := hI (HXR.out.trans hx3)
   clear hx3
   cases B
   ·go_wp2_with fail
    go_roundw
    case rel =>
     refine ⟨k + 1, by go_num, by omega, fun j hj hjk => ?_, HX3.out⟩
     by_cases e : j = k
     ·subst e; exact HBB.out.symm
     exact HNO.out j hj (by omega)
    case measure => simp [intOf]; omega
   have HF := hI (show R = (k : Int) by rw [HR.out, find_hit hka HBB.out.symm fun j hj hjk => HNO.out j hj hjk]; rfl)
   go_wp2_with fail
   go_ret
   exact givesE_of (by rw [HF.out]) HX3.out
  have t1 : decide ((k : Int) < (na : Int)) = false := decide_eq_false (by omega)
  have HF := hI (show R = -1 by rw [HR.out, find_miss fun j hj => HNO.out j hj (by have := HNA.out; omega)]; rfl)
  go_wp2_with fail
  go_ret
  exact givesE_of (by rw [HF.out]) HXR.out
theorem containsF_calls (lv : Value) (args : List Ex) (aa : OA) (na ca : Nat) (P : Ex -> Bool) (w : World) (hna : na = args.length) (hn2 : na <= 1000000) (hx : ExsD w args aa)
  (hc : ∀ (j : Nat) (hj : j < args.length) (xv : Value) (W : World), Ext w W -> IsEx W args[j] xv -> Calls Tryz.prog 116 #[lv, xv] W (GivesE (.bool (P args[j])) W)) :
  Calls Tryz.prog 147 #[.slice aa na ca, fvV lv] w (GivesE (.bool (args.any P)) w) := by
 have HI := hI (indexF_calls lv args aa na ca P w hna hn2 hx hc)
 obtain ⟨R, hR⟩ : ∃ R, R = args.any P := ⟨_, rfl⟩
 rw [<- hR]
 have HR := hI hR
 clear hx hna hc hR
 unfold fvV at *
 cases hf : args.findIdx? P with
 | none =>
  rw [hf] at HI
  have HF := hI (show R = false by
   rw [HR.out, List.any_eq_false]
   intro x hx
   rw [List.findIdx?_eq_none_iff] at hf
   simp [hf x hx])
  unfold idxI at HI
  go_enter Tryz.func147, Tryz.ntmps147
  go_wp2_with fail
  refine HI.out.mono ?_
  rintro r w3 ⟨rfl, hx3⟩
  have HX3 := hI hx3
  clear hx3
  go_wp2_with fail
  go_ret
  exact givesE_bool (by rw [HF.out]) HX3.out
 | some k =>
  rw [hf] at HI
  have HF := hI (show R = true by
   rw [HR.out, List.any_eq_true]
   rw [List.findIdx?_eq_some_iff_getElem] at hf
   obtain ⟨hk, h1, _⟩ := hf
   exact ⟨_, List.getElem_mem hk, h1⟩)
  have t1 : decide ((0 : Int) <= (k : Int)) = true := decide_eq_true (by omega)
  unfold idxI at HI
  go_enter Tryz.func147, Tryz.ntmps147
  go_wp2_with fail
  refine HI.out.mono ?_
  rintro r w3 ⟨rfl, hx3⟩
  have HX3 := hI hx3
  clear hx3
  go_wp2_with fail
  go_ret
  exact givesE_bool (by rw [HF.out]) HX3.out
theorem node_kinds {s : List Attr} {l : List Cla} (hc : Chk s l) {e : Ex} (ht : okTree e) (h : nodesErr s l e = 0) : ((e.op ≠ 6 /\ e.op ≠ 7 /\ e.op ≠ 8) /\ (e.op = 3 -> defAt l e.name = none)) \/ (e.op = 3 /\ attrAt s e.name = none /\ ∃ d, defAt l e.name = some d) \/ (e.op = 6 /\ e.args.length = 1) \/ e.op = 7 \/ e.op = 8 := by
 rcases node_ways ht h with h1 | h1 | ⟨h1, i, h2, -⟩ | ⟨h1, h3, d, h2⟩ | ⟨h1, i, h2, h3⟩ | ⟨h1, i, h2, -⟩ | ⟨h1, h2⟩ | h1 | h1
 ·exact Or.inl ⟨by omega, fun h => by omega⟩
 ·exact Or.inl ⟨by omega, fun h => by omega⟩
 ·refine Or.inl ⟨by omega, fun _ => ?_⟩
  cases hd : defAt l e.name with
  | none => rfl
  | some d => rw [hc.apart hd] at h2; cases h2
 ·exact Or.inr (Or.inl ⟨h1, h3, d, h2⟩)
 ·exact Or.inl ⟨by omega, fun h => by omega⟩
 ·exact Or.inl ⟨by omega, fun h => by omega⟩
 ·exact Or.inr (Or.inr (Or.inl ⟨h1, h2⟩))
 ·exact Or.inr (Or.inr (Or.inr (Or.inl h1)))
 exact Or.inr (Or.inr (Or.inr (Or.inr h1)))
def ValA (s : List Attr) (f : ZI) (V : BA -> Option Bool) (args : List Ex) (na : Nat) (w : World) (i : Value) (wr : World) : Prop := ∃ k : Nat, i = .int .i64 k /\ k <= na /\ (∀ j (h : j < args.length), j < k -> valE s f V args[j] = true) /\ Ext w wr
theorem value_calls (s : List Attr) (l : List Cla) (f : ZI) (hc : Chk s l) (hfa : factsAll s f = true) (lv : LossV) (nm : Nat) : ∀ (g m : Nat) (e : Ex) (ev : Value) (w : World), e.size <= m -> m <= 1000000 -> okTree e -> nodesErr s l e = 0 -> expF l g e <= 2000 -> IsLoss w s l f lv nm -> IsEx w e ev ->
  Calls Tryz.prog 116 #[lv.val, ev] w (GivesE (.bool (valF s l f g e)) w) := by
 intro g
 induction g with
 | zero => intro m e ev w _ _ _ _ h; simp [expF] at h
 | succ g ihg =>
  intro m
  induction m with
  | zero => intro e ev w h; have := size_pos e; omega
  | succ m ihm =>
   intro e ev w hm hMM hok hnd hex hl he
   have hways := node_kinds hc hok hnd
   have hfw := fact_ways hok hnd
   obtain ⟨-, hnda⟩ := nodes_parts hnd
   obtain ⟨hokn, hoka⟩ := okTree_parts hok
   have hexa := expE_arg (D := dOf l g) (e := e) (by rw [<- expF_succ]; exact hex)
   have hexh := expE_hd (D := dOf l g) (e := e) (by rw [<- expF_succ]; exact hex)
   have HFC := hI (fun h5 W (hW : Ext w W) => fact_calls s l f lv nm hc.sch hfa e ev W (hl.ext hW) (he.ext hW) hok h5)
   have HDC := hI (fun W (hW : Ext w W) => definition_calls s l f lv nm e ev W (hl.ext hW) (he.ext hW) (by have := (okTree_words hok).2; omega))
   obtain ⟨aw, nw, cw, aa, na, ca, rfl, hw, hna, hca, ha, hx⟩ := he.parts
   have hS : e.size = 1 + sizes e.args := e.size_eq
   have hla := length_le_sizes e.args
   obtain ⟨op, name, words, lo, hi, args⟩ := e
   simp only [Ex.op, Ex.name, Ex.words, Ex.lo, Ex.hi, Ex.args] at *
   have hna2 : na <= 1000000 := by omega
   have hszm : sizes args <= m := by omega
   obtain ⟨R, hR⟩ : ∃ R, R = valF s l f (g + 1) (.mk op name words lo hi args) := ⟨_, rfl⟩
   rw [<- hR]
   obtain ⟨V, hV⟩ : ∃ V, V = (fun x => (defAt l x).map fun d => valF s l f g (l.getD d cla0).cond) := ⟨_, rfl⟩
   have hvf : ∀ e, valF s l f (g + 1) e = valE s f V e := fun e => by rw [hV]; rfl
   rw [hvf, valE] at hR
   have HR := hI hR
   have HX := hI hx
   have HNA := hI hna
   have HARG := hI (fun (j : Nat) (hj : j < args.length) (xv : Value) (W : World) (hW : Ext w W) (hxv : IsEx W args[j] xv) => show Calls Tryz.prog 116 #[lv.val, xv] W (GivesE (.bool (valE s f V args[j])) W) from by
    rw [<- hvf]
    exact ihm args[j] xv W (by have h1 := sizes_take_succ args j hj; have h2 := sizes_take_le args (j + 1); omega) (by omega) (hoka _ (List.getElem_mem hj)) (hnda j hj) (by rw [expF_succ]; exact hexa j hj) (hl.ext hW) hxv)
   have HDEF := hI (fun (h3 : op = 3) (d : Nat) (hd : defAt l name = some d) (xv : Value) (W : World) (hW : Ext w W) (hxv : IsEx W (l.getD d cla0).cond xv) => ihg 300 (l.getD d cla0).cond xv W (hc.cond (defAt_atK hd).1).2.2 (by omega) (hc.cond (defAt_atK hd).1).1 (hc.cond (defAt_atK hd).1).2.1 (hexh h3 (by unfold dOf; rw [hd]; rfl)) (hl.ext hW) hxv)
   have HVV := hI (show ∀ d, defAt l name = some d -> V name = some (valF s l f g (l.getD d cla0).cond) from fun d hd => by rw [hV]; simp only [hd]; rfl)
   have HVN := hI (show defAt l name = none -> V name = none from fun hd => by rw [hV]; simp only [hd]; rfl)
   have HFW := hI hfw
   clear hc hfa hl hx hw hna hca ha hS hla ihg ihm hm hnda hoka hexa hexh hokn hok hnd hex he hR hvf hV hfw
   obtain ⟨sa, sn, sc, bm, fa, fn, fc⟩ := lv
   unfold exV LossV.val at *
   simp only at *
   obtain ⟨wa, hwa⟩ : ∃ wa, wa = (w.alloc (.cells #[.slice sa sn sc, .map (some bm), .slice fa fn fc] 183)).alloc (.cells #[.int .i64 op, .string name, .slice aw nw cw, .int .i64 lo, .int .i64 hi, .slice aa na ca] 45) := ⟨_, rfl⟩
   have hxa : Ext w wa := by rw [hwa]; exact ((Ext.refl _).alloc _).alloc _
   have hb0 : wa.heap[w.heap.size]? = some (.cells #[.slice sa sn sc, .map (some bm), .slice fa fn fc] 183 (0, 0)) := by rw [hwa]; exact blk_alloc (alloc_new w _)
   have hb1 : wa.heap[w.heap.size + 1]? = some (.cells #[.int .i64 op, .string name, .slice aw nw cw, .int .i64 lo, .int .i64 hi, .slice aa na ca] 45 (0, 0)) := by rw [hwa]; exact alloc_atR (by simp)
   have HXA := hI hxa
   have HB0 := hI hb0
   have HB1 := hI hb1
   obtain ⟨f0, f1, f2, f3, f4, f5, ff⟩ := blk6 hb1
   obtain ⟨e0, e1, e2, ef⟩ := blk3 hb0
   have hltw := blk_lt hb1
   clear hxa hb0 hb1
   have hmf : ∀ (fn : Fn) (first cap : Array Value) (w : World), (Instr.makeFunc fn first cap).run Tryz.prog w = .ok (.func fn first cap) w := fun _ _ _ _ => rfl
   rcases hways with ⟨h6, hdn⟩ | ⟨rfl, hat, d, hdf⟩ | ⟨rfl, hl1⟩ | rfl | rfl
   case inr.inr.inl =>
    have hj : 0 < args.length := by omega
    have HQ := hI (show R = !(valE s f V args[0]) by
     rw [HR.out, if_pos rfl, valHd_at, List.getElem?_eq_getElem hj]; rfl)
    have hnp : 0 < na := by have := HNA.out; omega
    obtain ⟨b, off, rfl, aw1, nw1, cw1, aa1, na1, ca1, h0, h1, h2, h3, h4, h5, h6⟩ := ExsD.at args _ (ExsD.ext HXA.out args _ HX.out) 0 hj
    have HA0 := hI (HARG.out 0 hj _ wa HXA.out h6)
    simp only [Nat.zero_mul, Nat.add_zero] at h0 h1 h2 h3 h4 h5
    obtain ⟨B, hB⟩ : ∃ B, B = valE s f V args[0] := ⟨_, rfl⟩
    rw [<- hB] at HQ HA0
    unfold exV at HA0
    clear hl1 hB HARG HDEF h6
    go_enter Tryz.func116, Tryz.ntmps116
    go_upto_region 1 with fail
    rw [<- hwa]
    clear hwa
    go_wp2_with fail
    refine HA0.out.mono ?_
    rintro r w3 ⟨rfl, hx3⟩
    have HX3 := hI (HXA.out.trans hx3)
    clear hx3
    go_wp2_with fail
    go_ret
    exact givesE_bool (by rw [HQ.out]) HX3.out
   -- a fact
   ·have t6 : (op == 6) = false := by simp [h6.1]
    have t7 : (op == 7) = false := by simp [h6.2.1]
    have t8 : (op == 8) = false := by simp [h6.2.2]
    have HQ := hI (show R = factV s f op name words lo hi by
     rw [HR.out, if_neg h6.1, if_neg h6.2.1, if_neg h6.2.2]
     by_cases h3 : op = 3
     ·rw [if_pos h3, HVN.out (hdn h3)]; rfl
     rw [if_neg h3])
    have HFC2 := hI (HFC.out (HFW.out h6 hdn))
    obtain ⟨B, hB⟩ : ∃ B, B = factV s f op name words lo hi := ⟨_, rfl⟩
    rw [<- hB] at HQ HFC2
    have HDN := hI hdn
    clear h6 hdn hB HARG HDEF HFC HFW
    go_enter Tryz.func116, Tryz.ntmps116
    go_upto_region 1 with fail
    rw [<- hwa]
    clear hwa
    go_wp2_with fail
    refine (HDC.out wa HXA.out).mono ?_
    rintro r w3 ⟨hx3, hq⟩
    rcases hq with ⟨h3, d, v, hd, -⟩ | ⟨-, rfl⟩
    ·rw [HDN.out h3] at hd; cases hd
    have HX3 := hI (HXA.out.trans hx3)
    have HB03 := hI (hx3.blk HB0.out)
    have HB13 := hI (hx3.blk HB1.out)
    clear f0 f1 f2 f3 f4 f5 ff e0 e1 e2 ef hltw hx3
    obtain ⟨f0, f1, f2, f3, f4, f5, ff⟩ := blk6 HB13.out
    obtain ⟨e0, e1, e2, ef⟩ := blk3 HB03.out
    have hltw := blk_lt HB13.out
    have hlt0 := blk_lt HB03.out
    unfold exZero
    go_wp2_with fail
    refine (HFC2.out _ (HX3.out.alloc _)).mono ?_
    rintro r w5 ⟨rfl, hx5⟩
    have HX5 := hI ((HX3.out.alloc _).trans hx5)
    clear hx5
    go_wp2_with fail
    go_ret
    exact givesE_bool (by rw [HQ.out]) HX5.out
   -- a definition
   ·have HQ := hI (show R = valF s l f g (l.getD d cla0).cond by
     rw [HR.out, if_neg (by decide), if_neg (by decide), if_neg (by decide), if_pos rfl, HVV.out d hdf]; rfl)
    have HDF := hI (HDEF.out rfl d hdf)
    obtain ⟨B, hB⟩ : ∃ B, B = valF s l f g (l.getD d cla0).cond := ⟨_, rfl⟩
    rw [<- hB] at HQ HDF
    have HDA := hI hdf
    clear hat hdf hB HARG HDEF HFC HFW
    go_enter Tryz.func116, Tryz.ntmps116
    go_upto_region 1 with fail
    rw [<- hwa]
    clear hwa
    go_wp2_with fail
    refine (HDC.out wa HXA.out).mono ?_
    rintro r w3 ⟨hx3, hq⟩
    rcases hq with ⟨-, d', v, hd, rfl, hv⟩ | ⟨hd, -⟩
    case inr =>
     rcases hd with hd | hd
     ·exact absurd rfl hd
     rw [HDA.out] at hd; cases hd
    rw [HDA.out] at hd
    obtain rfl : d = d' := by simpa using hd
    have HX3 := hI (HXA.out.trans hx3)
    have HEX := hI hv
    clear f0 f1 f2 f3 f4 f5 ff e0 e1 e2 ef hltw hx3 hv hd
    have HDG := hI (fun W (hW : Ext w3 W) => HDF.out v.val W (HX3.out.trans hW) (HEX.out.ext hW))
    unfold ExV.val exV at *
    go_wp2_with fail
    refine (HDG.out _ ((Ext.refl w3).alloc _)).mono ?_
    rintro r w5 ⟨rfl, hx5⟩
    have HX5 := hI ((HX3.out.alloc _).trans hx5)
    clear hx5
    go_wp2_with fail
    go_ret
    exact givesE_bool (by rw [HQ.out]) HX5.out
   -- and
   ·have HQ := hI (show R = args.all (valE s f V) by rw [HR.out, if_neg (by decide), if_pos rfl, valAll_iff])
    clear HDEF HFC HFW
    go_enter Tryz.func116, Tryz.ntmps116
    go_upto_region 1 with fail
    rw [<- hwa]
    clear hwa
    go_wp2_with fail
    clear f0 f1 f2 f3 f4 f5 ff e0 e1 e2 ef hltw
    go_loopw [34] (ValA s f V args na w) (fun i _ => na - (intOf i).toNat)
    case atStart => exact ⟨0, rfl, by omega, fun j _ h => by omega, HXA.out⟩
    case round =>
     obtain ⟨k, rfl, hk, hall, hxr⟩ := hrel
     have HALL := hI hall
     have HXR := hI hxr
     clear hall hxr
     by_cases hkn : k < na
     ·have hka : k < args.length := by have := HNA.out; omega
      have t1 : decide ((k : Int) < (na : Int)) = true := decide_eq_true (by omega)
      obtain ⟨b, off, rfl, aw1, nw1, cw1, aa1, na1, ca1, h0, h1, h2, h3, h4, h5, h6⟩ := ExsD.at args _ (ExsD.ext HXR.out args _ HX.out) k hka
      have H6 := hI h6
      have HAK := hI (fun W (hW : Ext wr W) => HARG.out k hka _ W (HXR.out.trans hW) (H6.out.ext hW))
      obtain ⟨B, hB⟩ : ∃ B, B = valE s f V args[k] := ⟨_, rfl⟩
      rw [<- hB] at HAK
      have HBB := hI hB
      unfold exV at HAK
      clear h6 hB
      go_wp2_with fail
      refine (HAK.out _ ((Ext.refl wr).alloc _)).mono ?_
      rintro r w3 ⟨rfl, hx3⟩
      have HX3 := hI ((HXR.out.alloc _).trans hx3)
      clear hx3 h0 h1 h2 h3 h4 h5
      cases B
      ·have HF := hI (show R = false by rw [HQ.out, List.all_eq_false]; exact ⟨_, List.getElem_mem hka, by rw [<- HBB.out]; simp⟩)
       go_wp2_with fail
       go_ret
       exact givesE_bool (by rw [HF.out]) HX3.out
      go_wp2_with fail
      go_roundw
      case rel =>
       refine ⟨k + 1, by go_num, by omega, fun j hj hjk => ?_, HX3.out⟩
       by_cases e : j = k
       ·subst e; exact HBB.out.symm
       exact HALL.out j hj (by omega)
      case measure => simp [intOf]; omega
     have t1 : decide ((k : Int) < (na : Int)) = false := decide_eq_false (by omega)
     have HF := hI (show R = true by
      rw [HQ.out, List.all_eq_true]
      intro x hx
      obtain ⟨j, hj, rfl⟩ := List.getElem_of_mem hx
      exact HALL.out j hj (by have := HNA.out; omega))
     go_wp2_with fail
     go_ret
     exact givesE_bool (by rw [HF.out]) HXR.out
   -- or
   have HQ := hI (show R = args.any (valE s f V) by rw [HR.out, if_neg (by decide), if_neg (by decide), if_pos rfl, valAny_iff])
   have HCF := hI (containsF_calls (.agg #[.slice sa sn sc, .map (some bm), .slice fa fn fc]) args aa na ca (valE s f V) wa HNA.out hna2 (ExsD.ext HXA.out args _ HX.out) fun j hj xv W hW hxv => HARG.out j hj xv W (HXA.out.trans hW) hxv)
   obtain ⟨B, hB⟩ : ∃ B, B = args.any (valE s f V) := ⟨_, rfl⟩
   rw [<- hB] at HQ HCF
   unfold fvV at HCF
   clear HDEF HFC HFW hB
   go_enter Tryz.func116, Tryz.ntmps116
   go_upto_region 1 with fail
   rw [<- hwa]
   clear hwa
   go_wp2_with fail
   refine HCF.out.mono ?_
   rintro r w3 ⟨rfl, hx3⟩
   have HX3 := hI (HXA.out.trans hx3)
   clear hx3
   go_wp2_with fail
   go_ret
   exact givesE_bool (by rw [HQ.out]) HX3.out
structure In11 (w : World) (s : List Attr) (l : List Cla) (e : Ex) (f : ZI) (sv ev : Value) (a : OA) (n c : Nat) (fa : OA) (fn : Nat) : Prop where
 sch : IsSchema w s sv
 sfit : ∀ x ∈ s, x.fits
 slen : s.length <= 1000000000000000
 clas : IsClas w l a n c
 cn : n <= 1000000
 cfit : ∀ x ∈ l, x.fit
 ex : IsEx w e ev
 few : e.few
 fit : e.fits
 slim : e.slim
 ints : IsIntF w f fa fn
 fnl : fn <= 1000000000000000
 ops : HasOps w
theorem In11.ext {w w' : World} {s : List Attr} {l : List Cla} {e : Ex} {f : ZI} {sv ev : Value} {a : OA} {n c : Nat} {fa : OA} {fn : Nat} (h : In11 w s l e f sv ev a n c fa fn) (hx : Ext w w') : In11 w' s l e f sv ev a n c fa fn :=
 ⟨h.sch.ext hx, h.sfit, h.slen, h.clas.ext hx, h.cn, h.cfit, h.ex.ext hx, h.few, h.fit, h.slim, h.ints.ext hx, h.fnl, h.ops.ext hx⟩
theorem In11.checked {w : World} {s : List Attr} {l : List Cla} {e : Ex} {f : ZI} {sv ev : Value} {a : OA} {n c : Nat} {fa : OA} {fn : Nat} (h : In11 w s l e f sv ev a n c fa fn) (fc : Nat) : Calls Tryz.prog 115 #[sv, .slice a n c, ev, .slice fa fn fc] w (CheckedQ s l e f n w) :=
 checked_calls s l e f ev sv a n c fa fn fc w h.sch h.sfit h.slen h.clas h.cn h.cfit h.ex h.few h.fit h.ints h.fnl h.ops
theorem In11.truth {w : World} {s : List Attr} {l : List Cla} {e : Ex} {f : ZI} {sv ev : Value} {a : OA} {n c : Nat} {fa : OA} {fn : Nat} (h : In11 w s l e f sv ev a n c fa fn) (ho : Ok11 s l e f) (fc : Nat) : Calls Tryz.prog 127 #[sv, .slice a n c, ev, .slice fa fn fc] w (GivesE (.bool (val s l f e)) w) :=
 rTruth_calls s l f ho.chk ho.facts h.sfit a n c fa fn fc (l.length + 1) 300 e ev sv w ho.size (by omega) ho.tree ho.node ho.exp h.sch h.clas h.ex h.ints
theorem In11.value {w : World} {s : List Attr} {l : List Cla} {e : Ex} {f : ZI} (ho : Ok11 s l e f) {lv : LossV} {nm : Nat} {ev : Value} (hl : IsLoss w s l f lv nm) (he : IsEx w e ev) : Calls Tryz.prog 116 #[lv.val, ev] w (GivesE (.bool (val s l f e)) w) :=
 value_calls s l f ho.chk ho.facts lv nm (l.length + 1) 300 e ev w ho.size (by omega) ho.tree ho.node ho.exp hl he
open Classical in
noncomputable def evalB (s : List Attr) (l : List Cla) (e : Ex) (f : ZI) : Bool := if evalErr s l e f = 0 then val s l f e else false
noncomputable def evalV (s : List Attr) (l : List Cla) (e : Ex) (f : ZI) : Value := .tuple #[.bool (evalB s l e f), .int .i64 (evalErr s l e f)]
theorem eval_calls (s : List Attr) (l : List Cla) (e : Ex) (f : ZI) (sv ev : Value) (a : OA) (n c : Nat) (fa : OA) (fn fc : Nat) (w : World) (hi : In11 w s l e f sv ev a n c fa fn) :
  Calls Tryz.prog 86 #[sv, .slice a n c, ev, .slice fa fn fc] w (GivesE (evalV s l e f) w) := by
 obtain ⟨sa, sn, sc, rfl, -⟩ := hi.sch.slice
 have HCK := hI (fun W (hW : Ext w W) => (hi.ext hW).checked fc)
 have HEX := hI hi.ex
 obtain ⟨aw, nw, cw, aa, na, ca, rfl, -⟩ := hi.ex.parts
 have HVA := hI (fun (h0 : evalErr s l e f = 0) (lv : LossV) W (hW : Ext w W) (hl : IsLoss W s l f lv n) => In11.value (evalErr_ok h0) hl (hi.ex.ext hW))
 unfold CheckedQ at HCK
 obtain ⟨EV, hEV⟩ : ∃ EV, EV = evalV s l e f := ⟨_, rfl⟩
 rw [<- hEV]
 unfold evalV evalB at hEV
 obtain ⟨E, hE⟩ : ∃ E, E = evalErr s l e f := ⟨_, rfl⟩
 rw [<- hE] at HCK HVA hEV
 obtain ⟨V, hV⟩ : ∃ V, V = val s l f e := ⟨_, rfl⟩
 rw [<- hV] at HVA hEV
 have HE1 := hI (show E ≠ 0 -> EV = .tuple #[.bool false, .int .i64 E] from fun h => by rw [hEV, if_neg h])
 have HE2 := hI (show E = 0 -> EV = .tuple #[.bool V, .int .i64 E] from fun h => by rw [hEV, if_pos h])
 clear hi hE hV hEV
 unfold exV at *
 obtain ⟨wa, hwa⟩ : ∃ wa, wa = (w.alloc (.cells #[.slice sa sn sc] 24)).alloc (.cells #[.int .i64 e.op, .string e.name, .slice aw nw cw, .int .i64 e.lo, .int .i64 e.hi, .slice aa na ca] 45) := ⟨_, rfl⟩
 have hxa : Ext w wa := by rw [hwa]; exact ((Ext.refl _).alloc _).alloc _
 have hb0 : wa.heap[w.heap.size]? = some (.cells #[.slice sa sn sc] 24 (0, 0)) := by rw [hwa]; exact blk_alloc (alloc_new w _)
 have hb1 : wa.heap[w.heap.size + 1]? = some (.cells #[.int .i64 e.op, .string e.name, .slice aw nw cw, .int .i64 e.lo, .int .i64 e.hi, .slice aa na ca] 45 (0, 0)) := by rw [hwa]; exact alloc_atR (by simp)
 have HXA := hI hxa
 have HB1 := hI hb1
 obtain ⟨e0, ef⟩ := blk1 hb0
 obtain ⟨f0, f1, f2, f3, f4, f5, ff⟩ := blk6 hb1
 clear hxa hb0 hb1
 go_enter Tryz.func86, Tryz.ntmps86
 go_upto_region 1 with fail
 rw [<- hwa]
 clear hwa
 go_wp2_with fail
 refine (HCK.out wa HXA.out).mono ?_
 rintro r w1 ⟨hx1, ⟨hz, rfl⟩ | ⟨hz, lv, rfl, hls⟩⟩
 ·have HX1 := hI (HXA.out.trans hx1)
  have t1 : (E != 0) = true := by simp [hz]
  have HZ := hI hz
  clear hx1 hz e0 ef f0 f1 f2 f3 f4 f5 ff HCK HVA
  unfold lossZero
  go_wp2_with fail
  go_ret2
  exact ⟨by rw [HE1.out HZ.out]; rfl, HX1.out.alloc _⟩
 have HX1 := hI (HXA.out.trans hx1)
 have HB11 := hI (hx1.blk HB1.out)
 have HVV := hI (fun W (hW : Ext w1 W) => HVA.out hz lv W (HX1.out.trans hW) (hls.ext hW))
 subst hz
 obtain ⟨la, ln, lc, bm, fa', fn', fc'⟩ := lv
 clear hx1 hls e0 ef f0 f1 f2 f3 f4 f5 ff HCK HVA
 obtain ⟨f0, f1, f2, f3, f4, f5, ff⟩ := blk6 HB11.out
 have hlt1 := blk_lt HB11.out
 unfold LossV.val at *
 go_wp2_with fail
 refine (HVV.out _ ((Ext.refl w1).alloc _)).mono ?_
 rintro r w3 ⟨rfl, hx3⟩
 have HX3 := hI ((HX1.out.alloc _).trans hx3)
 clear hx3
 go_wp2_with fail
 go_ret2
 exact ⟨by rw [HE2.out trivial]; rfl, HX3.out⟩
def Pd (s : List Attr) (l : List Cla) (e : Ex) : Prop := refExprB e = true /\ nodesErr s l e = 0 /\ expanded l e <= 2000 /\ e.few /\ e.fits /\ e.slim
structure DIn (w : World) (s : List Attr) (l : List Cla) (f : ZI) (lo : LossV) (n : Nat) : Prop where
 loss : IsDLoss w s l f lo n
 ok : (clausesErr s l).2 = 0
 facts : factsB s f = true
 sfit : ∀ x ∈ s, x.fits
 cfit : ∀ x ∈ l, x.fit
 fnl : lo.fn <= 1000000000000000
 ops : HasOps w
theorem DIn.ext {w w' : World} {s : List Attr} {l : List Cla} {f : ZI} {lo : LossV} {n : Nat} (h : DIn w s l f lo n) (hx : Ext w w') : DIn w' s l f lo n := ⟨h.loss.ext hx, h.ok, h.facts, h.sfit, h.cfit, h.fnl, h.ops.ext hx⟩
theorem DIn.slen {w : World} {s : List Attr} {l : List Cla} {f : ZI} {lo : LossV} {n : Nat} (h : DIn w s l f lo n) : s.length <= 1000000000000000 := by
 have hs := h.loss.sch.parts
 obtain ⟨_, _, _, e, h1, _⟩ := hs
 have := (schema_attrs (chk_of h.ok).sch).2.1
 omega
theorem DIn.eval {w : World} {s : List Attr} {l : List Cla} {f : ZI} {lo : LossV} {n : Nat} (h : DIn w s l f lo n) {e : Ex} {ev : Value} (he : IsEx w e ev) (hp : Pd s l e) {u : List Cla} {a : OA} {c : Nat} (hu : UsedC l e u) (hc : IsClas w u a u.length c) :
  Calls Tryz.prog 86 #[.agg #[.slice lo.sa lo.sn lo.sc], .slice a u.length c, ev, .slice lo.fa lo.fn lo.fc] w (GivesE (.tuple #[.bool (val s l f e), .int .i64 0]) w) := by
 obtain ⟨p1, p2, p3, p4, p5, p6⟩ := hp
 obtain ⟨q1, q2⟩ := hu.eval h.ok p1 p2 p3 h.facts
 have h1 := eval_calls s u e f _ ev a u.length c lo.fa lo.fn lo.fc w ⟨h.loss.sch, h.sfit, h.slen, hc, by have := hu.1.len; have := (chk_of h.ok).len; omega, fun x hx => h.cfit x (hu.2 x hx), he, p4, p5, p6, h.loss.ints, h.fnl, h.ops⟩
 unfold evalV evalB at h1
 rw [if_pos q1, q1, q2] at h1
 exact h1
theorem holds_calls {s : List Attr} {l : List Cla} {f : ZI} {lo : LossV} {n : Nat} {e : Ex} {ev : Value} (w : World) (h : DIn w s l f lo n) (he : IsEx w e ev) (hp : Pd s l e) :
  Calls Tryz.prog 59 #[lo.val, ev] w (GivesE (.bool (val s l f e)) w) := by
 have hck := chk_of h.ok
 have hsz := (ref_tree hp.1).2
 have HU := hI (fun W (hW : Ext w W) => used_calls s l f e ev lo n W (h.loss.ext hW) (by have := hck.len; omega) (he.ext hW) ⟨by omega, hp.2.2.2.2.1⟩ (fun x hx => ⟨by have := (ref_tree (hck.good x hx).2.2.1).2; omega, (h.cfit x hx).2.1⟩))
 have HE := hI (fun W (hW : Ext w W) (u : List Cla) (a : OA) (c : Nat) (hu : UsedC l e u) (hc : IsClas W u a u.length c) => (h.ext hW).eval (he.ext hW) hp hu hc)
 obtain ⟨aw, nw, cw, aa, na, ca, rfl, -⟩ := he.parts
 obtain ⟨V, hV⟩ : ∃ V, V = val s l f e := ⟨_, rfl⟩
 rw [<- hV] at HE ⊢
 obtain ⟨U, hU⟩ : ∃ U : List Cla -> Prop, U = UsedC l e := ⟨_, rfl⟩
 unfold UsedQ at HU
 have HU2 := hI (fun W (hW : Ext w W) => (HU.out W hW).mono (fun r w' (hq : ∃ u a c, r = .returned (.slice a u.length c) /\ IsClas w' u a u.length c /\ UsedC l e u /\ Ext W w') => by rw [<- hU] at hq; exact hq))
 rw [<- hU] at HE
 clear h he hp hV hck hsz hU HU
 unfold exV LossV.val at *
 obtain ⟨wa, hwa⟩ : ∃ wa, wa = (w.alloc (.cells #[.slice lo.sa lo.sn lo.sc, .map (some lo.bm), .slice lo.fa lo.fn lo.fc] 74)).alloc (.cells #[.int .i64 e.op, .string e.name, .slice aw nw cw, .int .i64 e.lo, .int .i64 e.hi, .slice aa na ca] 45) := ⟨_, rfl⟩
 have HXA := hI (show Ext w wa by rw [hwa]; exact ((Ext.refl _).alloc _).alloc _)
 obtain ⟨x0, x1, x2, xf⟩ := blk3 (show wa.heap[w.heap.size]? = some (.cells #[.slice lo.sa lo.sn lo.sc, .map (some lo.bm), .slice lo.fa lo.fn lo.fc] 74 (0, 0)) by rw [hwa]; exact blk_alloc (alloc_new w _))
 obtain ⟨f0, f1, f2, f3, f4, f5, ff⟩ := blk6 (show wa.heap[w.heap.size + 1]? = some (.cells #[.int .i64 e.op, .string e.name, .slice aw nw cw, .int .i64 e.lo, .int .i64 e.hi, .slice aa na ca] 45 (0, 0)) by rw [hwa]; exact alloc_atR (by simp))
 have C0 := win_cell x0
 have C1 := win_cell x1
 have C2 := win_cell x2
 have D0 := win_cell f0
 have D1 := win_cell f1
 have D2 := win_cell f2
 have D3 := win_cell f3
 have D4 := win_cell f4
 have D5 := win_cell f5
 go_enter Tryz.func59, Tryz.ntmps59
 go_upto_region 1 with fail
 rw [<- hwa]
 clear hwa
 refine chn_ext 14 ?_
 repeat (refine chn_plain ?_; intro K hK; go_big_quiet_op; go_big_quiet_on)
 refine chn_call (γ := List Cla × OA × Nat) (fun x => .slice x.2.1 x.1.length x.2.2) (fun x W => U x.1 /\ IsClas W x.1 x.2.1 x.1.length x.2.2) (fun W hW _ _ => ?_) (fun x W W' hx h => ⟨h.1, h.2.ext hx⟩) ?_ ⟨([], none, 0)⟩
 ·unfold GivesOp
  go_simp
  refine (HU2.out W (HXA.out.trans hW)).mono ?_
  rintro r w1 ⟨u, a, c, rfl, h1, h2, h3⟩
  exact ⟨_, rfl, h3, (u, a, c), rfl, h2, h1⟩
 rintro ⟨u, a, c⟩ K hK
 go_simp; go_big_quiet_on
 repeat (refine chn_plain ?_; intro K hK; go_big_quiet_op; go_big_quiet_on)
 refine chn_known (.tuple #[.bool V, .int .i64 0]) (fun _ => True) (fun W hW hu _ => ?_) (fun _ _ _ h => h) ?_
 ·unfold GivesOp
  go_simp
  refine (HE.out W (HXA.out.trans hW) u a c hu.1 hu.2).mono ?_
  rintro r w1 ⟨rfl, hx1⟩
  exact ⟨_, rfl, hx1, rfl, trivial⟩
 intro K hK
 go_simp; go_big_quiet_on
 repeat (refine chn_plain ?_; intro K hK; go_big_quiet_op; go_big_quiet_on)
 refine chn_nil fun w2 hx2 _ _ => ?_
 have HX2 := hI (HXA.out.trans hx2)
 clear hx2
 go_wp2_with fail
 go_ret
 exact givesE_bool (by simp) HX2.out
theorem writeBackWhen_calls (nm : BA) (x : ExV) (au : OA) (nu cu : Nat) (w : World) : Calls Tryz.prog 230 #[.agg #[.string nm, .int .i64 x.op, .string x.name, .slice x.aw x.nw x.cw, .int .i64 x.lo, .int .i64 x.hi, .slice x.aa x.na x.ca, .slice au nu cu]] w (GivesE (.agg #[.int .i64 x.op, .string x.name, .slice x.aw x.nw x.cw, .int .i64 x.lo, .int .i64 x.hi, .slice x.aa x.na x.ca]) w) := by
 obtain ⟨wa, hwa⟩ : ∃ wa, wa = (w.alloc (.cells #[.string nm, .int .i64 x.op, .string x.name, .slice x.aw x.nw x.cw, .int .i64 x.lo, .int .i64 x.hi, .slice x.aa x.na x.ca, .slice au nu cu] 113)).alloc (.cells #[.int .i64 0, .string ⟨#[]⟩, .slice none 0 0, .int .i64 0, .int .i64 0, .slice none 0 0] 45) := ⟨_, rfl⟩
 have HXA := hI (show Ext w wa by rw [hwa]; exact ((Ext.refl _).alloc _).alloc _)
 obtain ⟨f0, f1, f2, f3, f4, f5, f6, f7, ff⟩ := blk8 (show wa.heap[w.heap.size]? = some (.cells #[.string nm, .int .i64 x.op, .string x.name, .slice x.aw x.nw x.cw, .int .i64 x.lo, .int .i64 x.hi, .slice x.aa x.na x.ca, .slice au nu cu] 113 (0, 0)) by rw [hwa]; exact blk_alloc (alloc_new w _))
 have HR := hI (show wa.heap[w.heap.size + 1]? = some (.cells #[.int .i64 0, .string ⟨#[]⟩, .slice none 0 0, .int .i64 0, .int .i64 0, .slice none 0 0] 45 (0, 0)) by rw [hwa]; exact alloc_atR (by simp))
 obtain ⟨g0, g1, g2, g3, g4, g5, gf⟩ := blk6 HR.out
 go_enter Tryz.func230, Tryz.ntmps230
 go_upto_region 1 with fail
 rw [<- hwa]
 clear hwa
 go_wp2_with fail
 obtain ⟨w8, hw8⟩ : ∃ w8, w8 = put6d wa (w.heap.size + 1) (.int .i64 x.op) (.string x.name) (.slice x.aw x.nw x.cw) (.int .i64 x.lo) (.int .i64 x.hi) (.slice x.aa x.na x.ca) := ⟨_, rfl⟩
 have HX8 := hI (show Ext w w8 by rw [hw8]; exact (put6d_chg _ _).ext HXA.out (by simp))
 have h8 : w8.heap[w.heap.size + 1]? = some (.cells #[.int .i64 x.op, .string x.name, .slice x.aw x.nw x.cw, .int .i64 x.lo, .int .i64 x.hi, .slice x.aa x.na x.ca] 45 (0, 0)) := by rw [hw8]; exact put6d_blk HR.out
 unfold put6d at hw8
 rw [<- hw8]
 clear hw8 g0 g1 g2 g3 g4 g5 gf
 obtain ⟨g0, g1, g2, g3, g4, g5, gf⟩ := blk6 h8
 refine bodyPost_ret (v := .agg #[.int .i64 x.op, .string x.name, .slice x.aw x.nw x.cw, .int .i64 x.lo, .int .i64 x.hi, .slice x.aa x.na x.ca]) (by simp [results, Tryz.results230, go_sem, g0, g1, g2, g3, g4, g5]) rfl ?_
 exact ⟨rfl, HX8.out⟩
theorem writeBackUnless_calls (nm : BA) (x : ExV) (au : OA) (nu cu : Nat) (w : World) : Calls Tryz.prog 229 #[.agg #[.string nm, .int .i64 x.op, .string x.name, .slice x.aw x.nw x.cw, .int .i64 x.lo, .int .i64 x.hi, .slice x.aa x.na x.ca, .slice au nu cu]] w (GivesE (.slice au nu cu) w) := by
 obtain ⟨wa, hwa⟩ : ∃ wa, wa = w.alloc (.cells #[.string nm, .int .i64 x.op, .string x.name, .slice x.aw x.nw x.cw, .int .i64 x.lo, .int .i64 x.hi, .slice x.aa x.na x.ca, .slice au nu cu] 113) := ⟨_, rfl⟩
 have HXA := hI (show Ext w wa by rw [hwa]; exact (Ext.refl _).alloc _)
 obtain ⟨f0, f1, f2, f3, f4, f5, f6, f7, ff⟩ := blk8 (show wa.heap[w.heap.size]? = some (.cells #[.string nm, .int .i64 x.op, .string x.name, .slice x.aw x.nw x.cw, .int .i64 x.lo, .int .i64 x.hi, .slice x.aa x.na x.ca, .slice au nu cu] 113 (0, 0)) by rw [hwa]; exact alloc_new w _)
 go_enter Tryz.func229, Tryz.ntmps229
 go_upto_region 1 with fail
 rw [<- hwa]
 clear hwa
 go_wp2_with fail
 go_ret
 exact ⟨rfl, HXA.out⟩
theorem writeBackWhen_m (n : Nat) (nm : BA) (x : ExV) (au : OA) (nu cu : Nat) (W : World) : (method (n + 1) 113 (.agg #[.string nm, .int .i64 x.op, .string x.name, .slice x.aw x.nw x.cw, .int .i64 x.lo, .int .i64 x.hi, .slice x.aa x.na x.ca, .slice au nu cu]) "treaty/decide.when").run Tryz.prog W = .ok (230, .agg #[.string nm, .int .i64 x.op, .string x.name, .slice x.aw x.nw x.cw, .int .i64 x.lo, .int .i64 x.hi, .slice x.aa x.na x.ca, .slice au nu cu]) W := by kernel_rfl
theorem writeBackUnless_m (n : Nat) (nm : BA) (x : ExV) (au : OA) (nu cu : Nat) (W : World) : (method (n + 1) 113 (.agg #[.string nm, .int .i64 x.op, .string x.name, .slice x.aw x.nw x.cw, .int .i64 x.lo, .int .i64 x.hi, .slice x.aa x.na x.ca, .slice au nu cu]) "treaty/decide.unless").run Tryz.prog W = .ok (229, .agg #[.string nm, .int .i64 x.op, .string x.name, .slice x.aw x.nw x.cw, .int .i64 x.lo, .int .i64 x.hi, .slice x.aa x.na x.ca, .slice au nu cu]) W := by kernel_rfl
theorem clauseWhen_calls (kd : Int) (nm : BA) (x : ExV) (au : OA) (nu cu : Nat) (am : Int) (w : World) : Calls Tryz.prog 227 #[.agg #[.int .i64 kd, .string nm, .int .i64 x.op, .string x.name, .slice x.aw x.nw x.cw, .int .i64 x.lo, .int .i64 x.hi, .slice x.aa x.na x.ca, .slice au nu cu, .int .i64 am]] w (GivesE (.agg #[.int .i64 x.op, .string x.name, .slice x.aw x.nw x.cw, .int .i64 x.lo, .int .i64 x.hi, .slice x.aa x.na x.ca]) w) := by
 obtain ⟨wa, hwa⟩ : ∃ wa, wa = (w.alloc (.cells #[.int .i64 kd, .string nm, .int .i64 x.op, .string x.name, .slice x.aw x.nw x.cw, .int .i64 x.lo, .int .i64 x.hi, .slice x.aa x.na x.ca, .slice au nu cu, .int .i64 am] 81)).alloc (.cells #[.int .i64 0, .string ⟨#[]⟩, .slice none 0 0, .int .i64 0, .int .i64 0, .slice none 0 0] 45) := ⟨_, rfl⟩
 have HXA := hI (show Ext w wa by rw [hwa]; exact ((Ext.refl _).alloc _).alloc _)
 obtain ⟨f0, f1, f2, f3, f4, f5, f6, f7, f8, f9, ff⟩ := blk10r (show wa.heap[w.heap.size]? = some (.cells #[.int .i64 kd, .string nm, .int .i64 x.op, .string x.name, .slice x.aw x.nw x.cw, .int .i64 x.lo, .int .i64 x.hi, .slice x.aa x.na x.ca, .slice au nu cu, .int .i64 am] 81 (0, 0)) by rw [hwa]; exact blk_alloc (alloc_new w _))
 have HR := hI (show wa.heap[w.heap.size + 1]? = some (.cells #[.int .i64 0, .string ⟨#[]⟩, .slice none 0 0, .int .i64 0, .int .i64 0, .slice none 0 0] 45 (0, 0)) by rw [hwa]; exact alloc_atR (by simp))
 obtain ⟨g0, g1, g2, g3, g4, g5, gf⟩ := blk6 HR.out
 go_enter Tryz.func227, Tryz.ntmps227
 go_upto_region 1 with fail
 rw [<- hwa]
 clear hwa
 go_wp2_with fail
 obtain ⟨w8, hw8⟩ : ∃ w8, w8 = put6d wa (w.heap.size + 1) (.int .i64 x.op) (.string x.name) (.slice x.aw x.nw x.cw) (.int .i64 x.lo) (.int .i64 x.hi) (.slice x.aa x.na x.ca) := ⟨_, rfl⟩
 have HX8 := hI (show Ext w w8 by rw [hw8]; exact (put6d_chg _ _).ext HXA.out (by simp))
 have h8 : w8.heap[w.heap.size + 1]? = some (.cells #[.int .i64 x.op, .string x.name, .slice x.aw x.nw x.cw, .int .i64 x.lo, .int .i64 x.hi, .slice x.aa x.na x.ca] 45 (0, 0)) := by rw [hw8]; exact put6d_blk HR.out
 unfold put6d at hw8
 rw [<- hw8]
 clear hw8 g0 g1 g2 g3 g4 g5 gf
 obtain ⟨g0, g1, g2, g3, g4, g5, gf⟩ := blk6 h8
 refine bodyPost_ret (v := .agg #[.int .i64 x.op, .string x.name, .slice x.aw x.nw x.cw, .int .i64 x.lo, .int .i64 x.hi, .slice x.aa x.na x.ca]) (by simp [results, Tryz.results227, go_sem, g0, g1, g2, g3, g4, g5]) rfl ?_
 exact ⟨rfl, HX8.out⟩
theorem clauseUnless_calls (kd : Int) (nm : BA) (x : ExV) (au : OA) (nu cu : Nat) (am : Int) (w : World) : Calls Tryz.prog 226 #[.agg #[.int .i64 kd, .string nm, .int .i64 x.op, .string x.name, .slice x.aw x.nw x.cw, .int .i64 x.lo, .int .i64 x.hi, .slice x.aa x.na x.ca, .slice au nu cu, .int .i64 am]] w (GivesE (.slice au nu cu) w) := by
 obtain ⟨wa, hwa⟩ : ∃ wa, wa = w.alloc (.cells #[.int .i64 kd, .string nm, .int .i64 x.op, .string x.name, .slice x.aw x.nw x.cw, .int .i64 x.lo, .int .i64 x.hi, .slice x.aa x.na x.ca, .slice au nu cu, .int .i64 am] 81) := ⟨_, rfl⟩
 have HXA := hI (show Ext w wa by rw [hwa]; exact (Ext.refl _).alloc _)
 obtain ⟨f0, f1, f2, f3, f4, f5, f6, f7, f8, f9, ff⟩ := blk10r (show wa.heap[w.heap.size]? = some (.cells #[.int .i64 kd, .string nm, .int .i64 x.op, .string x.name, .slice x.aw x.nw x.cw, .int .i64 x.lo, .int .i64 x.hi, .slice x.aa x.na x.ca, .slice au nu cu, .int .i64 am] 81 (0, 0)) by rw [hwa]; exact alloc_new w _)
 go_enter Tryz.func226, Tryz.ntmps226
 go_upto_region 1 with fail
 rw [<- hwa]
 clear hwa
 go_wp2_with fail
 go_ret
 exact ⟨rfl, HXA.out⟩
theorem clauseWhen_m (n : Nat) (kd : Int) (nm : BA) (x : ExV) (au : OA) (nu cu : Nat) (am : Int) (W : World) : (method (n + 1) 81 (.agg #[.int .i64 kd, .string nm, .int .i64 x.op, .string x.name, .slice x.aw x.nw x.cw, .int .i64 x.lo, .int .i64 x.hi, .slice x.aa x.na x.ca, .slice au nu cu, .int .i64 am]) "treaty/decide.when").run Tryz.prog W = .ok (227, .agg #[.int .i64 kd, .string nm, .int .i64 x.op, .string x.name, .slice x.aw x.nw x.cw, .int .i64 x.lo, .int .i64 x.hi, .slice x.aa x.na x.ca, .slice au nu cu, .int .i64 am]) W := by kernel_rfl
theorem clauseUnless_m (n : Nat) (kd : Int) (nm : BA) (x : ExV) (au : OA) (nu cu : Nat) (am : Int) (W : World) : (method (n + 1) 81 (.agg #[.int .i64 kd, .string nm, .int .i64 x.op, .string x.name, .slice x.aw x.nw x.cw, .int .i64 x.lo, .int .i64 x.hi, .slice x.aa x.na x.ca, .slice au nu cu, .int .i64 am]) "treaty/decide.unless").run Tryz.prog W = .ok (226, .agg #[.int .i64 kd, .string nm, .int .i64 x.op, .string x.name, .slice x.aw x.nw x.cw, .int .i64 x.lo, .int .i64 x.hi, .slice x.aa x.na x.ca, .slice au nu cu, .int .i64 am]) W := by kernel_rfl
theorem dback_calls {s : List Attr} {l : List Cla} {f : ZI} {lo : LossV} {n : Nat} : ∀ (m : Nat) (cond : Ex) (u : List Wb) (nm : BA) (x : ExV) (au : OA) (nu cu : Nat) (w : World), wbN u <= m -> DIn w s l f lo n -> Pd s l cond -> wbsOkT (Pd s l) u -> nu <= 1000000000000000 -> nu = u.length -> IsEx w cond x.val -> WbsD w u au ->
  Calls Tryz.prog 33 #[lo.val, .iface 113 (.agg #[.string nm, .int .i64 x.op, .string x.name, .slice x.aw x.nw x.cw, .int .i64 x.lo, .int .i64 x.hi, .slice x.aa x.na x.ca, .slice au nu cu])] w (GivesE (.bool (val s l f cond && !wbsV (val s l f) u)) w) := by
 intro m
 induction m using Nat.strongRecOn with
 | _ m ih =>
  intro cond u nm x au nu cu w hm h hp hok hnu hlen hex hd
  have HH := hI (fun (W : World) (hW : Ext w W) => holds_calls W (h.ext hW) (hex.ext hW) hp)
  have HIH := hI (fun (k : Nat) (hk : k < u.length) (v : WbV) (W : World) (hW : Ext w W) (hvx : IsEx W u[k].cond v.x.val) (hvn : v.nu = u[k].unl.length) (hvd : WbsD W u[k].unl v.au) => ih (wbN u[k].unl) (by have := wbN_at u k hk; omega) u[k].cond u[k].unl v.name v.x v.au v.nu v.cu W (Nat.le_refl _) (h.ext hW) (wbsOkT_at u hok k hk).1 (wbsOkT_at u hok k hk).2.1 (by have := (wbsOkT_at u hok k hk).2.2; omega) hvn hvx hvd)
  have HD := hI hd
  have HLEN := hI hlen
  obtain ⟨T, hT⟩ : ∃ T, T = val s l f cond := ⟨_, rfl⟩
  rw [<- hT] at HH ⊢
  clear ih hm h hp hok hlen hex hd hT
  have HW := hI (fun W => writeBackWhen_calls nm x au nu cu W)
  have HUN := hI (fun W => writeBackUnless_calls nm x au nu cu W)
  have hm1 := fun (n : Nat) (W : World) => writeBackWhen_m n nm x au nu cu W
  have hm2 := fun (n : Nat) (W : World) => writeBackUnless_m n nm x au nu cu W
  unfold ExV.val exV LossV.val at HH
  unfold LossV.val at HIH ⊢
  obtain ⟨wa, hwa⟩ : ∃ wa, wa = w.alloc (.cells #[.slice lo.sa lo.sn lo.sc, .map (some lo.bm), .slice lo.fa lo.fn lo.fc] 74) := ⟨_, rfl⟩
  have HXA := hI (show Ext w wa by rw [hwa]; exact (Ext.refl _).alloc _)
  have HA := hI (show wa.heap[w.heap.size]? = some (.cells #[.slice lo.sa lo.sn lo.sc, .map (some lo.bm), .slice lo.fa lo.fn lo.fc] 74 (0, 0)) by rw [hwa]; exact alloc_new w _)
  obtain ⟨x0, x1, x2, xf⟩ := blk3 HA.out
  have C0 := win_cell x0
  have C1 := win_cell x1
  have C2 := win_cell x2
  go_enter Tryz.func33, Tryz.ntmps33
  go_upto_region 1 with fail
  rw [<- hwa]
  clear hwa
  refine chn_ext 5 ?_
  repeat (refine chn_plain ?_; intro K hK; go_big_quiet_op; go_big_quiet_on)
  refine chn_ge (fun W hW => HW.out W) ?_
  intro K hK; go_simp; go_big_quiet_on
  refine chn_ge (fun W hW => HH.out W (HXA.out.trans hW)) ?_
  intro K hK; go_simp; go_big_quiet_on
  repeat (refine chn_plain ?_; intro K hK; go_big_quiet_op; go_big_quiet_on)
  refine chn_nil fun w1 hx1 _ _ => ?_
  have HX1 := hI (HXA.out.trans hx1)
  have HB := hI (hx1.blk HA.out)
  clear hx1 x0 x1 x2 xf C0 C1 C2 HA HXA HH HW
  cases T
  ·go_wp2_with fail
   go_ret
   exact givesE_bool (by simp) HX1.out
  go_wp2_with fail
  refine (HUN.out w1).mono ?_
  rintro r w2 ⟨rfl, hx2⟩
  have HX2 := hI (HX1.out.trans hx2)
  have HB2 := hI (hx2.blk HB.out)
  clear hx2 HB HX1 HUN hm1 hm2
  go_wp2_with fail
  go_loopw [15] (BkI (val s l f) u nu w2) (fun i _ => nu - (intOf i).toNat)
  case atStart => exact ⟨0, rfl, Nat.zero_le _, rfl, Ext.refl _⟩
  case round =>
   obtain ⟨k, rfl, hk, hv, hx⟩ := hrel
   have HV := hI hv
   have HX := hI (HX2.out.trans hx)
   have HX0 := hI hx
   have HB3 := hI (hx.blk HB2.out)
   clear hv hx
   by_cases hkn : k < nu
   ·have hkl : k < u.length := by have := HLEN.out; omega
    have t1 : decide ((k : Int) < (nu : Int)) = true := decide_eq_true (by omega)
    obtain ⟨b, off, rfl, v, hvn, hrow, hvx, hvu, -, -, hvd⟩ := WbsD.at u _ (WbsD.mono HX.out.sub u _ HD.out) k hkl
    obtain ⟨c0, c1, c2, c3, c4, c5, c6, c7⟩ := hrow.eight
    have HREC := hI (fun W (hW : Ext wr W) => HIH.out k hkl v W (HX.out.trans hW) (hvx.ext hW) hvu (WbsD.mono hW.sub _ _ hvd))
    have HST := hI (wbsV_drop (val s l f) hkl)
    obtain ⟨Q, hQ⟩ : ∃ Q, Q = (val s l f u[k].cond && !wbsV (val s l f) u[k].unl) := ⟨_, rfl⟩
    rw [<- hQ] at HREC HST
    clear hvn hrow hvx hvu hvd hQ HIH
    obtain ⟨x0, x1, x2, xf⟩ := blk3 HB3.out
    obtain ⟨wb, hwb⟩ : ∃ wb, wb = wr.alloc (.cells #[.string v.name, .int .i64 v.x.op, .string v.x.name, .slice v.x.aw v.x.nw v.x.cw, .int .i64 v.x.lo, .int .i64 v.x.hi, .slice v.x.aa v.x.na v.x.ca, .slice v.au v.nu v.cu] 53) := ⟨_, rfl⟩
    have HXB := hI (show Ext wr wb by rw [hwb]; exact (Ext.refl _).alloc _)
    have hb8 : wb.heap[wr.heap.size]? = some (.cells #[.string v.name, .int .i64 v.x.op, .string v.x.name, .slice v.x.aw v.x.nw v.x.cw, .int .i64 v.x.lo, .int .i64 v.x.hi, .slice v.x.aa v.x.na v.x.ca, .slice v.au v.nu v.cu] 53 (0, 0)) := by rw [hwb]; exact alloc_new wr _
    go_upto_region 6 with fail
    rw [<- hwb]
    clear hwb x0 x1 x2 xf
    obtain ⟨x0, x1, x2, xf⟩ := blk3 (HXB.out.blk HB3.out)
    obtain ⟨f0, f1, f2, f3, f4, f5, f6, f7, ff⟩ := blk8 hb8
    clear hb8
    go_wp2_with fail
    refine (HREC.out wb HXB.out).mono ?_
    rintro r w5 ⟨rfl, hx5⟩
    have HX5 := hI (HXB.out.trans hx5)
    clear hx5 f0 f1 f2 f3 f4 f5 f6 f7 ff x0 x1 x2 xf c0 c1 c2 c3 c4 c5 c6 c7
    cases Q
    ·go_wp2_with fail
     go_roundw
     case rel => exact ⟨k + 1, by go_num, by omega, by rw [HV.out, HST.out]; rfl, HX0.out.trans HX5.out⟩
     case measure => simp [intOf]; omega
    have HQ := hI (show wbsV (val s l f) u = true by rw [HV.out, HST.out]; rfl)
    go_wp2_with fail
    go_ret
    exact givesE_bool (by rw [HQ.out]; rfl) (HX.out.trans HX5.out)
   have t1 : decide ((k : Int) < (nu : Int)) = false := decide_eq_false (by omega)
   have HQ := hI (show wbsV (val s l f) u = false by
    rw [HV.out, show k = u.length by have := HLEN.out; omega, List.drop_length, wbsV])
   go_wp2_with fail
   go_ret
   exact givesE_bool (by rw [HQ.out]; rfl) HX.out
theorem dclause_calls {s : List Attr} {l : List Cla} {f : ZI} {lo : LossV} {n : Nat} (cond : Ex) (u : List Wb) (kd : Int) (nm : BA) (x : ExV) (au : OA) (nu cu : Nat) (am : Int) (w : World) (h : DIn w s l f lo n) (hp : Pd s l cond) (hok : wbsOkT (Pd s l) u) (hnu : nu <= 1000000000000000) (hlen : nu = u.length) (hex : IsEx w cond x.val) (hd : WbsD w u au) :
  Calls Tryz.prog 33 #[lo.val, .iface 81 (.agg #[.int .i64 kd, .string nm, .int .i64 x.op, .string x.name, .slice x.aw x.nw x.cw, .int .i64 x.lo, .int .i64 x.hi, .slice x.aa x.na x.ca, .slice au nu cu, .int .i64 am])] w (GivesE (.bool (val s l f cond && !wbsV (val s l f) u)) w) := by
 have HH := hI (fun (W : World) (hW : Ext w W) => holds_calls W (h.ext hW) (hex.ext hW) hp)
 have HIH := hI (fun (k : Nat) (hk : k < u.length) (v : WbV) (W : World) (hW : Ext w W) (hvx : IsEx W u[k].cond v.x.val) (hvn : v.nu = u[k].unl.length) (hvd : WbsD W u[k].unl v.au) => dback_calls (wbN u[k].unl) u[k].cond u[k].unl v.name v.x v.au v.nu v.cu W (Nat.le_refl _) (h.ext hW) (wbsOkT_at u hok k hk).1 (wbsOkT_at u hok k hk).2.1 (by have := (wbsOkT_at u hok k hk).2.2; omega) hvn hvx hvd)
 have HD := hI hd
 have HLEN := hI hlen
 obtain ⟨T, hT⟩ : ∃ T, T = val s l f cond := ⟨_, rfl⟩
 rw [<- hT] at HH ⊢
 clear h hp hok hlen hex hd hT
 have HW := hI (fun W => clauseWhen_calls kd nm x au nu cu am W)
 have HUN := hI (fun W => clauseUnless_calls kd nm x au nu cu am W)
 have hm1 := fun (n : Nat) (W : World) => clauseWhen_m n kd nm x au nu cu am W
 have hm2 := fun (n : Nat) (W : World) => clauseUnless_m n kd nm x au nu cu am W
 unfold ExV.val exV LossV.val at HH
 unfold LossV.val at HIH ⊢
 obtain ⟨wa, hwa⟩ : ∃ wa, wa = w.alloc (.cells #[.slice lo.sa lo.sn lo.sc, .map (some lo.bm), .slice lo.fa lo.fn lo.fc] 74) := ⟨_, rfl⟩
 have HXA := hI (show Ext w wa by rw [hwa]; exact (Ext.refl _).alloc _)
 have HA := hI (show wa.heap[w.heap.size]? = some (.cells #[.slice lo.sa lo.sn lo.sc, .map (some lo.bm), .slice lo.fa lo.fn lo.fc] 74 (0, 0)) by rw [hwa]; exact alloc_new w _)
 obtain ⟨x0, x1, x2, xf⟩ := blk3 HA.out
 have C0 := win_cell x0
 have C1 := win_cell x1
 have C2 := win_cell x2
 go_enter Tryz.func33, Tryz.ntmps33
 go_upto_region 1 with fail
 rw [<- hwa]
 clear hwa
 refine chn_ext 5 ?_
 repeat (refine chn_plain ?_; intro K hK; go_big_quiet_op; go_big_quiet_on)
 refine chn_ge (fun W hW => HW.out W) ?_
 intro K hK; go_simp; go_big_quiet_on
 refine chn_ge (fun W hW => HH.out W (HXA.out.trans hW)) ?_
 intro K hK; go_simp; go_big_quiet_on
 repeat (refine chn_plain ?_; intro K hK; go_big_quiet_op; go_big_quiet_on)
 refine chn_nil fun w1 hx1 _ _ => ?_
 have HX1 := hI (HXA.out.trans hx1)
 have HB := hI (hx1.blk HA.out)
 clear hx1 x0 x1 x2 xf C0 C1 C2 HA HXA HH HW
 cases T
 ·go_wp2_with fail
  go_ret
  exact givesE_bool (by simp) HX1.out
 go_wp2_with fail
 refine (HUN.out w1).mono ?_
 rintro r w2 ⟨rfl, hx2⟩
 have HX2 := hI (HX1.out.trans hx2)
 have HB2 := hI (hx2.blk HB.out)
 clear hx2 HB HX1 HUN hm1 hm2
 go_wp2_with fail
 go_loopw [15] (BkI (val s l f) u nu w2) (fun i _ => nu - (intOf i).toNat)
 case atStart => exact ⟨0, rfl, Nat.zero_le _, rfl, Ext.refl _⟩
 case round =>
  obtain ⟨k, rfl, hk, hv, hx⟩ := hrel
  have HV := hI hv
  have HX := hI (HX2.out.trans hx)
  have HX0 := hI hx
  have HB3 := hI (hx.blk HB2.out)
  clear hv hx
  by_cases hkn : k < nu
  ·have hkl : k < u.length := by have := HLEN.out; omega
   have t1 : decide ((k : Int) < (nu : Int)) = true := decide_eq_true (by omega)
   obtain ⟨b, off, rfl, v, hvn, hrow, hvx, hvu, -, -, hvd⟩ := WbsD.at u _ (WbsD.mono HX.out.sub u _ HD.out) k hkl
   obtain ⟨c0, c1, c2, c3, c4, c5, c6, c7⟩ := hrow.eight
   have HREC := hI (fun W (hW : Ext wr W) => HIH.out k hkl v W (HX.out.trans hW) (hvx.ext hW) hvu (WbsD.mono hW.sub _ _ hvd))
   have HST := hI (wbsV_drop (val s l f) hkl)
   obtain ⟨Q, hQ⟩ : ∃ Q, Q = (val s l f u[k].cond && !wbsV (val s l f) u[k].unl) := ⟨_, rfl⟩
   rw [<- hQ] at HREC HST
   clear hvn hrow hvx hvu hvd hQ HIH
   obtain ⟨x0, x1, x2, xf⟩ := blk3 HB3.out
   obtain ⟨wb, hwb⟩ : ∃ wb, wb = wr.alloc (.cells #[.string v.name, .int .i64 v.x.op, .string v.x.name, .slice v.x.aw v.x.nw v.x.cw, .int .i64 v.x.lo, .int .i64 v.x.hi, .slice v.x.aa v.x.na v.x.ca, .slice v.au v.nu v.cu] 53) := ⟨_, rfl⟩
   have HXB := hI (show Ext wr wb by rw [hwb]; exact (Ext.refl _).alloc _)
   have hb8 : wb.heap[wr.heap.size]? = some (.cells #[.string v.name, .int .i64 v.x.op, .string v.x.name, .slice v.x.aw v.x.nw v.x.cw, .int .i64 v.x.lo, .int .i64 v.x.hi, .slice v.x.aa v.x.na v.x.ca, .slice v.au v.nu v.cu] 53 (0, 0)) := by rw [hwb]; exact alloc_new wr _
   go_upto_region 6 with fail
   rw [<- hwb]
   clear hwb x0 x1 x2 xf
   obtain ⟨x0, x1, x2, xf⟩ := blk3 (HXB.out.blk HB3.out)
   obtain ⟨f0, f1, f2, f3, f4, f5, f6, f7, ff⟩ := blk8 hb8
   clear hb8
   go_wp2_with fail
   refine (HREC.out wb HXB.out).mono ?_
   rintro r w5 ⟨rfl, hx5⟩
   have HX5 := hI (HXB.out.trans hx5)
   clear hx5 f0 f1 f2 f3 f4 f5 f6 f7 ff x0 x1 x2 xf c0 c1 c2 c3 c4 c5 c6 c7
   cases Q
   ·go_wp2_with fail
    go_roundw
    case rel => exact ⟨k + 1, by go_num, by omega, by rw [HV.out, HST.out]; rfl, HX0.out.trans HX5.out⟩
    case measure => simp [intOf]; omega
   have HQ := hI (show wbsV (val s l f) u = true by rw [HV.out, HST.out]; rfl)
   go_wp2_with fail
   go_ret
   exact givesE_bool (by rw [HQ.out]; rfl) (HX.out.trans HX5.out)
  have t1 : decide ((k : Int) < (nu : Int)) = false := decide_eq_false (by omega)
  have HQ := hI (show wbsV (val s l f) u = false by
   rw [HV.out, show k = u.length by have := HLEN.out; omega, List.drop_length, wbsV])
  go_wp2_with fail
  go_ret
  exact givesE_bool (by rw [HQ.out]; rfl) HX.out
def posI (l : ZI) (x : Int) : Int := match l.findIdx? (fun y => y == x) with | some i => i | none => -1
theorem posI_hit {l : ZI} {x : Int} {k : Nat} (hk : k < l.length) (h1 : ∀ j (hj : j < l.length), j < k -> (l[j] == x) = false) (h2 : (l[k] == x) = true) : posI l x = k := by
 unfold posI
 rw [show l.findIdx? (fun y => y == x) = some k from by
  rw [List.findIdx?_eq_some_iff_getElem]
  exact ⟨hk, h2, fun j hj => by simpa using h1 j (by omega) hj⟩]
theorem posI_miss {l : ZI} {x : Int} (h1 : ∀ j (hj : j < l.length), (l[j] == x) = false) : posI l x = -1 := by
 unfold posI
 rw [show l.findIdx? (fun y => y == x) = none from by
  rw [List.findIdx?_eq_none_iff]
  intro y hy
  obtain ⟨j, hj, rfl⟩ := List.getElem_of_mem hy
  exact h1 j hj]
theorem posI_any (l : ZI) (x : Int) : decide (0 <= posI l x) = l.any (· == x) := by
 unfold posI
 cases h : l.findIdx? (fun y => y == x) with
 | none =>
  rw [List.findIdx?_eq_none_iff] at h
  have : l.any (· == x) = false := by
   rw [List.any_eq_false]
   intro y hy
   simpa using h y hy
  rw [this]
  rfl
 | some i =>
  rw [List.findIdx?_eq_some_iff_getElem] at h
  obtain ⟨hi, h2, _⟩ := h
  have : l.any (· == x) = true := List.any_eq_true.2 ⟨_, List.getElem_mem hi, h2⟩
  rw [this]
  simp
theorem indexI_calls (l : ZI) (x : Int) (a : OA) (n c : Nat) (w : World) (hn : n <= 1000000000000000) (hl : IsIntF w l a n) :
  Calls Tryz.prog 114 #[.slice a n c, .int .i64 x] w (Gives (.int .i64 (posI l x)) w) := by
 have HL := hI hl
 have HNL := hI hl.1
 obtain ⟨R, hR⟩ : ∃ R, R = posI l x := ⟨_, rfl⟩
 rw [<- hR]
 have HR := hI hR
 clear hl hR
 go_enter Tryz.func114, Tryz.ntmps114
 go_wp2_with fail
 go_loop [8] (fun t => ∃ k : Nat, t = .int .i64 k /\ k <= n /\ ∀ j (hj : j < l.length), j < k -> (l[j] == x) = false) (fun t => n - (intOf t).toNat)
 case atStart => exact ⟨0, rfl, by omega, fun _ _ h => by omega⟩
 case round =>
  obtain ⟨k, rfl, hk, hne⟩ := hrel
  have HE := hI hne
  clear hne
  by_cases hlt : k < n
  ·have hlt' : k < l.length := by have := HNL.out; omega
   have t1 : decide ((k : Int) < (n : Int)) = true := decide_eq_true (by omega)
   obtain ⟨b, off, rfl, hcell⟩ := HL.out.2 k hlt'
   obtain ⟨q, hq⟩ : ∃ q, q = l[k] := ⟨_, rfl⟩
   rw [<- hq] at hcell
   have HQ := hI hq
   clear hq
   cases hx : (x == q)
   ·go_wp2_with fail
    go_round
    case rel =>
     refine ⟨k + 1, by go_num, by omega, ?_⟩
     intro j hj hj2
     by_cases hjk : j < k
     ·exact HE.out j hj hjk
     obtain rfl : j = k := by omega
     rw [<- HQ.out]
     rw [beq_eq_false_iff_ne] at hx ⊢
     exact fun e => hx e.symm
    case measure => simp [intOf]; omega
   have HH := hI (show R = (k : Int) by rw [HR.out]; exact posI_hit hlt' HE.out (by rw [<- HQ.out]; rw [beq_iff_eq] at hx ⊢; exact hx.symm))
   go_wp2_with fail
   go_ret
   exact gives_int HH.out.symm
  have t1 : decide ((k : Int) < (n : Int)) = false := decide_eq_false (by omega)
  have HH := hI (show R = -1 by rw [HR.out]; exact posI_miss (fun j hj => HE.out j hj (by have := HNL.out; omega)))
  go_wp2_with fail
  go_ret
  exact gives_int HH.out.symm
theorem containsI_calls (l : ZI) (x : Int) (a : OA) (n c : Nat) (w : World) (hn : n <= 1000000000000000) (hl : IsIntF w l a n) :
  Calls Tryz.prog 85 #[.slice a n c, .int .i64 x] w (Gives (.bool (l.any (· == x))) w) := by
 have HC := hI (indexI_calls l x a n c w hn hl)
 rw [<- posI_any]
 obtain ⟨R, hR⟩ : ∃ R, R = posI l x := ⟨_, rfl⟩
 rw [<- hR] at HC ⊢
 clear hR hl
 go_enter Tryz.func85, Tryz.ntmps85
 go_wp2_with fail
 refine HC.out.mono ?_
 rintro e w' ⟨rfl, rfl⟩
 go_wp2_with fail
 go_ret
 exact gives_bool rfl
def ofB (ks : ZI) (l : List Cla) : List Cla := l.filter fun x => ks.any (· == x.kind)
theorem ofB_take (ks : ZI) {l : List Cla} {k : Nat} (hk : k < l.length) : ofB ks (l.take (k + 1)) = if ks.any (· == l[k].kind) = true then ofB ks (l.take k) ++ [l[k]] else ofB ks (l.take k) := by
 unfold ofB
 rw [List.take_succ_eq_append_getElem hk, List.filter_append, List.filter_cons]
 cases ks.any (· == l[k].kind) <;> simp
theorem ofB_len (ks : ZI) (l : List Cla) : (ofB ks l).length <= l.length := List.length_filter_le _ _
def OfQ (ks : ZI) (l : List Cla) (w : World) (r : Ending) (w' : World) : Prop := ∃ u a c, u = ofB ks l /\ r = .returned (.slice a u.length c) /\ IsClas w' u a u.length c /\ Ext w w'
theorem of_calls (l : List Cla) (ks : ZI) (a : OA) (n c : Nat) (ka : OA) (kn kc : Nat) (w : World) (hl : IsClas w l a n c) (hn : n <= 1000000) (hk : IsIntF w ks ka kn) (hkn : kn <= 100) :
  Calls Tryz.prog 58 #[.slice a n c, .slice ka kn kc] w (OfQ ks l w) := by
 have HCT := hI (fun (x : Int) W (hW : Ext w W) => containsI_calls ks x ka kn kc W (by omega) (hk.ext hW))
 have HL := hI hl
 have HN := hI hl.len
 clear hl hk
 go_enter Tryz.func58, Tryz.ntmps58
 go_wp2_with fail
 go_loopw [5, 10] (fun lv i wr => ∃ (k : Nat) (vs : List ClV) (u : List Cla), i = .int .i64 k /\ k <= n /\ u = ofB ks (l.take k) /\ u.length <= k /\ ClasR w u vs /\ wr.ownsRow w.heap.size 48 10 lv u.length (vs.flatMap ClV.cells) /\ Ext w wr) (fun _ i _ => n - (intOf i).toNat)
 case atStart => exact ⟨0, [], [], rfl, by omega, rfl, by simp, ⟨rfl, fun i h => by simp at h⟩, World.ownsRow_nil _ _ _ _, Ext.refl _⟩
 case round =>
  obtain ⟨k, vs, u, rfl, hkn2, hu, hul, hcr, hown, hx⟩ := hrel
  obtain ⟨la, lc, hlv⟩ := owns_form hown
  subst hlv
  have HU := hI hu
  have HCR := hI hcr
  have HOWN := hI hown
  have HX := hI hx
  clear hu hcr hown hx
  by_cases hlt : k < n
  ·have hkl : k < l.length := by have := HN.out; omega
   have t1 : decide ((k : Int) < (n : Int)) = true := decide_eq_true (by omega)
   obtain ⟨cb, coff, v, rfl, hcla, hrow⟩ := HL.out.at hkl
   obtain ⟨c0, c1, c2, c3, c4, c5, c6, c7, c8, c9⟩ := (hrow.mono HX.out.sub).ten
   have HCL := hI hcla
   obtain ⟨B, hB⟩ : ∃ B, B = ks.any (· == v.kind) := ⟨_, rfl⟩
   have HST := hI (show ofB ks (l.take (k + 1)) = if B = true then u ++ [l[k]] else u by rw [ofB_take ks hkl, hB, hcla.1, HU.out])
   have HCX := hI (fun W (hW : Ext w W) => HCT.out v.kind W hW)
   rw [<- hB] at HCX
   clear hcla hrow hB
   obtain ⟨wb, hwb⟩ : ∃ wb, wb = wr.alloc (.cells #[.int .i64 v.kind, .string v.name, .int .i64 v.x.op, .string v.x.name, .slice v.x.aw v.x.nw v.x.cw, .int .i64 v.x.lo, .int .i64 v.x.hi, .slice v.x.aa v.x.na v.x.ca, .slice v.au v.nu v.cu, .int .i64 v.amount] 48) := ⟨_, rfl⟩
   have HXB := hI (show Ext wr wb by rw [hwb]; exact (Ext.refl _).alloc _)
   have hb := (show wb.heap[wr.heap.size]? = some (.cells #[.int .i64 v.kind, .string v.name, .int .i64 v.x.op, .string v.x.name, .slice v.x.aw v.x.nw v.x.cw, .int .i64 v.x.lo, .int .i64 v.x.hi, .slice v.x.aa v.x.na v.x.ca, .slice v.au v.nu v.cu, .int .i64 v.amount] 48 (0, 0)) by rw [hwb]; exact alloc_new wr _)
   have hsb : w.heap.size <= wb.heap.size := Nat.le_trans HX.out.size HXB.out.size
   obtain ⟨f0, f1, f2, f3, f4, f5, f6, f7, f8, f9, ff⟩ := blk10 hb
   go_upto_region 5 with fail
   rw [<- hwb]
   clear hwb hb c0 c1 c2 c3 c4 c5 c6 c7 c8 c9
   go_wp2_with fail
   refine (HCX.out wb (HX.out.trans HXB.out)).mono ?_
   rintro e w' ⟨rfl, rfl⟩
   cases B
   case false =>
    go_wp2_with fail
    go_roundw
    case rel => exact ⟨k + 1, vs, u, by go_num, by omega, by rw [HST.out]; rfl, by omega, HCR.out, owns_chg HOWN.out (HXB.out.chg []) (by simp), HX.out.trans HXB.out⟩
    case measure => simp [intOf]; omega
   case true =>
    have HO3 := hI (owns_chg HOWN.out (HXB.out.chg []) (by simp))
    go_wp2_with (at_builtin; refine wpList_append_at elemCla rfl _ _ rfl w.heap.size _ u.length _ rfl HO3.out _ 1 1 rfl ?f0 rfl ?f1 ?f2 ?f3 ?f4 ?_)
    case f0 => simp
    case f1 => simp [Value.oneCell']
    case f2 => unfold maxLen; omega
    case f3 => omega
    case f4 => omega
    intro v8 w8 hown8 hc8 hw8
    have HO8 := hI hown8
    have HX8 := hI (hc8.ext (HX.out.trans HXB.out) fun q hq => (HO3.out.lt q (mem_rowOf.1 hq)).1)
    clear hown8 hc8 hw8 f0 f1 f2 f3 f4 f5 f6 f7 f8 f9 ff
    go_wp2_with fail
    go_roundw
    case rel => exact ⟨k + 1, vs ++ [v], u ++ [l[k]], by go_num, by omega, by rw [HST.out]; rfl, by simp; omega, HCR.out.snoc HCL.out, by simpa [ClV.cells] using HO8.out, HX8.out⟩
    case measure => simp [intOf]; omega
  have t1 : decide ((k : Int) < (n : Int)) = false := decide_eq_false (by omega)
  have HQ := hI (show u = ofB ks l by rw [HU.out, List.take_of_length_le (by have := HN.out; omega)])
  have hcl := clas_owns (M := []) HOWN.out (by simp) (HCR.out.mono (HX.out.sub.trans (to_mask_nil _)))
  obtain ⟨a', c', hv, hcl⟩ := hcl
  simp only [Value.slice.injEq, true_and] at hv
  obtain ⟨rfl, rfl⟩ := hv
  have HCL := hI (hcl.mono (mask_sub _ _))
  clear hcl
  go_wp2_with fail
  go_ret
  exact ⟨u, _, _, HQ.out, rfl, HCL.out, HX.out⟩
theorem isIntF_new {W : World} {ks : ZI} {vs : Array Value} {t : TypeId} (hv : vs.toList = ks.map (fun x => Value.int .i64 x)) : IsIntF (W.alloc (.cells vs t)) ks (some ⟨W.heap.size, 0, none⟩) ks.length := by
 refine ⟨rfl, fun i hi => ⟨W.heap.size, 0, rfl, ?_⟩⟩
 rw [Nat.zero_add, blk_cell (alloc_new W (.cells vs t)) i]
 have : vs[i]? = vs.toList[i]? := by simp
 rw [this, hv]
 simp [hi]
theorem dCovers_calls (l : List Cla) (a : OA) (n c : Nat) (w : World) (hl : IsClas w l a n c) (hn : n <= 1000000) :
  Calls Tryz.prog 29 #[.slice a n c] w (OfQ [2] l w) := by
 have HX := hI ((Ext.refl w).alloc (.cells #[.int .i64 2] 3))
 have HOF := hI (of_calls l [2] a n c (some ⟨w.heap.size, 0, none⟩) 1 1 (w.alloc (.cells #[.int .i64 2] 3)) (hl.ext HX.out) hn (isIntF_new rfl) (by omega))
 clear hl
 go_enter Tryz.func29, Tryz.ntmps29
 go_wp2_with fail
 refine HOF.out.mono ?_
 rintro r w1 ⟨u, a', c', hu, rfl, h1, h2⟩
 have HQ := hI (show OfQ [2] l w (.returned (.slice a' u.length c')) w1 from ⟨u, a', c', hu, rfl, h1, HX.out.trans h2⟩)
 clear hu h1 h2
 go_wp2_with fail
 go_ret
 exact HQ.out
theorem dConditions_calls (l : List Cla) (a : OA) (n c : Nat) (w : World) (hl : IsClas w l a n c) (hn : n <= 1000000) :
  Calls Tryz.prog 30 #[.slice a n c] w (OfQ [4] l w) := by
 have HX := hI ((Ext.refl w).alloc (.cells #[.int .i64 4] 3))
 have HOF := hI (of_calls l [4] a n c (some ⟨w.heap.size, 0, none⟩) 1 1 (w.alloc (.cells #[.int .i64 4] 3)) (hl.ext HX.out) hn (isIntF_new rfl) (by omega))
 clear hl
 go_enter Tryz.func30, Tryz.ntmps30
 go_wp2_with fail
 refine HOF.out.mono ?_
 rintro r w1 ⟨u, a', c', hu, rfl, h1, h2⟩
 have HQ := hI (show OfQ [4] l w (.returned (.slice a' u.length c')) w1 from ⟨u, a', c', hu, rfl, h1, HX.out.trans h2⟩)
 clear hu h1 h2
 go_wp2_with fail
 go_ret
 exact HQ.out
theorem dExclusions_calls (l : List Cla) (a : OA) (n c : Nat) (w : World) (hl : IsClas w l a n c) (hn : n <= 1000000) :
  Calls Tryz.prog 31 #[.slice a n c] w (OfQ [3] l w) := by
 have HX := hI ((Ext.refl w).alloc (.cells #[.int .i64 3] 3))
 have HOF := hI (of_calls l [3] a n c (some ⟨w.heap.size, 0, none⟩) 1 1 (w.alloc (.cells #[.int .i64 3] 3)) (hl.ext HX.out) hn (isIntF_new rfl) (by omega))
 clear hl
 go_enter Tryz.func31, Tryz.ntmps31
 go_wp2_with fail
 refine HOF.out.mono ?_
 rintro r w1 ⟨u, a', c', hu, rfl, h1, h2⟩
 have HQ := hI (show OfQ [3] l w (.returned (.slice a' u.length c')) w1 from ⟨u, a', c', hu, rfl, h1, HX.out.trans h2⟩)
 clear hu h1 h2
 go_wp2_with fail
 go_ret
 exact HQ.out
theorem dTerms_calls (l : List Cla) (a : OA) (n c : Nat) (w : World) (hl : IsClas w l a n c) (hn : n <= 1000000) :
  Calls Tryz.prog 32 #[.slice a n c] w (OfQ [5, 6, 7, 8, 9] l w) := by
 have HX := hI ((Ext.refl w).alloc (.cells #[.int .i64 5, .int .i64 6, .int .i64 7, .int .i64 8, .int .i64 9] 3))
 have HOF := hI (of_calls l [5, 6, 7, 8, 9] a n c (some ⟨w.heap.size, 0, none⟩) 5 5 (w.alloc (.cells #[.int .i64 5, .int .i64 6, .int .i64 7, .int .i64 8, .int .i64 9] 3)) (hl.ext HX.out) hn (isIntF_new rfl) (by omega))
 clear hl
 go_enter Tryz.func32, Tryz.ntmps32
 go_wp2_with fail
 refine HOF.out.mono ?_
 rintro r w1 ⟨u, a', c', hu, rfl, h1, h2⟩
 have HQ := hI (show OfQ [5, 6, 7, 8, 9] l w (.returned (.slice a' u.length c')) w1 from ⟨u, a', c', hu, rfl, h1, HX.out.trans h2⟩)
 clear hu h1 h2
 go_wp2_with fail
 go_ret
 exact HQ.out
def PdC (s : List Attr) (l : List Cla) (x : Cla) : Prop := Pd s l x.cond /\ wbsOkT (Pd s l) x.unl /\ x.unl.length <= 1000000000000000
theorem dany_calls {s : List Attr} {l : List Cla} {f : ZI} {lo : LossV} {m : Nat} (L : List Cla) (a : OA) (n c : Nat) (B : Bool) (w : World) (h : DIn w s l f lo m) (hl : IsClas w L a n c) (hn : n <= 1000000) (hp : ∀ x ∈ L, PdC s l x) :
  Calls Tryz.prog 28 #[lo.val, .slice a n c, .bool B] w (GivesE (.bool (L.any fun x => claV (val s l f) x == B)) w) := by
 have HAP := hI (fun (k : Nat) (hk : k < L.length) (v : ClV) (W : World) (hW : Ext w W) (hc : IsCla W L[k] v) => dclause_calls L[k].cond L[k].unl v.kind v.name v.x v.au v.nu v.cu v.amount W (h.ext hW) (hp _ (List.getElem_mem hk)).1 (hp _ (List.getElem_mem hk)).2.1 (by rw [hc.2.2.2.1]; exact (hp _ (List.getElem_mem hk)).2.2) hc.2.2.2.1 hc.2.2.1 hc.2.2.2.2.2.2.1)
 have HL := hI hl
 have HN := hI hl.len
 clear h hl hp
 obtain ⟨R, hR⟩ : ∃ R, R = L.any fun x => claV (val s l f) x == B := ⟨_, rfl⟩
 rw [<- hR]
 have HR := hI hR
 clear hR
 unfold LossV.val at *
 obtain ⟨wa, hwa⟩ : ∃ wa, wa = w.alloc (.cells #[.slice lo.sa lo.sn lo.sc, .map (some lo.bm), .slice lo.fa lo.fn lo.fc] 74) := ⟨_, rfl⟩
 have HXA := hI (show Ext w wa by rw [hwa]; exact (Ext.refl _).alloc _)
 have HA := hI (show wa.heap[w.heap.size]? = some (.cells #[.slice lo.sa lo.sn lo.sc, .map (some lo.bm), .slice lo.fa lo.fn lo.fc] 74 (0, 0)) by rw [hwa]; exact alloc_new w _)
 go_enter Tryz.func28, Tryz.ntmps28
 go_upto_region 1 with fail
 rw [<- hwa]
 clear hwa
 go_wp2_with fail
 go_loopw [11] (fun i wr => ∃ k : Nat, i = .int .i64 k /\ k <= n /\ (∀ j (hj : j < L.length), j < k -> (claV (val s l f) L[j] == B) = false) /\ Ext wa wr) (fun i _ => n - (intOf i).toNat)
 case atStart => exact ⟨0, rfl, Nat.zero_le _, fun _ _ h => by omega, Ext.refl _⟩
 case round =>
  obtain ⟨k, rfl, hk, hne, hx⟩ := hrel
  have HE := hI hne
  have HX := hI hx
  clear hne hx
  by_cases hlt : k < n
  ·have hkl : k < L.length := by have := HN.out; omega
   have t1 : decide ((k : Int) < (n : Int)) = true := decide_eq_true (by omega)
   obtain ⟨cb, coff, v, rfl, hcla, hrow⟩ := HL.out.at hkl
   obtain ⟨c0, c1, c2, c3, c4, c5, c6, c7, c8, c9⟩ := (hrow.mono (HXA.out.trans HX.out).sub).ten
   have HREC := hI (fun W (hW : Ext w W) => HAP.out k hkl v W hW (hcla.mono hW.sub))
   obtain ⟨Q, hQ⟩ : ∃ Q, Q = claV (val s l f) L[k] := ⟨_, rfl⟩
   rw [show (val s l f L[k].cond && !wbsV (val s l f) L[k].unl) = Q from hQ.symm] at HREC
   have HQ := hI hQ
   obtain ⟨wb, hwb⟩ : ∃ wb, wb = wr.alloc (.cells #[.int .i64 v.kind, .string v.name, .int .i64 v.x.op, .string v.x.name, .slice v.x.aw v.x.nw v.x.cw, .int .i64 v.x.lo, .int .i64 v.x.hi, .slice v.x.aa v.x.na v.x.ca, .slice v.au v.nu v.cu, .int .i64 v.amount] 48) := ⟨_, rfl⟩
   have HXB := hI (show Ext wr wb by rw [hwb]; exact (Ext.refl _).alloc _)
   have hb := (show wb.heap[wr.heap.size]? = some (.cells #[.int .i64 v.kind, .string v.name, .int .i64 v.x.op, .string v.x.name, .slice v.x.aw v.x.nw v.x.cw, .int .i64 v.x.lo, .int .i64 v.x.hi, .slice v.x.aa v.x.na v.x.ca, .slice v.au v.nu v.cu, .int .i64 v.amount] 48 (0, 0)) by rw [hwb]; exact alloc_new wr _)
   obtain ⟨x0, x1, x2, xf⟩ := blk3 (HXB.out.blk (HX.out.blk HA.out))
   obtain ⟨f0, f1, f2, f3, f4, f5, f6, f7, f8, f9, ff⟩ := blk10 hb
   go_upto_region 4 with fail
   rw [<- hwb]
   clear hwb hb c0 c1 c2 c3 c4 c5 c6 c7 c8 c9 hcla hrow hQ
   go_wp2_with fail
   refine (HREC.out wb ((HXA.out.trans HX.out).trans HXB.out)).mono ?_
   rintro e w5 ⟨rfl, hx5⟩
   have HX5 := hI ((HX.out.trans HXB.out).trans hx5)
   clear hx5 f0 f1 f2 f3 f4 f5 f6 f7 f8 f9 ff x0 x1 x2 xf
   cases hqb : (Q == B)
   ·go_wp2_with fail
    go_roundw
    case rel =>
     refine ⟨k + 1, by go_num, by omega, ?_, HX5.out⟩
     intro j hj hj2
     by_cases hjk : j < k
     ·exact HE.out j hj hjk
     obtain rfl : j = k := by omega
     rw [<- HQ.out]; exact hqb
    case measure => simp [intOf]; omega
   have HH := hI (show R = true by rw [HR.out]; exact List.any_eq_true.2 ⟨_, List.getElem_mem hkl, by rw [<- HQ.out]; exact hqb⟩)
   go_wp2_with fail
   go_ret
   exact givesE_bool HH.out.symm (HXA.out.trans HX5.out)
  have t1 : decide ((k : Int) < (n : Int)) = false := decide_eq_false (by omega)
  have HH := hI (show R = false by
   rw [HR.out, List.any_eq_false]
   intro x hx
   obtain ⟨j, hj, rfl⟩ := List.getElem_of_mem hx
   rw [HE.out j hj (by have := HN.out; omega)]; simp)
  go_wp2_with fail
  go_ret
  exact givesE_bool HH.out.symm (HXA.out.trans HX.out)
end Go.Proofs.YtefjomofjejklaaGreatDoor
