/-
  Texts of the claim, joined: RWrd, DFacts, RChg, RInF.
-/
import Derived.Test.YtpkljcgihobaiaaGreatEf12
namespace Go.Proofs.YtpkljcgihobaiaaGreat
set_option maxRecDepth 100000
set_option maxHeartbeats 32000000
open Go.RowKit
theorem rPeriod_calls (f t : Int) (w : World) : Calls Tryz.prog 113 #[.agg #[.int .i64 f, .int .i64 t]] w (GivesE (.bool (periodB f t)) w) := by
 obtain ⟨R, hR⟩ : ∃ R, R = periodB f t := ⟨_, rfl⟩
 rw [<- hR]
 have HR := hI (show R = (decide (0 <= f) && decide (f < t) && decide (t <= 876600)) from hR)
 clear hR
 go_enter Tryz.func113, Tryz.ntmps113
 go_wp2_with fail
 all_goals (go_ret; exact givesE_b (by rw [HR.out]; simp_all <;> omega) (((Ext.refl w).alloc _)))
theorem rContains_calls (f t h : Int) (w : World) : Calls Tryz.prog 72 #[.agg #[.int .i64 f, .int .i64 t], .int .i64 h] w (GivesE (.bool (containsB f t h)) w) := by
 obtain ⟨R, hR⟩ : ∃ R, R = containsB f t h := ⟨_, rfl⟩
 rw [<- hR]
 have HR := hI (show R = (periodB f t && decide (f <= h) && decide (h < t)) from hR)
 clear hR
 obtain ⟨wa, hwa⟩ : ∃ wa, wa = w.alloc (.cells #[.int .i64 f, .int .i64 t] 113) := ⟨_, rfl⟩
 have HXA := hI (show Ext w wa by rw [hwa]; exact (Ext.refl _).alloc _)
 have HBA := hI (show wa.heap[w.heap.size]? = some (.cells #[.int .i64 f, .int .i64 t] 113 (0, 0)) by rw [hwa]; exact alloc_new w _)
 obtain ⟨c0, c1, cf⟩ := blk2 HBA.out
 go_enter Tryz.func72, Tryz.ntmps72
 go_upto_region 1 with fail
 rw [<- hwa]
 clear hwa
 go_wp2_with fail
 refine (rPeriod_calls f t wa).mono ?_
 rintro r w1 ⟨rfl, hx1⟩
 have HX1 := hI (HXA.out.trans hx1)
 have HB1 := hI (hx1.blk HBA.out)
 clear hx1 c0 c1 cf
 obtain ⟨c0, c1, cf⟩ := blk2 HB1.out
 generalize periodB f t = P at *
 cases P
 ·go_wp2_with fail
  all_goals (go_ret; exact givesE_b (by rw [HR.out]; rfl) HX1.out)
 go_wp2_with fail
 all_goals (go_ret; exact givesE_b (by rw [HR.out]; simp_all <;> omega) HX1.out)
theorem rHours_calls (h : Int) (w : World) : Calls Tryz.prog 35 #[.int .i64 h] w (GivesE (.bool (hoursB h)) w) := by
 obtain ⟨R, hR⟩ : ∃ R, R = hoursB h := ⟨_, rfl⟩
 rw [<- hR]
 have HR := hI (show R = (decide (0 <= h) && decide (h <= 876599)) from hR)
 clear hR
 go_enter Tryz.func35, Tryz.ntmps35
 go_wp2_with fail
 all_goals (go_ret; exact givesE_b (by rw [HR.out]; simp_all <;> omega) (Ext.refl w))
theorem rclauses_calls (l : List Cla) (a : OA) (n c : Nat) (w : World) (hl : IsClas w l a n c) (hok : fitClas l) :
  Calls Tryz.prog 112 #[.slice a n c] w (GivesE (.bool (clsB l)) w) := by
 have HL := hI hl
 have HN := hI hl.len
 have HOK := hI hok.2
 have hn : n <= 1000000000000000 := by have := hl.len; have := hok.1; omega
 obtain ⟨R, hR⟩ : ∃ R, R = clsB l := ⟨_, rfl⟩
 rw [<- hR]
 have HR := hI (show R = (decide (l.length <= 40) && l.all clauseB) from hR)
 clear hl hok hR
 by_cases h40 : 40 < n
 ·have t0 : decide ((40 : Int) < (n : Int)) = true := decide_eq_true (by omega)
  have HF := hI (show R = false by rw [HR.out, decide_eq_false (by have := HN.out; omega)]; rfl)
  go_enter Tryz.func112, Tryz.ntmps112
  go_wp2_with fail
  go_ret
  exact givesE_b (by rw [HF.out]) (Ext.refl _)
 have t0 : decide ((40 : Int) < (n : Int)) = false := decide_eq_false (by omega)
 have HR2 := hI (show R = l.all clauseB by rw [HR.out, decide_eq_true (by have := HN.out; omega)]; rfl)
 clear HR
 go_enter Tryz.func112, Tryz.ntmps112
 go_wp2_with fail
 go_loopw [3] (fun t wr => ∃ k : Nat, t = .int .i64 k /\ k <= n /\ (∀ j (h : j < l.length), j < k -> clauseB l[j] = true) /\ Ext w wr) (fun t _ => n - (intOf t).toNat)
 case atStart => exact ⟨0, rfl, by omega, fun j _ h => by omega, Ext.refl _⟩
 case round =>
  obtain ⟨k, rfl, hk, hall, hxr⟩ := hrel
  have HALL := hI hall
  have HXR := hI hxr
  clear hall hxr
  by_cases hkn : k < n
  ·have hkl : k < l.length := by have := HN.out; omega
   have t1 : decide ((k : Int) < (n : Int)) = true := decide_eq_true (by omega)
   obtain ⟨b, off, v, rfl, hcla, hrow⟩ := (HL.out.ext HXR.out).at hkl
   obtain ⟨c0, c1, c2, c3, c4, c5, c6, c7, c8, c9⟩ := hrow.ten
   have HC := hI (fun (W : World) (hW : Ext wr W) => rclause_fit l[k] v W (hcla.mono hW.sub) (HOK.out _ (List.getElem_mem hkl)))
   clear hcla hrow
   cases hcb : clauseB l[k]
   ·have HCB := hI hcb
    have HF := hI (show R = false by
     rw [HR2.out, List.all_eq_false]
     exact ⟨l[k], List.getElem_mem hkl, by rw [hcb]; simp⟩)
    clear hcb
    go_wp2_with fail
    refine (HC.out _ (Ext.refl wr)).mono ?_
    rintro r w3 ⟨rfl, hx3⟩
    rw [HCB.out]
    have HX3 := hI (HXR.out.trans hx3)
    clear hx3 c0 c1 c2 c3 c4 c5 c6 c7 c8 c9
    go_wp2_with fail
    go_ret
    exact givesE_b (by rw [HF.out]) HX3.out
   have HCB := hI hcb
   clear hcb
   go_wp2_with fail
   refine (HC.out _ (Ext.refl wr)).mono ?_
   rintro r w3 ⟨rfl, hx3⟩
   rw [HCB.out]
   have HX3 := hI (HXR.out.trans hx3)
   clear hx3 c0 c1 c2 c3 c4 c5 c6 c7 c8 c9
   go_wp2_with fail
   go_roundw
   case rel =>
    refine ⟨k + 1, by go_num, by omega, fun j hj hjk => ?_, HX3.out⟩
    by_cases e : j = k
    ·subst e; exact HCB.out
    exact HALL.out j hj (by omega)
   case measure => simp [intOf]; omega
  have t1 : decide ((k : Int) < (n : Int)) = false := decide_eq_false (by omega)
  have HF := hI (show R = true by
   rw [HR2.out, List.all_eq_true]
   intro y hy
   obtain ⟨j, hj, rfl⟩ := List.mem_iff_getElem.1 hy
   exact HALL.out j hj (by have := HN.out; omega))
  go_wp2_with fail
  go_ret
  exact givesE_b (by rw [HF.out]) HXR.out
theorem edm_bad {l : List Edm} {k : Nat} (hk : k < l.length) (h : edmB l[k] = false) : l.all edmB = false := by
 rw [List.all_eq_false]
 exact ⟨l[k], List.getElem_mem hk, by rw [h]; simp⟩
theorem rWording_calls (x : Wrd) (v : Value) (w : World) (hw : IsWrd w x v) (hfit : x.fit) : Calls Tryz.prog 70 #[v] w (GivesE (.bool (wordingB x)) w) := by
 obtain ⟨ca, cn, cc, ea, en, ec, rfl, hcl, hed⟩ := hw
 have HE := hI hed
 have HEN := hI hed.len
 have HFT := hI hfit.2.2
 have hen : en <= 1000000000000000 := by have := hed.len; have := hfit.2.1; omega
 have HC := hI (fun W (hW : Ext w W) => rclauses_calls x.clauses ca cn cc W (hcl.ext hW) hfit.1)
 obtain ⟨R, hR⟩ : ∃ R, R = wordingB x := ⟨_, rfl⟩
 rw [<- hR]
 have HR := hI (show R = (decide (x.ends.length <= 12) && clsB x.clauses && x.ends.all edmB) from hR)
 clear hcl hed hfit hR
 obtain ⟨wa, hwa⟩ : ∃ wa, wa = w.alloc (.cells #[.slice ca cn cc, .slice ea en ec] 37) := ⟨_, rfl⟩
 have HXA := hI (show Ext w wa by rw [hwa]; exact (Ext.refl _).alloc _)
 have HBA := hI (show wa.heap[w.heap.size]? = some (.cells #[.slice ca cn cc, .slice ea en ec] 37 (0, 0)) by rw [hwa]; exact alloc_new w _)
 obtain ⟨c0, c1, cf⟩ := blk2 HBA.out
 go_enter Tryz.func70, Tryz.ntmps70
 go_upto_region 1 with fail
 rw [<- hwa]
 clear hwa
 by_cases h12 : 12 < en
 ·have t0 : decide ((12 : Int) < (en : Int)) = true := decide_eq_true (by omega)
  have HF := hI (show R = false by rw [HR.out, decide_eq_false (by have := HEN.out; omega)]; rfl)
  go_wp2_with fail
  go_ret
  exact givesE_b (by rw [HF.out]) HXA.out
 have t0 : decide ((12 : Int) < (en : Int)) = false := decide_eq_false (by omega)
 go_wp2_with fail
 refine (HC.out wa HXA.out).mono ?_
 rintro r w1 ⟨rfl, hx1⟩
 have HX1 := hI (HXA.out.trans hx1)
 have HB1 := hI (hx1.blk HBA.out)
 clear hx1 c0 c1 cf HC
 cases hcb : clsB x.clauses
 ·have HF := hI (show R = false by rw [HR.out, hcb]; simp)
  clear hcb
  go_wp2_with fail
  go_ret
  exact givesE_b (by rw [HF.out]) HX1.out
 have HR2 := hI (show R = x.ends.all edmB by rw [HR.out, hcb, decide_eq_true (by have := HEN.out; omega)]; rfl)
 clear hcb HR
 go_wp2_with fail
 go_loopw [3] (fun t wr => ∃ k : Nat, t = .int .i64 k /\ k <= en /\ (∀ j (h : j < x.ends.length), j < k -> edmB x.ends[j] = true) /\ wr.heap[w.heap.size]? = some (.cells #[.slice ca cn cc, .slice ea en ec] 37 (0, 0)) /\ Ext w wr) (fun t _ => en - (intOf t).toNat)
 case atStart => exact ⟨0, rfl, by omega, fun j _ h => by omega, HB1.out, HX1.out⟩
 case round =>
  obtain ⟨k, rfl, hk, hall, hbx, hxr⟩ := hrel
  obtain ⟨wo, rfl⟩ : ∃ wo : World, wo = wr := ⟨_, rfl⟩
  have HALL := hI hall
  have HBX := hI hbx
  have HXR := hI hxr
  obtain ⟨b0, b1, bf⟩ := blk2 hbx
  clear hall hbx hxr
  by_cases hkn : k < en
  case neg =>
   have t1 : decide ((k : Int) < (en : Int)) = false := decide_eq_false (by omega)
   have HF := hI (show R = true by
    rw [HR2.out, List.all_eq_true]
    intro y hy
    obtain ⟨j, hj, rfl⟩ := List.mem_iff_getElem.1 hy
    exact HALL.out j hj (by have := HEN.out; omega))
   go_wp2_with fail
   go_ret
   exact givesE_b (by rw [HF.out]) HXR.out
  have hkl : k < x.ends.length := by have := HEN.out; omega
  have t1 : decide ((k : Int) < (en : Int)) = true := decide_eq_true (by omega)
  obtain ⟨b, off, v, rfl, hvx, hedm, e0, e1, e2, e3⟩ := (HE.out.ext HXR.out).at hkl
  obtain ⟨fr, hfr⟩ : ∃ fr, fr = v.x.frm := ⟨_, rfl⟩
  obtain ⟨tt, htt⟩ : ∃ tt, tt = v.x.upto := ⟨_, rfl⟩
  obtain ⟨ra, hra⟩ : ∃ ra, ra = v.ra := ⟨_, rfl⟩
  obtain ⟨rn, hrn⟩ : ∃ rn, rn = v.rn := ⟨_, rfl⟩
  obtain ⟨rc, hrc⟩ : ∃ rc, rc = v.rc := ⟨_, rfl⟩
  obtain ⟨da, hda⟩ : ∃ da, da = v.ca := ⟨_, rfl⟩
  obtain ⟨dn, hdn⟩ : ∃ dn, dn = v.cn := ⟨_, rfl⟩
  obtain ⟨dc, hdc⟩ : ∃ dc, dc = v.cc := ⟨_, rfl⟩
  have hvf : v.x.fit := by rw [hvx]; exact HFT.out _ (List.getElem_mem hkl)
  have hst := hedm.1
  have hcs := hedm.2
  rw [<- hra, <- hrn, <- hrc] at hst
  rw [<- hda, <- hdn, <- hdc] at hcs
  rw [<- hfr] at e0
  rw [<- htt] at e1
  rw [<- hra, <- hrn, <- hrc] at e2
  rw [<- hda, <- hdn, <- hdc] at e3
  have HNM := hI (fun W (hW : Ext wo W) => names_calls v.x.remove ra rn rc W (hst.ext hW) (by have := hst.1; have := hvf.1; omega) hvf.2.1)
  have HDI := hI (fun W (hW : Ext wo W) => distinct_calls v.x.remove ra rn rc W (hst.ext hW) (by have := hst.1; have := hvf.1; omega))
  have HCL := hI (fun W (hW : Ext wo W) => rclauses_calls v.x.clauses da dn dc W (hcs.ext hW) hvf.2.2)
  have HPV := hI (fun W => rPeriod_calls fr tt W)
  obtain ⟨P, hP⟩ : ∃ P, P = periodB fr tt := ⟨_, rfl⟩
  obtain ⟨NM, hNM⟩ : ∃ NM, NM = v.x.remove.all nameB := ⟨_, rfl⟩
  obtain ⟨DI, hDI⟩ : ∃ DI, DI = decide v.x.remove.Nodup := ⟨_, rfl⟩
  obtain ⟨CL, hCL⟩ : ∃ CL, CL = clsB v.x.clauses := ⟨_, rfl⟩
  have HEB := hI (show edmB x.ends[k] = (P && decide (tt <= 876599) && decide (rn <= 40) && NM && DI && CL) by
   rw [<- hvx, hP, hNM, hDI, hCL, hfr, htt, hst.1]; rfl)
  have HBAD := hI (fun h : edmB x.ends[k] = false => HR2.out.trans (edm_bad hkl h))
  rw [<- hP] at HPV
  rw [<- hNM] at HNM
  rw [<- hDI] at HDI
  rw [<- hCL] at HCL
  have hrn2 : rn <= 1000000000000000 := by have := hst.1; have := hvf.1; omega
  clear hP hNM hDI hCL hfr htt hra hrn hrc hda hdn hdc hst hcs hvf hedm hvx
  obtain ⟨wb, hwb⟩ : ∃ wb, wb = wo.alloc (.cells #[.int .i64 fr, .int .i64 tt, .slice ra rn rc, .slice da dn dc] 117) := ⟨_, rfl⟩
  have HXB := hI (show Ext wo wb by rw [hwb]; exact (Ext.refl _).alloc _)
  have HBB := hI (show wb.heap[wo.heap.size]? = some (.cells #[.int .i64 fr, .int .i64 tt, .slice ra rn rc, .slice da dn dc] 117 (0, 0)) by rw [hwb]; exact alloc_new wo _)
  have HBX2 := hI (HXB.out.blk HBX.out)
  obtain ⟨g0, g1, g2, g3, gf⟩ := blk4c HBB.out
  have hltb := blk_lt HBB.out
  go_upto_region 7 with fail
  rw [<- hwb]
  clear hwb b0 b1 bf e0 e1 e2 e3
  go_wp2_with fail
  refine (HPV.out wb).mono ?_
  rintro r w2 ⟨rfl, hx2⟩
  have HX2 := hI (HXB.out.trans hx2)
  have HB2 := hI (hx2.blk HBB.out)
  have HBX3 := hI (hx2.blk HBX2.out)
  clear hx2 g0 g1 g2 g3 gf hltb HBB HBX2
  obtain ⟨g0, g1, g2, g3, gf⟩ := blk4c HB2.out
  have hltb := blk_lt HB2.out
  cases P
  ·have HF := hI (HBAD.out (by rw [HEB.out]; simp))
   go_wp2_with fail
   go_ret
   exact givesE_b (by rw [HF.out]) (HXR.out.trans HX2.out)
  by_cases hto : 876599 < tt
  ·have t2 : decide ((876599 : Int) < tt) = true := decide_eq_true hto
   have HF := hI (HBAD.out (by rw [HEB.out, decide_eq_false (show ¬ tt <= 876599 by omega)]; simp))
   go_wp2_with fail
   go_ret
   exact givesE_b (by rw [HF.out]) (HXR.out.trans HX2.out)
  have t2 : decide ((876599 : Int) < tt) = false := decide_eq_false hto
  have t2' : decide (tt <= 876599) = true := decide_eq_true (by omega)
  rw [t2'] at HEB
  clear t2' hto
  by_cases hrm : 40 < rn
  ·have t3 : decide ((40 : Int) < (rn : Int)) = true := decide_eq_true (by omega)
   have HF := hI (HBAD.out (by rw [HEB.out, decide_eq_false (show ¬ rn <= 40 by omega)]; simp))
   go_wp2_with fail
   go_ret
   exact givesE_b (by rw [HF.out]) (HXR.out.trans HX2.out)
  have t3 : decide ((40 : Int) < (rn : Int)) = false := decide_eq_false (by omega)
  have t3' : decide (rn <= 40) = true := decide_eq_true (by omega)
  rw [t3'] at HEB
  clear t3' hrm
  go_wp2_with fail
  refine (HNM.out w2 HX2.out).mono ?_
  rintro r w3 ⟨rfl, rfl⟩
  cases NM
  ·have HF := hI (HBAD.out (by rw [HEB.out]; simp))
   go_wp2_with fail
   go_ret
   exact givesE_b (by rw [HF.out]) (HXR.out.trans HX2.out)
  go_wp2_with fail
  refine (HDI.out _ HX2.out).mono ?_
  rintro r w3 ⟨rfl, ⟨m, rfl⟩⟩
  generalize hwg : World.drewN _ m = wg
  have hxg : Ext _ wg := hwg ▸ (Ext.refl _).drewN m
  have HX3 := hI (HX2.out.trans hxg)
  have HB3 := hI (hxg.blk HB2.out)
  have HBX4 := hI (hxg.blk HBX3.out)
  clear hwg hxg g0 g1 g2 g3 gf hltb HB2 HBX3
  obtain ⟨g0, g1, g2, g3, gf⟩ := blk4c HB3.out
  have hltb := blk_lt HB3.out
  cases DI
  ·have HF := hI (HBAD.out (by rw [HEB.out]; simp))
   go_wp2_with fail
   go_ret
   exact givesE_b (by rw [HF.out]) (HXR.out.trans HX3.out)
  go_wp2_with fail
  refine (HCL.out _ HX3.out).mono ?_
  rintro r w4 ⟨rfl, hx4⟩
  have HX4 := hI (HX3.out.trans hx4)
  have HBX5 := hI (hx4.blk HBX4.out)
  clear hx4 g0 g1 g2 g3 gf hltb
  cases CL
  ·have HF := hI (HBAD.out (by rw [HEB.out]; simp))
   go_wp2_with fail
   go_ret
   exact givesE_b (by rw [HF.out]) (HXR.out.trans HX4.out)
  have HEB2 := hI (show edmB x.ends[k] = true by rw [HEB.out]; rfl)
  go_wp2_with fail
  go_roundw
  case rel =>
   refine ⟨k + 1, by go_num, by omega, fun j hj hjk => ?_, HBX5.out, HXR.out.trans HX4.out⟩
   by_cases e : j = k
   ·subst e; exact HEB2.out
   exact HALL.out j hj (by omega)
  case measure => simp [intOf]; omega
def intCells (z : Int) : List Value := [.int .i64 z]
def FctQ (attrs : List Attr) (w0 : World) (bd : Nat) (M : ZN) (w : World) (e : Ending) (w' : World) : Prop := ∃ (f : ZI) (a : OA) (c : Nat), e = .returned (.slice a f.length c) /\ factsAll attrs f = true /\ f.length <= 1000 /\ IsIntF (mask w' M) f a f.length /\ DeckAt w0 w' bd /\ Chg [bd] w w'
def FctL (attrs : List Attr) (w0 w : World) (bd bs base : Nat) (o : Obj) (v i : Value) (wr : World) : Prop := ∃ f : ZI, i = .int .i64 (f.length : Nat) /\ f.length <= attrs.length /\ (∀ j (h1 : j < attrs.length) (h2 : j < f.length), (domB attrs[j]).1 <= f[j] /\ f[j] <= (domB attrs[j]).2) /\ wr.ownsRow base 3 1 v f.length (f.flatMap intCells) /\ wr.heap[bs]? = some o /\ DeckAt w0 wr bd /\ Chg [bd] w wr
def IntsQ (f : ZI) (w : World) (e : Ending) (w' : World) : Prop := ∃ (a : OA) (c : Nat), e = .returned (.slice a f.length c) /\ IsIntF w' f a f.length /\ Ext w w'
theorem schemas_err : (schemas.all fun l => decide (schemaErr l = 0) && l.all fun a => decide (a.name.size <= 1000) && (decide (a.words.length <= 1000) && a.words.all fun x => decide (x.size <= 1000))) = true := by decide +kernel
theorem schema_zero {l : List Attr} (h : l ∈ schemas) : schemaErr l = 0 := by
 have := List.all_eq_true.1 schemas_err l h
 simp only [Bool.and_eq_true, decide_eq_true_eq] at this
 exact this.1
theorem ints_own {w : World} {M : ZN} {base : Nat} {v : Value} {f : ZI} (h : w.ownsRow base 3 1 v f.length (f.flatMap intCells)) (hM : ∀ k, v.ownBlock = some k -> k ∉ M) : ∃ a c, v = .slice a f.length c /\ IsIntF (mask w M) f a f.length := by
 obtain ⟨a, c, rfl, hr⟩ := IsRows.of_owns (f := intCells) (fun _ => rfl) h
 refine ⟨a, c, rfl, rfl, fun i hi => ?_⟩
 obtain ⟨b, off, rfl, hc⟩ := hr.2.2.2 i hi
 refine ⟨b, off, rfl, ?_⟩
 have := hc 0 (by simp [intCells])
 rw [mask_cell, if_neg (hM _ rfl)]
 simpa [intCells] using this
theorem own_snoc {w : World} {base : Nat} {v : Value} {f : ZI} {k : Nat} {z : Int} (hk : k = f.length) (h : w.ownsRow base 3 1 v (k + 1) (f.flatMap intCells ++ (#[Value.int .i64 z] : Array Value).toList)) : w.ownsRow base 3 1 v (f ++ [z]).length ((f ++ [z]).flatMap intCells) := by
 have : (f ++ [z]).length = k + 1 := by simp [hk]
 rw [this]
 simpa [intCells] using h
theorem dfacts_calls {attrs : List Attr} (h0 : schemaErr attrs = 0) (hf : ∀ x ∈ attrs, x.fits) {w0 w : World} {bd : Nat} (hd : DeckAt w0 w bd) (sa : OA) (sn sc : Nat) (M : ZN) (hs : IsSchema (mask w [bd]) attrs (.agg #[.slice sa sn sc])) (hM : ∀ y ∈ M, y < w.heap.size) :
  Calls Tryz.prog 94 #[.pointer (some ⟨bd, 0, none⟩), .agg #[.slice sa sn sc]] w (FctQ attrs w0 bd M w) := by
 obtain ⟨q1, q2, q3⟩ := schema_attrs h0
 have hbw := hd.lt
 have HSN := hI (show sn = attrs.length by obtain ⟨a', n', c', e', h', -⟩ := hs.parts; simp at e'; omega)
 have HDOM := hI (fun (i : Nat) (hi : i < attrs.length) W (hW : Chg [bd] w W) => rDomain_calls attrs (.agg #[.slice sa sn sc]) i W (((hs.mono (mask_step hW (by simp))).mono (mask_sub _ _))) hf (by omega) h0 hi)
 have HAD := hI (fun (i : Nat) (hi : i < attrs.length) => attr_dom (q3 i hi).1)
 have HD := hI hd
 have HM := hI hM
 have HW0 := hI (show w0.heap.size <= w.heap.size by obtain ⟨_, _, _, _, _, _, _, _, hxw, _⟩ := hd; exact hxw.size)
 clear hs hM hf q1 q3 h0 hd
 obtain ⟨wa, hwa⟩ : ∃ wa, wa = w.alloc (.cells #[.slice sa sn sc] 24) := ⟨_, rfl⟩
 have hxa : Ext w wa := by rw [hwa]; exact (Ext.refl _).alloc _
 have HB0 := hI (show wa.heap[w.heap.size]? = some (.cells #[.slice sa sn sc] 24 (0, 0)) by rw [hwa]; exact alloc_new w _)
 have HDA := hI (HD.out.ext hxa)
 have HCA := hI (hxa.chg [bd])
 clear hxa
 go_enter Tryz.func94, Tryz.ntmps94
 go_upto_region 1 with fail
 rw [<- hwa]
 clear hwa
 go_wp2_with fail
 go_loopw [5, 6] (FctL attrs w0 w bd w.heap.size (w.heap.size + 1) (.cells #[.slice sa sn sc] 24 (0, 0))) (fun _ i _ => sn - (intOf i).toNat)
 case atStart => exact ⟨[], rfl, by simp, fun j _ h => by simp at h, ⟨rfl, Or.inl ⟨rfl, rfl⟩⟩, HB0.out, HDA.out, HCA.out⟩
 case round =>
  obtain ⟨f, rfl, hk, hall, hown, hb0, hd, hc⟩ := hrel
  obtain ⟨k, hkf⟩ : ∃ k, k = f.length := ⟨_, rfl⟩
  rw [<- hkf] at hown hk ⊢
  have HKF := hI hkf
  have HALL := hI hall
  have HOWN := hI hown
  have HBB := hI hb0
  have HDR := hI hd
  have HCR := hI hc
  obtain ⟨e0, ef⟩ := blk1 hb0
  have HRO := hI (show ∀ z ∈ rowOf u5, w.heap.size + 1 <= z /\ z < wr.heap.size from fun z hz => ⟨(hown.lt z (mem_rowOf.1 hz)).1, (hown.lt z (mem_rowOf.1 hz)).2⟩)
  clear hkf hall hown hb0 hd hc
  by_cases hkn : k < sn
  ·have hka : k < attrs.length := by have := HSN.out; omega
   have t1 : decide ((k : Int) < (sn : Int)) = true := decide_eq_true (by omega)
   have HDK := hI (HDOM.out k hka wr HCR.out)
   obtain ⟨hlh, hlo, hhi, -, -⟩ := HAD.out k hka
   unfold domV at HDK
   obtain ⟨lo, hlov⟩ : ∃ lo, lo = (domB attrs[k]).1 := ⟨_, rfl⟩
   obtain ⟨hi, hhiv⟩ : ∃ hi, hi = (domB attrs[k]).2 := ⟨_, rfl⟩
   rw [<- hlov, <- hhiv] at HDK
   rw [<- hlov] at hlh hlo
   rw [<- hhiv] at hlh hhi
   have HLV := hI hlov
   have HHV := hI hhiv
   clear hlov hhiv
   go_wp2_with fail
   refine HDK.out.mono ?_
   rintro r w1 ⟨rfl, hx1⟩
   have HD1 := hI (HDR.out.ext hx1)
   have HC1 := hI (HCR.out.then (hx1.chg [bd]))
   have HB1 := hI (hx1.blk HBB.out)
   have HO1 := hI (owns_ext HOWN.out hx1)
   have HR1 := hI (show ∀ z ∈ rowOf u5, w.heap.size + 1 <= z /\ z < w1.heap.size from fun z hz => by have := HRO.out z hz; have := hx1.size; omega)
   clear hx1 e0 ef HDR HCR HBB HOWN HRO HDK
   go_wp2_with fail
   refine (next_calls HD1.out (hi - lo + 1) (by omega) (by omega)).mono ?_
   rintro r w2 ⟨r1, rfl, hr1, hr2, hd2, hc2⟩
   have HD2 := hI hd2
   have HC2 := hI (HC1.out.then hc2)
   have HB2 := hI (hc2.blk HB1.out (by simp; omega))
   have HO2 := hI (owns_chg HO1.out hc2 (fun q hq hm => by have := (HR1.out q (mem_rowOf.2 hq)).1; simp only [List.mem_singleton] at hm; omega))
   have HR2 := hI (show ∀ z ∈ rowOf u5, w.heap.size + 1 <= z /\ z < w2.heap.size from fun z hz => by have := HR1.out z hz; have := hc2.size; omega)
   clear hd2 hc2 HD1 HC1 HB1 HO1 HR1
   have HLH := hI (show lo <= hi /\ 0 <= r1 /\ r1 < hi - lo + 1 from ⟨hlh, hr1, hr2⟩)
   go_wp2_with fail
   refine (next_calls HD2.out 5 (by omega) (by omega)).mono ?_
   rintro r w3 ⟨r3, rfl, hr3, hr4, hd3, hc3⟩
   have HD3 := hI hd3
   have HC3 := hI (HC2.out.then hc3)
   have HB3 := hI (hc3.blk HB2.out (by simp; omega))
   have HO3 := hI (owns_chg HO2.out hc3 (fun q hq hm => by have := (HR2.out q (mem_rowOf.2 hq)).1; simp only [List.mem_singleton] at hm; omega))
   have HR3 := hI (show ∀ z ∈ rowOf u5, w.heap.size + 1 <= z /\ z < w3.heap.size from fun z hz => by have := HR2.out z hz; have := hc3.size; omega)
   clear hd3 hc3 HD2 HC2 HB2 HO2 HR2 hlh hlo hhi hr1 hr2
   rcases (by omega : r3 = 0 \/ r3 = 1 \/ r3 = 2 \/ (r3 ≠ 0 /\ r3 ≠ 1 /\ r3 ≠ 2)) with rfl | rfl | rfl | ⟨q0, q1, q2⟩
   case' inl => go_upto_region 14 with fail
   case' inr.inl => go_upto_region 14 with fail
   case' inr.inr.inl =>
    go_wp2_with fail
    refine (next_calls HD3.out 12 (by omega) (by omega)).mono ?_
    rintro r w3 ⟨r5, rfl, hr5, hr6, hd3, hc3⟩
    have HD3 := hI hd3
    have HC3 := hI (HC3.out.then hc3)
    have HB3 := hI (hc3.blk HB3.out (by simp; omega))
    have HO3 := hI (owns_chg HO3.out hc3 (fun q hq hm => by have := (HR3.out q (mem_rowOf.2 hq)).1; simp only [List.mem_singleton] at hm; omega))
    have HR3 := hI (show ∀ z ∈ rowOf u5, w.heap.size + 1 <= z /\ z < w3.heap.size from fun z hz => by have := HR3.out z hz; have := hc3.size; omega)
    clear hd3 hc3
    go_upto_region 14 with fail
   case' inr.inr.inr =>
    have t0 : (r3 == 0) = false := by simp [q0]
    have t2 : (r3 == 1) = false := by simp [q1]
    have t3 : (r3 == 2) = false := by simp [q2]
    go_upto_region 14 with fail
   all_goals
    have hsx := HC3.out.size
    have hblt := blk_lt HB3.out
    go_wp2_with (at_builtin; refine wpList_append_at elemInts rfl _ _ rfl (w.heap.size + 1) _ k _ rfl HO3.out _ 1 1 rfl ?f0 rfl ?f1 ?f2 ?f3 ?f4 ?_)
    case f0 => simp
    case f1 => simp [Value.oneCell']
    case f2 => unfold maxLen; omega
    case f3 => omega
    case f4 => omega
    intro v8 w8 hown8 hc8 hw8
    have HO8 := hI (own_snoc HKF.out hown8)
    have HB8 := hI (hc8.blk HB3.out (fun hm => by have := (HR3.out _ hm).1; omega))
    have HD8 := hI (HD3.out.chg hc8 (fun hm => by have := (HR3.out _ hm).1; omega) (fun y hy => by have := (HR3.out _ hy).1; have := HW0.out; omega))
    have HC8 := hI (HC3.out.trans hc8 (fun y hy => Or.inr (by have := (HR3.out _ hy).1; omega)))
    obtain ⟨a8, c8, hv8⟩ := owns_formG hown8
    subst hv8
    clear hown8 hc8 hw8
    go_wp2_with fail
    go_roundw
    case rel =>
     have hlh := HLH.out
     refine ⟨f ++ [_], ?_, ?_, fun j h1 h2 => ?_, HO8.out, HB8.out, HD8.out, HC8.out⟩
     ·rw [List.length_append, <- HKF.out]
      go_num
     ·rw [List.length_append, <- HKF.out]; simp; omega
     by_cases e : j < f.length
     ·rw [List.getElem_append_left e]; exact HALL.out j h1 e
     have hjk : j = k := by have := HKF.out; simp at h2; omega
     subst hjk
     rw [List.getElem_append_right (by omega)]
     simp only [List.getElem_singleton]
     rw [<- HLV.out, <- HHV.out]
     exact ⟨by omega, by omega⟩
    case measure => simp [intOf]; omega
  have t1 : decide ((k : Int) < (sn : Int)) = false := decide_eq_false (by omega)
  have hk2 : k = attrs.length := by have := HSN.out; omega
  have hos := HOWN.out
  rw [HKF.out] at hos
  obtain ⟨a', c', rfl, hii⟩ := ints_own (M := M) hos (fun z hz hm => by have := (HRO.out z (mem_rowOf.2 hz)).1; have := HM.out z hm; omega)
  have HII := hI hii
  clear hos hii
  go_wp2_with fail
  go_ret
  exact ⟨f, a', c', by rw [<- HKF.out]; rfl, factsAll_of (by rw [<- HKF.out]; exact hk2) HALL.out, by rw [<- HKF.out]; omega, HII.out, HDR.out, HCR.out⟩
def AddL (l : ZI) (x : Int) (n base : Nat) (w : World) (v d i : Value) (wr : World) : Prop := ∃ (f : ZI) (D : Bool) (k : Nat), d = .bool D /\ i = .int .i64 k /\ k <= n /\ f.length <= k + 1 /\ (D = false -> f.length = k) /\ f ++ (if D = true then l.drop k else addPt (l.drop k) x) = addPt l x /\ wr.ownsRow base 3 1 v f.length (f.flatMap intCells) /\ Ext w wr
theorem dropAt {α : Type} {l : List α} {k : Nat} (hk : k < l.length) : l.drop k = l[k] :: l.drop (k + 1) := List.drop_eq_getElem_cons hk
theorem add_next {l : ZI} {x y : Int} {f : ZI} {D : Bool} {k : Nat} (hdr : l.drop k = y :: l.drop (k + 1)) (h1 : f.length <= k + 1) (h2 : D = false -> f.length = k) (h : f ++ (if D = true then l.drop k else addPt (l.drop k) x) = addPt l x) :
  ∃ (F : ZI) (D' : Bool), F.length <= k + 1 /\ (D' = false -> F.length = k) /\ (F ++ [y]) ++ (if D' = true then l.drop (k + 1) else addPt (l.drop (k + 1)) x) = addPt l x /\ ((D = true /\ F = f /\ D' = true) \/ (D = false /\ x < y /\ F = f ++ [x] /\ D' = true) \/ (D = false /\ x = y /\ F = f /\ D' = true) \/ (D = false /\ y < x /\ F = f /\ D' = false)) := by
 cases D
 ·have hl := h2 rfl
  rw [if_neg (by simp), hdr, addPt] at h
  by_cases h1 : x < y
  ·rw [if_pos h1] at h
   exact ⟨f ++ [x], true, by simp; omega, by simp, by rw [<- h]; simp, Or.inr (Or.inl ⟨rfl, h1, rfl, rfl⟩)⟩
  rw [if_neg h1] at h
  by_cases h2 : x = y
  ·rw [if_pos h2] at h
   exact ⟨f, true, by omega, by simp, by rw [<- h]; simp, Or.inr (Or.inr (Or.inl ⟨rfl, h2, rfl, rfl⟩))⟩
  rw [if_neg h2] at h
  exact ⟨f, false, by omega, fun _ => hl, by rw [<- h]; simp, Or.inr (Or.inr (Or.inr ⟨rfl, by omega, rfl, rfl⟩))⟩
 rw [if_pos rfl, hdr] at h
 exact ⟨f, true, by omega, by simp, by rw [<- h]; simp, Or.inl ⟨rfl, rfl, rfl⟩⟩
theorem radd_calls (l : ZI) (a : OA) (n c : Nat) (x : Int) (w : World) (hi : IsIntF w l a n) (hn2 : n <= 1000000000000) :
  Calls Tryz.prog 93 #[.slice a n c, .int .i64 x] w (IntsQ (addPt l x) w) := by
 have HI := hI hi
 have HN := hI hi.1
 clear hi
 go_enter Tryz.func93, Tryz.ntmps93
 go_wp2_with fail
 go_loopw [5, 6, 7] (AddL l x n w.heap.size w) (fun _ _ i _ => n - (intOf i).toNat)
 case atStart => exact ⟨[], false, 0, rfl, rfl, Nat.zero_le _, Nat.zero_le _, fun _ => rfl, rfl, ⟨rfl, Or.inl ⟨rfl, rfl⟩⟩, Ext.refl _⟩
 case round =>
  obtain ⟨f, D, k, rfl, rfl, hk, hfl, hfe, hinv, hown, hx⟩ := hrel
  obtain ⟨wo, rfl⟩ : ∃ wo : World, wo = wr := ⟨_, rfl⟩
  have HINV := hI hinv
  have HFE := hI hfe
  have HX := hI hx
  have HOWN := hI hown
  have hsz := hx.size
  obtain ⟨kf, hkf⟩ : ∃ kf, kf = f.length := ⟨_, rfl⟩
  have HKF := hI hkf
  rw [<- hkf] at HOWN hfl
  clear hinv hx hfe hown hkf
  by_cases hkn : k < n
  ·have hkl : k < l.length := by have := HN.out; omega
   have t1 : decide ((k : Int) < (n : Int)) = true := decide_eq_true (by omega)
   obtain ⟨b, off, rfl, hc⟩ := HI.out.2 k hkl
   have hcell := HX.out.cell hc
   obtain ⟨y, hy⟩ : ∃ y, y = l[k] := ⟨_, rfl⟩
   rw [<- hy] at hcell
   have HDR := hI (show l.drop k = y :: l.drop (k + 1) by rw [hy]; exact dropAt hkl)
   have HCE := hI (fun W (hW : Ext w W) => hy ▸ hW.cell hc)
   clear hc hy
   obtain ⟨F, D', hF1, hF2, hF3, hF4⟩ := add_next HDR.out (by rw [<- HKF.out]; exact hfl) HFE.out HINV.out
   have HF2 := hI hF2
   have HF3 := hI hF3
   clear hF2 hF3
   rcases hF4 with ⟨rfl, hF, rfl⟩ | ⟨rfl, hxy, hF, rfl⟩ | ⟨rfl, hxy, hF, rfl⟩ | ⟨rfl, hxy, hF, rfl⟩
   case' inl =>
    have HF := hI hF
    have HO := hI (show wo.ownsRow w.heap.size 3 1 u5 F.length (F.flatMap intCells) by rw [HF.out, <- HKF.out]; exact HOWN.out)
    have HXW := hI HX.out
    clear hF
    go_upto_region 10 with fail
   case' inr.inl =>
    have t2 : decide (x <= y) = true := decide_eq_true (by omega)
    have t3 : decide (x < y) = true := decide_eq_true hxy
    have HF := hI hF
    clear hF hxy
    go_wp2_with (at_builtin; refine wpList_append_at elemInts rfl _ _ rfl w.heap.size _ kf _ rfl HOWN.out _ 1 1 rfl ?e0 rfl ?e1 ?e2 ?e3 ?e4 ?_)
    case e0 => simp
    case e1 => simp [Value.oneCell']
    case e2 => unfold maxLen; omega
    case e3 => omega
    try (case e4 => omega)
    intro v8 w8 hown8 hc8 hw8
    have HO := hI (show w8.ownsRow w.heap.size 3 1 v8 F.length (F.flatMap intCells) by rw [HF.out]; exact own_snoc HKF.out hown8)
    have HXW := hI (hc8.ext HX.out (fun y hy => (HOWN.out.lt y (mem_rowOf.1 hy)).1))
    have hcell := HCE.out _ HXW.out
    obtain ⟨a8, c8, hv8⟩ := owns_formG hown8
    subst hv8
    clear hown8 hc8 hw8
    go_upto_region 10 with fail
   case' inr.inr.inl =>
    have t2 : decide (x <= y) = true := decide_eq_true (by omega)
    have t3 : decide (x < y) = false := decide_eq_false (by omega)
    have HF := hI hF
    have HO := hI (show wo.ownsRow w.heap.size 3 1 u5 F.length (F.flatMap intCells) by rw [HF.out, <- HKF.out]; exact HOWN.out)
    have HXW := hI HX.out
    clear hF hxy
    go_upto_region 10 with fail
   case' inr.inr.inr =>
    have t2 : decide (x <= y) = false := decide_eq_false (by omega)
    have HF := hI hF
    have HO := hI (show wo.ownsRow w.heap.size 3 1 u5 F.length (F.flatMap intCells) by rw [HF.out, <- HKF.out]; exact HOWN.out)
    have HXW := hI HX.out
    clear hF hxy
    go_upto_region 10 with fail
   all_goals
    have hxz := HXW.out.size
    obtain ⟨kF, hkF⟩ : ∃ kF, kF = F.length := ⟨_, rfl⟩
    have HKF2 := hI hkF
    have HO2 := hI HO.out
    rw [<- hkF] at HO2 hF1
    clear hkF
    go_wp2_with (at_builtin; refine wpList_append_at elemInts rfl _ _ rfl w.heap.size _ kF _ rfl HO2.out _ 1 1 rfl (by simp) rfl (by simp [Value.oneCell']) (by unfold maxLen; omega) (by omega) (by omega) ?_)
    intro v9 w9 hown9 hc9 hw9
    have HO9 := hI (own_snoc HKF2.out hown9)
    have HX9 := hI (hc9.ext HXW.out (fun y hy => (HO2.out.lt y (mem_rowOf.1 hy)).1))
    obtain ⟨a9, c9, hv9⟩ := owns_formG hown9
    subst hv9
    clear hown9 hc9 hw9
    go_wp2_with fail
    go_roundw
    case rel =>
     refine ⟨F ++ [y], _, k + 1, rfl, by go_num, by omega, by rw [List.length_append, <- HKF2.out]; simp; omega, fun h => ?_, HF3.out, HO9.out, HX9.out⟩
     rw [List.length_append]; first | (exfalso; cases h; done) | (rw [HF2.out (by simp)]; rfl)
    case measure => simp [intOf]; omega
  have t1 : decide ((k : Int) < (n : Int)) = false := decide_eq_false (by omega)
  have hke : l.drop k = [] := List.drop_eq_nil_of_le (by have := HN.out; omega)
  have hinv := HINV.out
  rw [hke] at hinv
  cases D
  ·rw [if_neg (by simp), addPt] at hinv
   have HQ := hI hinv
   clear hinv hke
   go_wp2_with (at_builtin; refine wpList_append_at elemInts rfl _ _ rfl w.heap.size _ kf _ rfl HOWN.out _ 1 1 rfl ?e0 rfl ?e1 ?e2 ?e3 ?e4 ?_)
   case e0 => simp
   case e1 => simp [Value.oneCell']
   case e2 => unfold maxLen; omega
   case e3 => omega
   try (case e4 => omega)
   intro v8 w8 hown8 hc8 hw8
   have HO := hI (own_snoc HKF.out hown8)
   have HXW := hI (hc8.ext HX.out (fun y hy => (HOWN.out.lt y (mem_rowOf.1 hy)).1))
   obtain ⟨fa, fc, e, hints⟩ := ints_own (M := []) HO.out (fun k _ => by simp)
   subst e
   rw [HQ.out] at hints
   have HI2 := hI hints
   have HLQ := hI (show (f ++ [x]).length = kf + 1 by rw [List.length_append, <- HKF.out]; rfl)
   have HL2 := hI (show (addPt l x).length = kf + 1 by rw [<- HQ.out]; exact HLQ.out)
   rw [HLQ.out]
   rw [HL2.out] at HI2
   clear hown8 hc8 hw8 hints
   go_wp2_with fail
   go_ret
   exact ⟨fa, fc, (by rw [HL2.out]; try rfl), by rw [HL2.out]; exact HI2.out.mono (mask_sub _ _), HXW.out⟩
  rw [if_pos rfl, List.append_nil] at hinv
  have HQ := hI hinv
  have HL2 := hI (show (addPt l x).length = kf by rw [<- HQ.out]; exact HKF.out.symm)
  have ho := HOWN.out
  rw [HKF.out] at ho
  obtain ⟨fa, fc, e, hints⟩ := ints_own (M := []) ho (fun k _ => by simp)
  subst e
  rw [<- HKF.out] at hints ⊢
  have HI2 := hI hints
  clear ho hints hinv hke
  go_wp2_with fail
  go_ret
  refine ⟨fa, fc, (by rw [HL2.out]; try rfl), ?_, HX.out⟩
  rw [HL2.out, <- HQ.out]
  exact HI2.out.mono (mask_sub _ _)
def ClsAt (w0 w : World) (v : Value) (l : List Cla) : Prop := ∃ vs : List ClV, w.ownsRow w0.heap.size 123 10 v l.length (vs.flatMap ClV.cells) /\ ClasR w0 l vs /\ Ext w0 w
theorem ClsAt.nil (w0 : World) : ClsAt w0 w0 (.slice none 0 0) [] := ⟨[], ⟨rfl, Or.inl ⟨rfl, rfl⟩⟩, ⟨rfl, fun i h => by simp at h⟩, Ext.refl _⟩
theorem ClsAt.clas {w0 w : World} {v : Value} {l : List Cla} (h : ClsAt w0 w v l) : ∃ a c, v = .slice a l.length c /\ IsClas w l a l.length c := by
 obtain ⟨vs, h1, h2, h3⟩ := h
 rw [h2.1] at h1
 obtain ⟨a, c, rfl, hr⟩ := IsRows.of_owns ClV.len h1
 refine ⟨a, c, by rw [h2.1], vs, by rw [h2.1]; exact hr, h2.1, fun i h4 h5 => (h2.2 i h4 h5).mono h3.sub⟩
theorem ClsAt.snoc {w0 w w' : World} {v v' : Value} {l : List Cla} {vs : List ClV} {c : Cla} {cv : ClV} {k : Nat} (hk : k = l.length) (hR : ClasR w0 l vs) (hx : Ext w0 w) (hown : w.ownsRow w0.heap.size 123 10 v k (vs.flatMap ClV.cells)) (hc : IsCla w0 c cv)
  (h : w'.ownsRow w0.heap.size 123 10 v' (k + 1) (vs.flatMap ClV.cells ++ cv.cells)) (hg : Chg (rowOf v) w w') : ClsAt w0 w' v' (l ++ [c]) := by
 refine ⟨vs ++ [cv], ?_, hR.snoc hc, hg.ext hx (fun y hy => (hown.lt y (mem_rowOf.1 hy)).1)⟩
 have : (l ++ [c]).length = k + 1 := by simp [hk]
 rw [this]
 simpa using h
theorem hasName_some {l : List Cla} {s : BA} {q : Nat} (h : findAt l s = some q) : hasName l s = true := by unfold hasName; rw [h]; rfl
theorem hasName_none {l : List Cla} {s : BA} (h : findAt l s = none) : hasName l s = false := by unfold hasName; rw [h]; rfl
theorem addAll_hit {l r : List Cla} {c : Cla} (h : hasName l c.name = true) : addAll l (c :: r) = none := by rw [addAll, if_pos h]
theorem addAll_next {l r : List Cla} {c : Cla} (h : hasName l c.name = false) : addAll l (c :: r) = addAll (l ++ [c]) r := by rw [addAll, if_neg (by simp [h])]
theorem addAll_len : (r l m : List Cla) -> addAll l r = some m -> m.length = l.length + r.length
 | [], l, m, h => by rw [addAll] at h; cases h; rfl
 | c :: r, l, m, h => by
  rw [addAll] at h
  by_cases hn : hasName l c.name = true
  ·rw [if_pos hn] at h; cases h
  rw [if_neg hn] at h
  have := addAll_len r _ m h
  simp at this ⊢; omega
def InFQ (R : List Cla × Int) (w : World) (e : Ending) (w' : World) : Prop := ∃ a c, e = .returned (.tuple #[.slice a R.1.length c, .int .i64 R.2]) /\ IsClas w' R.1 a R.1.length c /\ Ext w w'
theorem inFQ_err {R : List Cla × Int} {z : Int} {w w' : World} (h : R = ([], z)) (hx : Ext w w') : InFQ R w (.returned (.tuple #[.slice none 0 0, .int .i64 z])) w' := by
 subst h; exact ⟨none, 0, rfl, IsClas.nil _, hx⟩
theorem force_bad {h : Int} {l : List Cla} {x : Edm} {r : List Edm} {z : Int} (hz : z ≠ 0) (hs : edmStep h l x = ([], z)) : forceGo h l (x :: r) = ([], z) := by
 rw [forceGo, hs, if_pos hz]
theorem force_ok {h : Int} {l m : List Cla} {x : Edm} {r : List Edm} (hs : edmStep h l x = (m, 0)) : forceGo h l (x :: r) = forceGo h m r := by
 rw [forceGo, hs, if_neg (by simp)]
theorem step_out {h : Int} {l : List Cla} {x : Edm} (h1 : containsB x.frm x.upto h = false) : edmStep h l x = (l, 0) := by unfold edmStep; rw [if_pos h1]
theorem step_miss {h : Int} {l : List Cla} {x : Edm} {k : Nat} (h1 : containsB x.frm x.upto h = true) (hk : k < x.remove.length) (h2 : hasName l x.remove[k] = false) : edmStep h l x = ([], 7) := by
 unfold edmStep
 rw [if_neg (by simp [h1]), if_pos (by rw [List.all_eq_false]; exact ⟨_, List.getElem_mem hk, by simp [h2]⟩)]
theorem step_rest {h : Int} {l : List Cla} {x : Edm} (h1 : containsB x.frm x.upto h = true) (h2 : ∀ j (hj : j < x.remove.length), hasName l x.remove[j] = true) : edmStep h l x = stepRes (addAll (keptOf x.remove l) x.clauses) := by
 unfold edmStep
 rw [if_neg (by simp [h1]), if_neg]
 rw [Bool.not_eq_false, List.all_eq_true]
 intro y hy
 obtain ⟨j, hj, rfl⟩ := List.mem_iff_getElem.1 hy
 exact h2 j hj
theorem kept_take {rm : ZB} {l : List Cla} {k : Nat} (hk : k < l.length) : keptOf rm (l.take (k + 1)) = keptOf rm (l.take k) ++ (if (rm.any fun y => decide (y = l[k].name)) = true then [] else [l[k]]) := by
 unfold keptOf
 rw [List.take_succ_eq_append_getElem hk, List.filter_append]
 congr 1
 cases h : rm.any fun y => decide (y = l[k].name) <;> simp [h]
theorem rInForce_calls (x : Wrd) (v : Value) (h : Int) (w : World) (hw : IsWrd w x v) (hfit : x.fit) : Calls Tryz.prog 40 #[v, .int .i64 h] w (InFQ (inForce x h) w) := by
 have HWV := hI (fun W (hW : Ext w W) => rWording_calls x v W (hw.ext hW) hfit)
 obtain ⟨ca, cn, cn2, ea, en, ec, rfl, hcl, hed⟩ := hw
 have HC := hI hcl
 have HCN := hI hcl.len
 have HE := hI hed
 have HEN := hI hed.len
 have HFIT := hI hfit
 clear hcl hed hfit
 obtain ⟨R, hR⟩ : ∃ R, R = inForce x h := ⟨_, rfl⟩
 rw [<- hR]
 have HR := hI (show R = if wordingB x = false then ([], 5) else if hoursB h = false then ([], 1) else startRes h x.ends (addAll [] x.clauses) from hR)
 clear hR
 obtain ⟨wa, hwa⟩ : ∃ wa, wa = w.alloc (.cells #[.slice ca cn cn2, .slice ea en ec] 37) := ⟨_, rfl⟩
 have HXA := hI (show Ext w wa by rw [hwa]; exact (Ext.refl _).alloc _)
 have HBA := hI (show wa.heap[w.heap.size]? = some (.cells #[.slice ca cn cn2, .slice ea en ec] 37 (0, 0)) by rw [hwa]; exact alloc_new w _)
 obtain ⟨c0, c1, cf⟩ := blk2 HBA.out
 go_enter Tryz.func40, Tryz.ntmps40
 go_upto_region 1 with fail
 rw [<- hwa]
 clear hwa
 go_wp2_with fail
 refine (HWV.out wa HXA.out).mono ?_
 rintro r w1 ⟨rfl, hx1⟩
 have HX1 := hI (HXA.out.trans hx1)
 have HB1 := hI (hx1.blk HBA.out)
 clear hx1 c0 c1 cf HWV
 cases hwb : wordingB x
 ·have HF := hI (show R = ([], 5) by rw [HR.out, if_pos hwb])
  clear hwb
  go_wp2_with fail
  go_ret2
  exact inFQ_err HF.out HX1.out
 have hen : en <= 12 /\ cn <= 40 := by
  unfold wordingB clsB at hwb
  simp only [Bool.and_eq_true, decide_eq_true_eq] at hwb
  have := HEN.out
  have := HCN.out
  omega
 obtain ⟨hen, hcn⟩ := hen
 have HDL := hI (show ∀ y ∈ x.ends, y.clauses.length <= 40 /\ y.remove.length <= 40 by
  intro y hy
  unfold wordingB at hwb
  simp only [Bool.and_eq_true, List.all_eq_true] at hwb
  have := hwb.2 y hy
  unfold edmB clsB at this
  simp only [Bool.and_eq_true, decide_eq_true_eq] at this
  exact ⟨this.2.1, this.1.1.1.2⟩)
 go_wp2_with fail
 refine (rHours_calls h w1).mono ?_
 rintro r w2 ⟨rfl, hx2⟩
 have HX2 := hI (HX1.out.trans hx2)
 have HB2 := hI (hx2.blk HB1.out)
 clear hx2 HX1 HB1
 cases hhb : hoursB h
 ·have HF := hI (show R = ([], 1) by rw [HR.out, if_neg (by simp [hwb]), if_pos hhb])
  clear hwb hhb
  go_wp2_with fail
  go_ret2
  exact inFQ_err HF.out HX2.out
 obtain ⟨A, hA⟩ : ∃ A, addAll [] x.clauses = A := ⟨_, rfl⟩
 have HR2 := hI (show R = startRes h x.ends A by rw [HR.out, if_neg (by simp [hwb]), if_neg (by simp [hhb]), hA])
 have HA := hI hA
 clear hwb hhb hA HR
 have HSRC := hI (HC.out.ext HX2.out)
 have HLN := HCN
 go_wp2_with fail
 go_loopw [6, 7] (fun s t wr => ∃ (k : Nat) (L : List Cla), t = .int .i64 k /\ k <= cn /\ L.length <= k /\ addAll L (x.clauses.drop k) = A /\ ClsAt w2 wr s L /\ wr.heap[w.heap.size]? = some (.cells #[.slice ca cn cn2, .slice ea en ec] 37 (0, 0))) (fun _ t _ => cn - (intOf t).toNat)
 case atStart => exact ⟨0, [], rfl, Nat.zero_le _, Nat.zero_le _, HA.out, ClsAt.nil _, HB2.out⟩
 case round =>
  obtain ⟨k, L, rfl, hk, hll, hadd, hat, hbx⟩ := hrel
  obtain ⟨wo, rfl⟩ : ∃ wo : World, wo = wr := ⟨_, rfl⟩
  obtain ⟨vs, hown, hcr, hxr⟩ := hat
  obtain ⟨a, cc, hav, hcla⟩ := ClsAt.clas ⟨vs, hown, hcr, hxr⟩
  subst hav
  obtain ⟨ln, hln⟩ : ∃ ln, ln = L.length := ⟨_, rfl⟩
  rw [<- hln] at hown hcla hll ⊢
  have HLNE := hI hln
  have HCLA := hI hcla
  have HOWN := hI hown
  have HCR := hI hcr
  have HXR := hI hxr
  have HADD := hI hadd
  clear hln hcla hown hcr hxr hadd
  have HBX := hI hbx
  obtain ⟨b0, b1, bf⟩ := blk2 hbx
  clear hbx
  by_cases hkn : k < cn
  ·have hkl : k < x.clauses.length := by have := HLN.out; omega
   have t1 : decide ((k : Int) < (cn : Int)) = true := decide_eq_true (by omega)
   obtain ⟨b, off, cv, rfl, hcla, hrow⟩ := HSRC.out.at hkl
   obtain ⟨c0, c1, c2, c3, c4, c5, c6, c7, c8, c9⟩ := (hrow.mono HXR.out.sub).ten
   have HCQ := hI hcla
   have HNM := hI hcla.2.1
   have HFND := hI (rFind_calls L a ln cc cv.name wo HCLA.out (by omega))
   have HAD := hI (show addAll L (x.clauses[k] :: x.clauses.drop (k + 1)) = A by have := HADD.out; rwa [dropAt hkl] at this)
   have HC2 := hI (show cv.kind = cv.kind from rfl)
   clear hcla hrow
   cases hf : findAt L cv.name with
   | some q =>
    have HF := hI (show A = none by rw [<- HAD.out]; exact addAll_hit (by rw [<- HNM.out]; exact hasName_some hf))
    rw [hf] at HFND
    unfold optV at HFND
    simp only [Option.getD_some, Option.isSome_some] at HFND
    clear hf
    go_wp2_with fail
    refine HFND.out.mono ?_
    rintro r w3 ⟨rfl, rfl⟩
    go_wp2_with fail
    go_ret2
    exact inFQ_err (by rw [HR2.out, HF.out]; rfl) (HX2.out.trans HXR.out)
   | none =>
    have HF := hI (show addAll (L ++ [x.clauses[k]]) (x.clauses.drop (k + 1)) = A by rw [<- HAD.out]; exact (addAll_next (by rw [<- HNM.out]; exact hasName_none hf)).symm)
    rw [hf] at HFND
    unfold optV at HFND
    simp only [Option.getD_none, Option.isSome_none] at HFND
    clear hf
    go_wp2_with fail
    refine HFND.out.mono ?_
    rintro r w3 ⟨rfl, rfl⟩
    have hsz := HXR.out.size
    go_wp2_with (at_builtin; refine wpList_append_at elemCla rfl _ _ rfl w2.heap.size _ ln _ rfl HOWN.out _ 1 1 rfl (by simp) rfl (by simp [Value.oneCell']) (by unfold maxLen; omega) (by omega) (by omega) ?_)
    intro v8 w8 hown8 hc8 hw8
    have HAT8 := hI (ClsAt.snoc (cv := cv) HLNE.out HCR.out HXR.out HOWN.out HCQ.out (by simpa [ClV.cells] using hown8) hc8)
    have HL8 := hI (show (L ++ [x.clauses[k]]).length <= k + 1 by rw [List.length_append, <- HLNE.out]; simp; omega)
    have HBX8 := hI (hc8.blk HBX.out (fun hm => by have := (HOWN.out.lt _ (mem_rowOf.1 hm)).1; have := blk_lt HB2.out; omega))
    obtain ⟨a8, c8, hv8⟩ := owns_formG hown8
    subst hv8
    clear hown8 hc8 hw8
    go_wp2_with fail
    go_roundw
    case rel => exact ⟨k + 1, L ++ [x.clauses[k]], by go_num, by omega, HL8.out, HF.out, HAT8.out, HBX8.out⟩
    case measure => simp [intOf]; omega
  have t1 : decide ((k : Int) < (cn : Int)) = false := decide_eq_false (by omega)
  have HAL := hI (show A = some L by
   have := HADD.out
   rw [List.drop_eq_nil_of_le (by have := HLN.out; omega), addAll] at this
   exact this.symm)
  go_wp2_with fail
  have HLB := hI (show ln <= 100 by omega)
  have HGO := hI (show forceGo h L x.ends = R by rw [HR2.out, HAL.out]; rfl)
  rw [HLNE.out] at HLB HCLA ⊢
  have HX3 := hI (HX2.out.trans HXR.out)
  clear HLNE HOWN HCR HXR HADD HAL hkn hk hll t1 b0 b1 bf HSRC HLN
  have HEX := hI (fun W (hW : Ext wo W) => HE.out.ext (HX3.out.trans hW))
  obtain ⟨w3, hw3⟩ : ∃ w3, w3 = wo := ⟨_, rfl⟩
  rw [<- hw3] at HEX HX3 HBX HCLA ⊢
  clear hw3
  go_loopw [6, 10] (fun s t wr => ∃ (k : Nat) (L : List Cla) (a : OA) (c : Nat), s = .slice a L.length c /\ t = .int .i64 k /\ k <= en /\ L.length <= 100 /\ forceGo h L (x.ends.drop k) = R /\ IsClas wr L a L.length c /\ wr.heap[w.heap.size]? = some (.cells #[.slice ca cn cn2, .slice ea en ec] 37 (0, 0)) /\ Ext w3 wr) (fun _ t _ => en - (intOf t).toNat)
  case atStart => exact ⟨0, L, a, cc, rfl, rfl, Nat.zero_le _, HLB.out, HGO.out, HCLA.out, HBX.out, Ext.refl _⟩
  case round =>
   obtain ⟨k, L, a, cc, rfl, rfl, hk, hll, hgo, hcla, hbx, hxr⟩ := hrel
   obtain ⟨wo, rfl⟩ : ∃ wo : World, wo = wr := ⟨_, rfl⟩
   obtain ⟨ln, hln⟩ : ∃ ln, ln = L.length := ⟨_, rfl⟩
   rw [<- hln] at hcla hll ⊢
   have HLNE := hI hln
   have HCLA := hI hcla
   have HGO := hI hgo
   have HBX := hI hbx
   have HXR := hI hxr
   obtain ⟨b0, b1, bf⟩ := blk2 hbx
   clear hln hcla hgo hbx hxr
   by_cases hkn : k < en
   case neg =>
    have t1 : decide ((k : Int) < (en : Int)) = false := decide_eq_false (by omega)
    have HF := hI (show R = (L, 0) by
     have := HGO.out
     rw [List.drop_eq_nil_of_le (by have := HEN.out; omega), forceGo] at this
     exact this.symm)
    go_wp2_with fail
    go_ret2
    refine ⟨a, cc, by rw [HF.out, HLNE.out]; rfl, ?_, HX3.out.trans HXR.out⟩
    rw [HF.out]
    have := HCLA.out
    rwa [HLNE.out] at this
   have hkl : k < x.ends.length := by have := HEN.out; omega
   have t1 : decide ((k : Int) < (en : Int)) = true := decide_eq_true (by omega)
   obtain ⟨b, off, v, rfl, hvx, hedm, e0, e1, e2, e3⟩ := (HEX.out wo HXR.out).at hkl
   have HGO2 := hI (show forceGo h L (v.x :: x.ends.drop (k + 1)) = R by have := HGO.out; rwa [dropAt hkl, <- hvx] at this)
   have hdl := HDL.out _ (List.getElem_mem hkl)
   have hft := HFIT.out.2.2 _ (List.getElem_mem hkl)
   rw [<- hvx] at hdl hft
   obtain ⟨X, hX⟩ : ∃ X, X = v.x := ⟨_, rfl⟩
   rw [<- hX] at HGO2 hdl hft
   obtain ⟨fr, hfr⟩ : ∃ fr, fr = X.frm := ⟨_, rfl⟩
   obtain ⟨tt, htt⟩ : ∃ tt, tt = X.upto := ⟨_, rfl⟩
   obtain ⟨ra, hra⟩ : ∃ ra, ra = v.ra := ⟨_, rfl⟩
   obtain ⟨rn, hrn⟩ : ∃ rn, rn = v.rn := ⟨_, rfl⟩
   obtain ⟨rc, hrc⟩ : ∃ rc, rc = v.rc := ⟨_, rfl⟩
   obtain ⟨da, hda⟩ : ∃ da, da = v.ca := ⟨_, rfl⟩
   obtain ⟨dn, hdn⟩ : ∃ dn, dn = v.cn := ⟨_, rfl⟩
   obtain ⟨dc, hdc⟩ : ∃ dc, dc = v.cc := ⟨_, rfl⟩
   have hst := hedm.1
   have hcs := hedm.2
   rw [<- hX] at e0 e1 hst hcs
   rw [<- hra, <- hrn, <- hrc] at hst e2
   rw [<- hda, <- hdn, <- hdc] at hcs e3
   rw [<- hfr] at e0
   rw [<- htt] at e1
   have HFR := hI hfr
   have HTT := hI htt
   have HST := hI hst
   have HCS := hI hcs
   have HRN := hI hst.1
   have HDN := hI hcs.len
   have hrn40 : rn <= 40 := by have := hst.1; omega
   have hdn40 : dn <= 40 := by have := hcs.len; omega
   clear hvx hedm hX hfr htt hra hrn hrc hda hdn hdc hst hcs hdl hft
   obtain ⟨wb, hwb⟩ : ∃ wb, wb = wo.alloc (.cells #[.int .i64 fr, .int .i64 tt, .slice ra rn rc, .slice da dn dc] 117) := ⟨_, rfl⟩
   have HXB := hI (show Ext wo wb by rw [hwb]; exact (Ext.refl _).alloc _)
   have HBB := hI (show wb.heap[wo.heap.size]? = some (.cells #[.int .i64 fr, .int .i64 tt, .slice ra rn rc, .slice da dn dc] 117 (0, 0)) by rw [hwb]; exact alloc_new wo _)
   have HBX2 := hI (HXB.out.blk HBX.out)
   go_upto_region 17 with fail
   rw [<- hwb]
   clear hwb b0 b1 bf e0 e1 e2 e3
   obtain ⟨g0, g1, g2, g3, gf⟩ := blk4c HBB.out
   have hltb := blk_lt HBB.out
   go_wp2_with fail
   refine (rContains_calls fr tt h wb).mono ?_
   rintro r w4 ⟨rfl, hx4⟩
   have HX4 := hI (HXB.out.trans hx4)
   have HB4 := hI (hx4.blk HBB.out)
   have HBX4 := hI (hx4.blk HBX2.out)
   have HCL4 := hI (HCLA.out.ext HX4.out)
   clear hx4 g0 g1 g2 g3 gf hltb HXB HBB HBX2
   obtain ⟨g0, g1, g2, g3, gf⟩ := blk4c HB4.out
   have hltb := blk_lt HB4.out
   cases hcb : containsB fr tt h
   ·have HST0 := hI (step_out (h := h) (l := L) (x := X) (by rw [<- HFR.out, <- HTT.out]; exact hcb))
    have HG := hI ((force_ok HST0.out).symm.trans HGO2.out)
    clear hcb
    go_wp2_with fail
    go_roundw
    case rel =>
     rw [HLNE.out] at HCL4 hll ⊢
     exact ⟨k + 1, L, a, cc, rfl, by go_num, by omega, hll, HG.out, HCL4.out, HBX4.out, HXR.out.trans HX4.out⟩
    case measure => simp [intOf]; omega
   have HCB := hI (show containsB X.frm X.upto h = true by rw [<- HFR.out, <- HTT.out]; exact hcb)
   clear hcb
   have HRM := hI (HST.out.ext HX4.out)
   go_wp2_with fail
   go_loop [12] (fun t => ∃ j : Nat, t = .int .i64 j /\ j <= rn /\ (∀ i (hi : i < X.remove.length), i < j -> hasName L X.remove[i] = true)) (fun t => rn - (intOf t).toNat)
   case atStart => exact ⟨0, rfl, Nat.zero_le _, fun i _ h => by omega⟩
   case round =>
    obtain ⟨j, rfl, hj, hno⟩ := hrel
    have HNO := hI hno
    clear hno
    by_cases hjn : j < rn
    case pos =>
     have hjl : j < X.remove.length := by have := HRN.out; omega
     have t2 : decide ((j : Int) < (rn : Int)) = true := decide_eq_true (by omega)
     obtain ⟨b2, off2, rfl, s0⟩ := HRM.out.2.2.2 j hjl
     have HFND := hI (rFind_calls L a ln cc X.remove[j] w4 HCL4.out (by omega))
     cases hf : findAt L X.remove[j] with
     | some q =>
      have HF := hI (hasName_some hf)
      rw [hf] at HFND
      unfold optV at HFND
      simp only [Option.getD_some, Option.isSome_some] at HFND
      clear hf
      go_wp2_with fail
      refine HFND.out.mono ?_
      rintro r w5 ⟨rfl, rfl⟩
      go_wp2_with fail
      go_round
      case rel =>
       refine ⟨j + 1, by go_num, by omega, fun i hi hij => ?_⟩
       by_cases e : i = j
       ·subst e; exact HF.out
       exact HNO.out i hi (by omega)
      case measure => simp [intOf]; omega
     | none =>
      have HF := hI (show R = ([], 7) by rw [<- HGO2.out]; exact force_bad (by decide) (step_miss HCB.out hjl (hasName_none hf)))
      rw [hf] at HFND
      unfold optV at HFND
      simp only [Option.getD_none, Option.isSome_none] at HFND
      clear hf
      go_wp2_with fail
      refine HFND.out.mono ?_
      rintro r w5 ⟨rfl, rfl⟩
      go_wp2_with fail
      go_ret2
      exact inFQ_err HF.out (HX3.out.trans (HXR.out.trans HX4.out))
    case neg =>
     have t2 : decide ((j : Int) < (rn : Int)) = false := decide_eq_false (by omega)
     obtain ⟨A, hA⟩ : ∃ A, addAll (keptOf X.remove L) X.clauses = A := ⟨_, rfl⟩
     have HST0 := hI (show edmStep h L X = stepRes A by
      rw [<- hA]; exact step_rest HCB.out fun i hi => HNO.out i hi (by have := HRN.out; omega))
     have HA := hI hA
     clear hA
     go_wp2_with fail
     go_loopw [15, 16] (fun s t wr => ∃ (k : Nat) (M : List Cla), t = .int .i64 k /\ k <= ln /\ M = keptOf X.remove (L.take k) /\ M.length <= k /\ ClsAt w4 wr s M /\ wr.heap[w.heap.size]? = some (.cells #[.slice ca cn cn2, .slice (some ⟨b, off, none⟩) en ec] 37 (0, 0)) /\ wr.heap[wo.heap.size]? = some (.cells #[.int .i64 fr, .int .i64 tt, .slice ra rn rc, .slice da dn dc] 117 (0, 0))) (fun _ t _ => ln - (intOf t).toNat)
     case atStart => exact ⟨0, [], rfl, Nat.zero_le _, rfl, Nat.zero_le _, ClsAt.nil _, HBX4.out, HB4.out⟩
     case round =>
      obtain ⟨q, M, rfl, hq, hM, hml, hat, hbx, hbe⟩ := hrel
      obtain ⟨wq, rfl⟩ : ∃ wq : World, wq = wr := ⟨_, rfl⟩
      obtain ⟨vs, hown, hcr, hxr⟩ := hat
      obtain ⟨a5, c5, hav, hcla⟩ := ClsAt.clas ⟨vs, hown, hcr, hxr⟩
      obtain ⟨mn, hmn⟩ : ∃ mn, mn = M.length := ⟨_, rfl⟩
      rw [<- hmn] at hown hcla hml
      rw [<- hmn] at hav
      have HMN := hI hmn
      have HMM := hI hM
      have HOWN := hI hown
      have HCR := hI hcr
      have HXQ := hI hxr
      have HBX5 := hI hbx
      have HBE5 := hI hbe
      have HAT := hI (show ClsAt w4 wq u15 M from ⟨vs, hmn ▸ hown, hcr, hxr⟩)
      obtain ⟨b0, b1, bf⟩ := blk2 hbx
      obtain ⟨y0, y1, y2, y3, yf⟩ := blk4c hbe
      have hlte := blk_lt hbe
      clear hmn hM hown hcla hcr hxr hbx hbe
      by_cases hqn : q < ln
      case pos =>
       have hql : q < L.length := by have := HLNE.out; omega
       have t3 : decide ((q : Int) < (ln : Int)) = true := decide_eq_true (by omega)
       obtain ⟨b3, off3, cv, rfl, hcla, hrow⟩ := HCL4.out.at hql
       have HCQ := hI hcla
       have HRW := hI (show ∀ W, Ext w4 W -> _ from fun W hW => (hrow.mono hW.sub).ten)
       obtain ⟨c0, c1, c2, c3, c4, c5', c6, c7, c8, c9⟩ := HRW.out wq HXQ.out
       have HKT := hI (kept_take (rm := X.remove) hql)
       have hnm := hcla.2.1
       rw [<- hnm] at HKT
       have HWI := hI (fun W (hW : Ext w4 W) => rWithin_calls X.remove ra rn rc cv.name W (HRM.out.ext hW) (by omega))
       obtain ⟨D, hD⟩ : ∃ D, D = (X.remove.any fun y => decide (y = cv.name)) := ⟨_, rfl⟩
       rw [<- hD] at HWI HKT
       clear hcla hrow hnm hD
       subst hav
       go_upto_region 28 with fail
       go_still_tail 7, (by kernel_rfl)
       change wpList _ _ _ _ _ wq.drew
       have hxd : Ext wq wq.drew := (Ext.refl wq).drew
       generalize wq.drew = wd at hxd ⊢
       have HXD := hI (HXQ.out.trans hxd)
       have HBX6 := hI (hxd.blk HBX5.out)
       have HBE6 := hI (hxd.blk HBE5.out)
       have HO6 := hI (owns_ext HOWN.out hxd)
       clear hxd b0 b1 bf y0 y1 y2 y3 yf hlte c0 c1 c2 c3 c4 c5' c6 c7 c8 c9
       obtain ⟨y0, y1, y2, y3, yf⟩ := blk4c HBE6.out
       obtain ⟨c0, c1, c2, c3, c4, c5', c6, c7, c8, c9⟩ := HRW.out wd HXD.out
       have hlte := blk_lt HBE6.out
       go_wp2_with fail
       refine (HWI.out wd HXD.out).mono ?_
       rintro r w6 ⟨rfl, rfl⟩
       cases D
       ·have hsz := HXD.out.size
        go_wp2_with (at_builtin; refine wpList_append_at elemCla rfl _ _ rfl w4.heap.size _ mn _ rfl HO6.out _ 1 1 rfl (by simp) rfl (by simp [Value.oneCell']) (by unfold maxLen; omega) (by omega) (by omega) ?_)
        intro v8 w8 hown8 hc8 hw8
        have HAT8 := hI (ClsAt.snoc (cv := cv) HMN.out HCR.out HXD.out HO6.out HCQ.out (by simpa [ClV.cells] using hown8) hc8)
        have HL8 := hI (show (M ++ [L[q]]).length <= q + 1 by rw [List.length_append, <- HMN.out]; simp; omega)
        have HBX8 := hI (hc8.blk HBX6.out (fun hm => by have := (HO6.out.lt _ (mem_rowOf.1 hm)).1; have := blk_lt HBX4.out; omega))
        have HBE8 := hI (hc8.blk HBE6.out (fun hm => by have := (HO6.out.lt _ (mem_rowOf.1 hm)).1; have := blk_lt HB4.out; omega))
        have HM8 := hI (show M ++ [L[q]] = keptOf X.remove (L.take (q + 1)) by rw [HKT.out, <- HMM.out]; simp)
        obtain ⟨a8, c8', hv8⟩ := owns_formG hown8
        subst hv8
        clear hown8 hc8 hw8
        go_wp2_with fail
        go_roundw
        case rel => exact ⟨q + 1, M ++ [L[q]], by go_num, by omega, HM8.out, HL8.out, HAT8.out, HBX8.out, HBE8.out⟩
        case measure => simp [intOf]; omega
       have HM8 := hI (show M = keptOf X.remove (L.take (q + 1)) by rw [HKT.out, <- HMM.out]; simp)
       have HAT8 := hI (show ClsAt w4 wd (.slice a5 mn c5) M from ⟨vs, HMN.out ▸ HO6.out, HCR.out, HXD.out⟩)
       go_wp2_with fail
       go_roundw
       case rel => exact ⟨q + 1, M, by go_num, by omega, HM8.out, by rw [<- HMN.out]; omega, HAT8.out, HBX6.out, HBE6.out⟩
       case measure => simp [intOf]; omega
      case neg =>
       have t3 : decide ((q : Int) < (ln : Int)) = false := decide_eq_false (by omega)
       have HMK := hI (show M = keptOf X.remove L by rw [HMM.out, List.take_of_length_le (by have := HLNE.out; omega)])
       subst hav
       go_wp2_with fail
       have HSRC := hI (HCS.out.ext HX4.out)
       have HXR3 := HXR
       have HLN := HDN
       go_loopw [15, 17] (fun s t wr => ∃ (k : Nat) (L : List Cla), t = .int .i64 k /\ k <= dn /\ L.length <= ln + k /\ addAll L (X.clauses.drop k) = A /\ ClsAt w4 wr s L /\ wr.heap[w.heap.size]? = some (.cells #[.slice ca cn cn2, .slice (some ⟨b, off, none⟩) en ec] 37 (0, 0)) /\ wr.heap[wo.heap.size]? = some (.cells #[.int .i64 fr, .int .i64 tt, .slice ra rn rc, .slice da dn dc] 117 (0, 0))) (fun _ t _ => dn - (intOf t).toNat)
       case atStart => exact ⟨0, M, rfl, Nat.zero_le _, by rw [<- HMN.out]; omega, by rw [HMK.out]; exact HA.out, HAT.out, HBX5.out, HBE5.out⟩
       case round =>
        clear HAT HBX5 HBE5 HOWN HCR HXQ b0 b1 bf y0 y1 y2 y3 yf hlte HMN HMM HMK hml hq hqn t3
        obtain ⟨p, Q, rfl, hp, hll, hadd, hat, hbx, hbe⟩ := hrel
        obtain ⟨wp, rfl⟩ : ∃ wp : World, wp = wr := ⟨_, rfl⟩
        have HBX := hI hbx
        have HBE := hI hbe
        obtain ⟨y0, y1, y2, y3, yf⟩ := blk4c hbe
        have hlte := blk_lt hbe
        clear hbx hbe
        obtain ⟨vs, hown, hcr, hxr⟩ := hat
        obtain ⟨a7, cq, hav, hcla⟩ := ClsAt.clas ⟨vs, hown, hcr, hxr⟩
        subst hav
        obtain ⟨pn, hln⟩ : ∃ pn, pn = Q.length := ⟨_, rfl⟩
        rw [<- hln] at hown hcla hll ⊢
        have HLNE := hI hln
        have HCLA := hI hcla
        have HOWN := hI hown
        have HCR := hI hcr
        have HXR := hI hxr
        have HADD := hI hadd
        clear hln hcla hown hcr hxr hadd
        by_cases hkn : p < dn
        ·have hkl : p < X.clauses.length := by have := HLN.out; omega
         have t1 : decide ((p : Int) < (dn : Int)) = true := decide_eq_true (by omega)
         obtain ⟨b, off, cv, rfl, hcla, hrow⟩ := HSRC.out.at hkl
         obtain ⟨c0, c1, c2, c3, c4, c5, c6, c7, c8, c9⟩ := (hrow.mono HXR.out.sub).ten
         have HCQ := hI hcla
         have HNM := hI hcla.2.1
         have HFND := hI (rFind_calls Q a7 pn cq cv.name wp HCLA.out (by omega))
         have HAD := hI (show addAll Q (X.clauses[p] :: X.clauses.drop (p + 1)) = A by have := HADD.out; rwa [dropAt hkl] at this)
         have HC2 := hI (show cv.kind = cv.kind from rfl)
         clear hcla hrow
         cases hf : findAt Q cv.name with
         | some q =>
          have HF := hI (show A = none by rw [<- HAD.out]; exact addAll_hit (by rw [<- HNM.out]; exact hasName_some hf))
          rw [hf] at HFND
          unfold optV at HFND
          simp only [Option.getD_some, Option.isSome_some] at HFND
          clear hf
          go_wp2_with fail
          refine HFND.out.mono ?_
          rintro r w3 ⟨rfl, rfl⟩
          go_wp2_with fail
          go_ret2
          exact inFQ_err (show R = ([], 8) by rw [<- HGO2.out]; exact force_bad (by decide) (by rw [HST0.out, HF.out]; rfl)) (HX3.out.trans (HXR3.out.trans (HX4.out.trans HXR.out)))
         | none =>
          have HF := hI (show addAll (Q ++ [X.clauses[p]]) (X.clauses.drop (p + 1)) = A by rw [<- HAD.out]; exact (addAll_next (by rw [<- HNM.out]; exact hasName_none hf)).symm)
          rw [hf] at HFND
          unfold optV at HFND
          simp only [Option.getD_none, Option.isSome_none] at HFND
          clear hf
          go_wp2_with fail
          refine HFND.out.mono ?_
          rintro r w3 ⟨rfl, rfl⟩
          have hsz := HXR.out.size
          go_wp2_with (at_builtin; refine wpList_append_at elemCla rfl _ _ rfl w4.heap.size _ pn _ rfl HOWN.out _ 1 1 rfl (by simp) rfl (by simp [Value.oneCell']) (by unfold maxLen; omega) (by omega) (by omega) ?_)
          intro v8 w8 hown8 hc8 hw8
          have HAT8 := hI (ClsAt.snoc (cv := cv) HLNE.out HCR.out HXR.out HOWN.out HCQ.out (by simpa [ClV.cells] using hown8) hc8)
          have HL8 := hI (show (Q ++ [X.clauses[p]]).length <= ln + p + 1 by rw [List.length_append, <- HLNE.out]; simp; omega)
          have HBX8 := hI (hc8.blk HBX.out (fun hm => by have := (HOWN.out.lt _ (mem_rowOf.1 hm)).1; have := blk_lt HBX4.out; omega))
          have HBE8 := hI (hc8.blk HBE.out (fun hm => by have := (HOWN.out.lt _ (mem_rowOf.1 hm)).1; have := blk_lt HB4.out; omega))
          obtain ⟨a8, c8, hv8⟩ := owns_formG hown8
          subst hv8
          clear hown8 hc8 hw8
          go_wp2_with fail
          go_roundw
          case rel => exact ⟨p + 1, Q ++ [X.clauses[p]], by go_num, by omega, HL8.out, HF.out, HAT8.out, HBX8.out, HBE8.out⟩
          case measure => simp [intOf]; omega
        have t1 : decide ((p : Int) < (dn : Int)) = false := decide_eq_false (by omega)
        have HAL := hI (show A = some Q by
         have := HADD.out
         rw [List.drop_eq_nil_of_le (by have := HLN.out; omega), addAll] at this
         exact this.symm)
        by_cases h100 : 100 < pn
        ·have t5 : decide ((100 : Int) < (pn : Int)) = true := decide_eq_true (by omega)
         have HF := hI (show R = ([], 4) by rw [<- HGO2.out]; exact force_bad (by decide) (by rw [HST0.out, HAL.out, stepRes, if_pos (by rw [<- HLNE.out]; exact h100)]))
         go_wp2_with fail
         go_ret2
         exact inFQ_err HF.out (HX3.out.trans (HXR3.out.trans (HX4.out.trans HXR.out)))
        have t5 : decide ((100 : Int) < (pn : Int)) = false := decide_eq_false (by omega)
        have HG := hI ((force_ok (show edmStep h L X = (Q, 0) by rw [HST0.out, HAL.out, stepRes, if_neg (by rw [<- HLNE.out]; exact h100)])).symm.trans HGO2.out)
        go_wp2_with fail
        rw [HLNE.out] at HCLA h100 ⊢
        go_roundw
        case rel => exact ⟨k + 1, Q, a7, cq, rfl, by go_num, by omega, by omega, HG.out, HCLA.out, HBX.out, HXR3.out.trans (HX4.out.trans HXR.out)⟩
        case measure => simp [intOf]; omega
end Go.Proofs.YtpkljcgihobaiaaGreat
