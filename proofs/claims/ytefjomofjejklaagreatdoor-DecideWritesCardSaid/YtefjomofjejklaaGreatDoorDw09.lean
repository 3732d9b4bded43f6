/-
  Texts of the claim, joined: Chkd, DChk, Used1.
-/
import Derived.Test.YtefjomofjejklaaGreatDoorDw06
import Derived.Test.YtefjomofjejklaaGreatDoorDw08
namespace Go.Proofs.YtefjomofjejklaaGreatDoor
set_option maxRecDepth 100000
set_option maxHeartbeats 32000000
open Go.RowKit Go.Maps
def put3 (w : World) (B : Nat) (v0 v1 v2 : Value) : World := ((w.setCell ⟨B, 0, none⟩ v0).setCell ⟨B, 1, none⟩ v1).setCell ⟨B, 2, none⟩ v2
theorem put3_blk {w : World} {B : Nat} {u0 u1 u2 : Value} {t : TypeId} (h : w.heap[B]? = some (.cells #[u0, u1, u2] t (0, 0))) (v0 v1 v2 : Value) : (put3 w B v0 v1 v2).heap[B]? = some (.cells #[v0, v1, v2] t (0, 0)) := by
 unfold put3
 have h0 := heap_setCell_same w B 0 _ _ v0 h
 have h1 := heap_setCell_same _ B 1 _ _ v1 h0
 have h2 := heap_setCell_same _ B 2 _ _ v2 h1
 rw [h2]; rfl
theorem put3_chg (w : World) (B : Nat) (v0 v1 v2 : Value) {N : ZN} (h : B ∈ N) : Chg N w (put3 w B v0 v1 v2) := by
 unfold put3
 exact (((Chg.refl _ _).setCell (Or.inl h) _).setCell (Or.inl h) _).setCell (Or.inl h) _
def lossZero : Value := .agg #[.slice none 0 0, .map none, .slice none 0 0]
def CheckedQ (s : List Attr) (l : List Cla) (e : Ex) (f : ZI) (n : Nat) (w : World) (r : Ending) (w' : World) : Prop := Ext w w' /\ ((evalErr s l e f ≠ 0 /\ r = .returned (.tuple #[lossZero, .int .i64 (evalErr s l e f)])) \/ (evalErr s l e f = 0 /\ ∃ lv : LossV, r = .returned (.tuple #[lv.val, .int .i64 0]) /\ IsLoss w' s l f lv n))
theorem Chk.fresh {s : List Attr} {l : List Cla} (h : Chk s l) {k : Nat} (hk : k < l.length) : defAt (l.take k) l[k].name = none := by
 cases hd : defAt (l.take k) l[k].name with
 | none => rfl
 | some d =>
  obtain ⟨h1, _, h3⟩ := defAt_atK hd
  have hdk : d < k := by simp at h1; omega
  have := h.uniq k d hk hdk
  rw [getD_take hdk] at h3
  rw [h3, getD_clK hk] at this
  exact absurd rfl this
theorem checked_calls (s : List Attr) (l : List Cla) (e : Ex) (f : ZI) (ev sv : Value) (a : OA) (n c : Nat) (fa : OA) (fn fc : Nat) (w : World) (hs : IsSchema w s sv) (hf : ∀ x ∈ s, x.fits) (hsl : s.length <= 1000000000000000) (hl : IsClas w l a n c) (hn : n <= 1000000) (hok : ∀ x ∈ l, x.fit) (he : IsEx w e ev) (hfew : e.few) (hfit : e.fits) (hi : IsIntF w f fa fn) (hfn : fn <= 1000000000000000) (ho : HasOps w) :
  Calls Tryz.prog 115 #[sv, .slice a n c, ev, .slice fa fn fc] w (CheckedQ s l e f n w) := by
 obtain ⟨sa, sn, sc, rfl, hsn⟩ := hs.slice
 have HCL := hI (fun W (hW : Ext w W) => cClauses_calls s l _ a n c W (hs.ext hW) hf hsl (hl.ext hW) (by omega) hok (ho.ext hW))
 have HEX := hI (fun W (hW : Ext w W) => checkExpr_calls s l a n c e ev _ W hf hsl (hl.ext hW) hn (fun x hx => (hok x hx).1) hfew hfit (ho.ext hW) (hs.ext hW) (he.ext hW))
 have HXP := hI (fun (h1 : (clausesErr s l).2 = 0) (h2 : exprErr s l e = 0) W (hW : Ext w W) => cExpanded_calls l a n c e ev W (hl.ext hW) (he.ext hW) ⟨by have := ref_size (exprErr_ref h2); omega, hfit, ref_bare (exprErr_ref h2)⟩ (by rw [hl.len]; have := (chk_of h1).len; omega) (fun x hx => ⟨(hok x hx).1, by have := (chk_of h1).size x hx; omega, (hok x hx).2.1, ref_bare ((chk_of h1).good x hx).2.2.1⟩))
 have HFC := hI (fun W (hW : Ext w W) => sValid_calls s _ f fa fn fc W (hs.ext hW) hf hsl (hi.ext hW) hfn)
 have HCK := hI (fun (h1 : (clausesErr s l).2 = 0) => chk_of h1)
 have HL := hI hl
 have HS := hI hs
 have HI := hI hi
 have HSZ := hI (fun x hx => (hok x hx).1)
 have HN := hI hl.len
 obtain ⟨aw, nw, cw, aa, na, ca, rfl, -⟩ := he.parts
 obtain ⟨R, hR⟩ : ∃ R, R = evalErr s l e f := ⟨_, rfl⟩
 unfold CheckedQ
 rw [<- hR]
 unfold evalErr at hR
 obtain ⟨⟨i0, E1⟩, hE1⟩ : ∃ E : Nat × Int, E = clausesErr s l := ⟨_, rfl⟩
 rw [<- hE1] at HCL hR
 have HXP1 := hI (fun (h1 : E1 = 0) => HXP.out (by rw [<- hE1]; exact h1))
 have HCK1 := hI (fun (h1 : E1 = 0) => HCK.out (by rw [<- hE1]; exact h1))
 clear HXP HCK
 obtain ⟨E2, hE2⟩ : ∃ E, E = exprErr s l e := ⟨_, rfl⟩
 rw [<- hE2] at HEX hR
 have HXP := hI (fun (h1 : E1 = 0) (h2 : E2 = 0) => HXP1.out h1 (by rw [<- hE2]; exact h2))
 clear HXP1
 obtain ⟨X, hX⟩ : ∃ X, X = expanded l e := ⟨_, rfl⟩
 rw [<- hX] at HXP hR
 obtain ⟨B, hB⟩ : ∃ B, B = factsB s f := ⟨_, rfl⟩
 rw [<- hB] at HFC hR
 have HR := hI hR
 clear hs hf hsl hl hok he hfew hfit hi hsn hR hE1 hE2 hX hB ho
 unfold exV at *
 obtain ⟨wa, hwa⟩ : ∃ wa, wa = ((w.alloc (.cells #[.slice sa sn sc] 24)).alloc (.cells #[.int .i64 e.op, .string e.name, .slice aw nw cw, .int .i64 e.lo, .int .i64 e.hi, .slice aa na ca] 45)).alloc (.cells #[.slice none 0 0, .map none, .slice none 0 0] 183) := ⟨_, rfl⟩
 have hxa : Ext w wa := by rw [hwa]; exact (((Ext.refl _).alloc _).alloc _).alloc _
 have hb0 : wa.heap[w.heap.size]? = some (.cells #[.slice sa sn sc] 24 (0, 0)) := by rw [hwa]; exact blk_alloc (blk_alloc (alloc_new w _))
 have hb1 : wa.heap[w.heap.size + 1]? = some (.cells #[.int .i64 e.op, .string e.name, .slice aw nw cw, .int .i64 e.lo, .int .i64 e.hi, .slice aa na ca] 45 (0, 0)) := by rw [hwa]; exact blk_alloc (alloc_atR (by simp))
 have hb2 : wa.heap[w.heap.size + 1 + 1]? = some (.cells #[.slice none 0 0, .map none, .slice none 0 0] 183 (0, 0)) := by rw [hwa]; exact alloc_atR (by simp)
 have HXA := hI hxa
 have HB0 := hI hb0
 have HB1 := hI hb1
 have HB2 := hI hb2
 obtain ⟨e0, ef⟩ := blk1 hb0
 clear hxa hb0 hb1 hb2
 unfold clsV at HCL
 go_enter Tryz.func115, Tryz.ntmps115
 go_upto_region 1 with fail
 rw [<- hwa]
 clear hwa
 go_wp2_with fail
 refine (HCL.out wa HXA.out).mono ?_
 rintro r w1 ⟨rfl, hx1⟩
 have HX1 := hI (HXA.out.trans hx1)
 have HB01 := hI (hx1.blk HB0.out)
 have HB11 := hI (hx1.blk HB1.out)
 have HB21 := hI (hx1.blk HB2.out)
 clear hx1 e0 ef HCL HB0 HB1 HB2
 by_cases h1 : E1 = 0
 case neg =>
  have t1 : (E1 != 0) = true := by simp [h1]
  have HQ := hI (show R = E1 by rw [HR.out, if_pos h1])
  have HNZ := hI h1
  clear h1
  obtain ⟨r0, r1, r2, rf⟩ := blk3 HB21.out
  go_wp2_with fail
  obtain ⟨wz, hwz⟩ : ∃ wz, wz = put3 w1 (w.heap.size + 1 + 1) (.slice none 0 0) (.map none) (.slice none 0 0) := ⟨_, rfl⟩
  have HZ := hI (show wz.heap[w.heap.size + 1 + 1]? = some (.cells #[.slice none 0 0, .map none, .slice none 0 0] 183 (0, 0)) by rw [hwz]; exact put3_blk HB21.out _ _ _)
  have HXZ := hI (show Ext w wz by rw [hwz]; exact (put3_chg w1 (w.heap.size + 1 + 1) (.slice none 0 0) (.map none) (.slice none 0 0) (N := [w.heap.size + 1 + 1]) (by simp)).ext HX1.out (fun y hy => by simp only [List.mem_singleton] at hy; omega))
  unfold put3 at hwz
  rw [<- hwz]
  clear hwz
  obtain ⟨z0, z1, z2, zf⟩ := blk3 HZ.out
  refine bodyPost_ret (v := .tuple #[lossZero, .int .i64 E1]) (by simp [results, Tryz.results115, go_sem, lossZero, z0, z1, z2]) rfl ?_
  exact ⟨HXZ.out, Or.inl ⟨by rw [HQ.out]; exact HNZ.out, by rw [HQ.out]⟩⟩
 have t1 : (E1 != 0) = false := by simp [h1]
 have HR2 := hI (show R = if E2 ≠ 0 then E2 else if 2000 < X then 4 else if B = false then 16 else 0 by rw [HR.out, if_neg (by simpa using h1)])
 have HXP1 := hI (HXP.out h1)
 have HCK := hI (HCK1.out h1)
 clear h1 HR HXP HCK1
 obtain ⟨e0, ef⟩ := blk1 HB01.out
 obtain ⟨f0, f1, f2, f3, f4, f5, ff⟩ := blk6 HB11.out
 go_wp2_with fail
 refine (HEX.out w1 HX1.out).mono ?_
 rintro r w2 ⟨rfl, hx2⟩
 have HX2 := hI (HX1.out.trans hx2)
 have HB02 := hI (hx2.blk HB01.out)
 have HB12 := hI (hx2.blk HB11.out)
 have HB22 := hI (hx2.blk HB21.out)
 clear hx2 e0 ef f0 f1 f2 f3 f4 f5 ff HEX
 by_cases h2 : E2 = 0
 case neg =>
  have t2 : (E2 != 0) = true := by simp [h2]
  have HQ := hI (show R = E2 by rw [HR2.out, if_pos h2])
  have HNZ := hI h2
  clear h2
  obtain ⟨r0, r1, r2, rf⟩ := blk3 HB22.out
  go_wp2_with fail
  obtain ⟨wz, hwz⟩ : ∃ wz, wz = put3 w2 (w.heap.size + 1 + 1) (.slice none 0 0) (.map none) (.slice none 0 0) := ⟨_, rfl⟩
  have HZ := hI (show wz.heap[w.heap.size + 1 + 1]? = some (.cells #[.slice none 0 0, .map none, .slice none 0 0] 183 (0, 0)) by rw [hwz]; exact put3_blk HB22.out _ _ _)
  have HXZ := hI (show Ext w wz by rw [hwz]; exact (put3_chg w2 (w.heap.size + 1 + 1) (.slice none 0 0) (.map none) (.slice none 0 0) (N := [w.heap.size + 1 + 1]) (by simp)).ext HX2.out (fun y hy => by simp only [List.mem_singleton] at hy; omega))
  unfold put3 at hwz
  rw [<- hwz]
  clear hwz
  obtain ⟨z0, z1, z2, zf⟩ := blk3 HZ.out
  refine bodyPost_ret (v := .tuple #[lossZero, .int .i64 E2]) (by simp [results, Tryz.results115, go_sem, lossZero, z0, z1, z2]) rfl ?_
  exact ⟨HXZ.out, Or.inl ⟨by rw [HQ.out]; exact HNZ.out, by rw [HQ.out]⟩⟩
 have t2 : (E2 != 0) = false := by simp [h2]
 have HR3 := hI (show R = if 2000 < X then 4 else if B = false then 16 else 0 by rw [HR2.out, if_neg (by simpa using h2)])
 have HXP2 := hI (HXP1.out h2)
 clear h2 HR2 HXP1
 obtain ⟨f0, f1, f2, f3, f4, f5, ff⟩ := blk6 HB12.out
 go_wp2_with fail
 refine (HXP2.out w2 HX2.out).mono ?_
 rintro r w3 ⟨rfl, hx3⟩
 have HX3 := hI (HX2.out.trans hx3)
 have HB03 := hI (hx3.blk HB02.out)
 have HB23 := hI (hx3.blk HB22.out)
 clear hx3 f0 f1 f2 f3 f4 f5 ff HXP2
 by_cases h3 : 2000 < X
 case pos =>
  have t3 : decide ((2000 : Int) < (X : Int)) = true := decide_eq_true (by omega)
  have HQ := hI (show R = 4 by rw [HR3.out, if_pos h3])
  clear h3
  obtain ⟨r0, r1, r2, rf⟩ := blk3 HB23.out
  go_wp2_with fail
  obtain ⟨wz, hwz⟩ : ∃ wz, wz = put3 w3 (w.heap.size + 1 + 1) (.slice none 0 0) (.map none) (.slice none 0 0) := ⟨_, rfl⟩
  have HZ := hI (show wz.heap[w.heap.size + 1 + 1]? = some (.cells #[.slice none 0 0, .map none, .slice none 0 0] 183 (0, 0)) by rw [hwz]; exact put3_blk HB23.out _ _ _)
  have HXZ := hI (show Ext w wz by rw [hwz]; exact (put3_chg w3 (w.heap.size + 1 + 1) (.slice none 0 0) (.map none) (.slice none 0 0) (N := [w.heap.size + 1 + 1]) (by simp)).ext HX3.out (fun y hy => by simp only [List.mem_singleton] at hy; omega))
  unfold put3 at hwz
  rw [<- hwz]
  clear hwz
  obtain ⟨z0, z1, z2, zf⟩ := blk3 HZ.out
  refine bodyPost_ret (v := .tuple #[lossZero, .int .i64 4]) (by simp [results, Tryz.results115, go_sem, lossZero, z0, z1, z2]) rfl ?_
  exact ⟨HXZ.out, Or.inl ⟨by rw [HQ.out]; decide, by rw [HQ.out]⟩⟩
 have t3 : decide ((2000 : Int) < (X : Int)) = false := decide_eq_false (by omega)
 have HR4 := hI (show R = if B = false then 16 else 0 by rw [HR3.out, if_neg h3])
 clear h3 HR3
 obtain ⟨e0, ef⟩ := blk1 HB03.out
 go_wp2_with fail
 refine (HFC.out w3 HX3.out).mono ?_
 rintro r w4 ⟨rfl, hx4⟩
 have HX4 := hI (HX3.out.trans hx4)
 have HB04 := hI (hx4.blk HB03.out)
 have HB24 := hI (hx4.blk HB23.out)
 clear hx4 e0 ef HFC
 cases B
 case false =>
  have HQ := hI (show R = 16 by rw [HR4.out]; rfl)
  obtain ⟨r0, r1, r2, rf⟩ := blk3 HB24.out
  go_wp2_with fail
  obtain ⟨wz, hwz⟩ : ∃ wz, wz = put3 w4 (w.heap.size + 1 + 1) (.slice none 0 0) (.map none) (.slice none 0 0) := ⟨_, rfl⟩
  have HZ := hI (show wz.heap[w.heap.size + 1 + 1]? = some (.cells #[.slice none 0 0, .map none, .slice none 0 0] 183 (0, 0)) by rw [hwz]; exact put3_blk HB24.out _ _ _)
  have HXZ := hI (show Ext w wz by rw [hwz]; exact (put3_chg w4 (w.heap.size + 1 + 1) (.slice none 0 0) (.map none) (.slice none 0 0) (N := [w.heap.size + 1 + 1]) (by simp)).ext HX4.out (fun y hy => by simp only [List.mem_singleton] at hy; omega))
  unfold put3 at hwz
  rw [<- hwz]
  clear hwz
  obtain ⟨z0, z1, z2, zf⟩ := blk3 HZ.out
  refine bodyPost_ret (v := .tuple #[lossZero, .int .i64 16]) (by simp [results, Tryz.results115, go_sem, lossZero, z0, z1, z2]) rfl ?_
  exact ⟨HXZ.out, Or.inl ⟨by rw [HQ.out]; decide, by rw [HQ.out]⟩⟩
 have HQ := hI (show R = 0 by rw [HR4.out]; rfl)
 have hmm := @run_makeMap Tryz.prog
 have HM0 := hI (MapAt.made w4 9)
 have HX0 := hI ((Ext.refl w4).alloc (.map #[] 0))
 obtain ⟨bf, hbf⟩ : ∃ bf : Nat, bf = w4.heap.size := ⟨_, rfl⟩
 have HBF := hI hbf
 have HBW := hI (show w.heap.size + 1 + 1 < bf by rw [hbf]; exact blk_lt HB24.out)
 go_wp2_with fail
 rw [<- hbf]
 rw [<- hbf] at HM0
 clear hbf hmm
 go_loopw [47] (fun i wr => ∃ (k : Nat) (g : BA -> Option Value), k <= n /\ i = .int .i64 k /\ MapAt wr 9 bf k (strF g) /\ DefsG w (l.take k) g /\ wr.heap[w.heap.size]? = some (.cells #[.slice sa sn sc] 24 (0, 0)) /\ wr.heap[w.heap.size + 1 + 1]? = some (.cells #[.slice none 0 0, .map none, .slice none 0 0] 183 (0, 0)) /\ Ext w wr) (fun i _ => n - (intOf i).toNat)
 case atStart =>
  refine ⟨0, fun _ => none, by omega, rfl, HM0.out.congr fun x => ?_, fun s => ⟨fun _ => rfl, fun d hd => ?_⟩, HX0.out.blk HB04.out, HX0.out.blk HB24.out, HX4.out.trans HX0.out⟩
  ·cases x <;> simp [strF]
  simp [defAt] at hd
 case round =>
  obtain ⟨k, g, hk, rfl, hmap, hg, hb0, hb2, hx⟩ := hrel
  have HMP := hI hmap
  have HX := hI hx
  have HG := hI hg
  have HBA := hI hb0
  have HBC := hI hb2
  have hbw := hmap.lt
  clear hmap hx hg HM0 HX0 hb0 hb2
  by_cases hlt : k < n
  ·have hlt' : k < l.length := by have := HN.out; omega
   have t1 : decide ((k : Int) < (n : Int)) = true := decide_eq_true (by omega)
   obtain ⟨cb, coff, v, rfl, hcla, hrow⟩ := HL.out.at hlt'
   obtain ⟨c0, c1, c2, c3, c4, c5, c6, c7, c8, c9⟩ := (hrow.mono HX.out.sub).ten
   have hns : v.name.size <= 1000000000000000 := by rw [hcla.2.1]; exact HSZ.out _ (List.getElem_mem hlt')
   have hblt := block_lt c0
   simp only at hblt
   have HEXV := hI (show IsEx w l[k].cond (.agg #[.int .i64 v.x.op, .string v.x.name, .slice v.x.aw v.x.nw v.x.cw, .int .i64 v.x.lo, .int .i64 v.x.hi, .slice v.x.aa v.x.na v.x.ca]) from hcla.2.2.1)
   have HEK := hI (show l[k].kind = v.kind from hcla.1.symm)
   have HEN := hI (show l[k].name = v.name from hcla.2.1.symm)
   have HFR := hI (HCK.out.fresh hlt')
   rw [HEN.out] at HFR
   have HST := hI (fun h1 h2 => HG.out.step hlt' h1 h2 HEXV.out)
   have HSK := hI (HG.out.skip hlt')
   rw [HEK.out, HEN.out] at HST HSK
   clear hcla hrow
   cases hkd : (v.kind == 1)
   ·have HKN := hI (HSK.out (Or.inl (by simpa using hkd)))
    go_wp2_with fail
    go_roundw
    case rel =>
     have hxa := (Ext.refl wr).alloc (.cells #[.int .i64 v.kind, .string v.name, .int .i64 v.x.op, .string v.x.name, .slice v.x.aw v.x.nw v.x.cw, .int .i64 v.x.lo, .int .i64 v.x.hi, .slice v.x.aa v.x.na v.x.ca, .slice v.au v.nu v.cu, .int .i64 v.amount] 48)
     exact ⟨k + 1, g, by omega, by go_num, (HMP.out.ext hxa).more (by omega), HKN.out, hxa.blk HBA.out, hxa.blk HBC.out, HX.out.trans hxa⟩
    case measure => simp [intOf]; omega
   have HKN := hI (HST.out (by simpa using hkd) HFR.out)
   go_wp2_with (at_mapUpdate; refine wpList_map_put _ rfl _ _ _ 131 rfl 9 45 keyedStr uMapSE bf k _ rfl (HMP.out.ext ((Ext.refl wr).alloc _)) ?c3 _ _ _ rfl rfl (keyStr hns) trivial ?_)
   case c3 => unfold maxLen; omega
   intro w6 hm1 hc1
   have hxa := (Ext.refl wr).alloc (.cells #[.int .i64 v.kind, .string v.name, .int .i64 v.x.op, .string v.x.name, .slice v.x.aw v.x.nw v.x.cw, .int .i64 v.x.lo, .int .i64 v.x.hi, .slice v.x.aa v.x.na v.x.ca, .slice v.au v.nu v.cu, .int .i64 v.amount] 48)
   have hxm : Ext w w6 := hc1.ext (HX.out.trans hxa) (fun y hy => by simp only [List.mem_singleton] at hy; have := HBW.out; omega)
   have HB06 := hI (hc1.blk (hxa.blk HBA.out) (by have := HBW.out; simp; omega))
   have HB26 := hI (hc1.blk (hxa.blk HBC.out) (by have := HBW.out; simp; omega))
   have HM1 := hI (hm1.congr (setF_str g v.name _))
   have HX1 := hI hxm
   clear hm1 hc1 hxa hxm
   go_wp2_with fail
   go_roundw
   case rel => exact ⟨k + 1, _, by omega, by go_num, HM1.out, HKN.out, HB06.out, HB26.out, HX1.out⟩
   case measure => simp [intOf]; omega
  have t1 : decide ((k : Int) < (n : Int)) = false := decide_eq_false (by omega)
  have HKN := hI (show k = n by omega)
  obtain ⟨e0, ef⟩ := blk1 HBA.out
  obtain ⟨r0, r1, r2, rf⟩ := blk3 HBC.out
  go_wp2_with fail
  obtain ⟨wz, hwz⟩ : ∃ wz, wz = put3 wr (w.heap.size + 1 + 1) (.slice sa sn sc) (.map (some bf)) (.slice fa fn fc) := ⟨_, rfl⟩
  have HZ := hI (show wz.heap[w.heap.size + 1 + 1]? = some (.cells #[.slice sa sn sc, .map (some bf), .slice fa fn fc] 183 (0, 0)) by rw [hwz]; exact put3_blk HBC.out _ _ _)
  have hcz : Chg [w.heap.size + 1 + 1] wr wz := by rw [hwz]; exact put3_chg wr (w.heap.size + 1 + 1) (.slice sa sn sc) (.map (some bf)) (.slice fa fn fc) (by simp)
  have HXZ := hI (hcz.ext HX.out (fun y hy => by simp only [List.mem_singleton] at hy; omega))
  have HLZ := hI (show IsLoss wz s l f ⟨sa, sn, sc, bf, fa, fn, fc⟩ n from ⟨HS.out.ext HXZ.out, by
   exact ⟨g, by rw [<- HKN.out]; exact HMP.out.chg hcz (by have := HBW.out; simp; omega), by have := HG.out.ext HXZ.out; rwa [List.take_of_length_le (by have := HN.out; omega)] at this⟩, HI.out.ext HXZ.out⟩)
  unfold put3 at hwz
  rw [<- hwz]
  clear hwz hcz
  obtain ⟨z0, z1, z2, zf⟩ := blk3 HZ.out
  refine bodyPost_ret (v := .tuple #[LossV.val ⟨sa, sn, sc, bf, fa, fn, fc⟩, .int .i64 0]) (by simp [results, Tryz.results115, go_sem, LossV.val, z0, z1, z2]) rfl ?_
  exact ⟨HXZ.out, Or.inr ⟨by rw [HQ.out], _, rfl, HLZ.out⟩⟩
theorem uMapSC : Tryz.prog.underlying 72 = some (.map 9 48) := by kernel_rfl
def clvV (v : ClV) : Value := .agg #[.int .i64 v.kind, .string v.name, .int .i64 v.x.op, .string v.x.name, .slice v.x.aw v.x.nw v.x.cw, .int .i64 v.x.lo, .int .i64 v.x.hi, .slice v.x.aa v.x.na v.x.ca, .slice v.au v.nu v.cu, .int .i64 v.amount]
theorem zeroCl (w : World) : (zeroValue 48).run Tryz.prog w = .ok (.agg #[.int .i64 0, .string ⟨#[]⟩, .int .i64 0, .string ⟨#[]⟩, .slice none 0 0, .int .i64 0, .int .i64 0, .slice none 0 0, .slice none 0 0, .int .i64 0]) w := by kernel_rfl
def DefsGC (w : World) (l : List Cla) (g : BA -> Option Value) : Prop := ∀ s, (defAt l s = none -> g s = none) /\ ∀ d, defAt l s = some d -> ∃ v : ClV, g s = some (clvV v) /\ IsCla w (l.getD d cla0) v
theorem DefsGC.ext {w w' : World} {l : List Cla} {g : BA -> Option Value} (h : DefsGC w l g) (hx : Ext w w') : DefsGC w' l g := fun s => ⟨(h s).1, fun d hd => by obtain ⟨v, h1, h2⟩ := (h s).2 d hd; exact ⟨v, h1, h2.mono hx.sub⟩⟩
theorem DefsGC.skip {w : World} {l : List Cla} {k : Nat} {g : BA -> Option Value} (hk : k < l.length) (h : DefsGC w (l.take k) g) (hs : l[k].kind ≠ 1) : DefsGC w (l.take (k + 1)) g := by
 intro s
 have key : defAt (l.take (k + 1)) s = defAt (l.take k) s := by
  rw [defAt_take hk]
  cases hd : defAt (l.take k) s with
  | some d => rfl
  | none => rw [if_neg]; rintro ⟨h1, h2⟩; exact hs h1
 rw [key]
 refine ⟨(h s).1, fun d hd => ?_⟩
 have : d < k := by have := defAt_lt hd; simp at this; omega
 rw [getD_take (by omega), <- getD_take (k := k) this]
 exact (h s).2 d hd
theorem DefsGC.step {w : World} {l : List Cla} {k : Nat} {g : BA -> Option Value} (hk : k < l.length) (h : DefsGC w (l.take k) g) (hk1 : l[k].kind = 1) (hn : defAt (l.take k) l[k].name = none) {v : ClV} (hv : IsCla w l[k] v) : DefsGC w (l.take (k + 1)) (upS g l[k].name (some (clvV v))) := by
 intro s
 rw [defAt_take hk]
 by_cases e : s = l[k].name
 ·subst e
  rw [hn, upS_same]
  simp only [hk1, and_self, if_true]
  refine ⟨fun h => by simp at h, fun d hd => ?_⟩
  obtain rfl : k = d := by simpa using hd
  rw [getD_take (by omega), getD_cla hk]
  exact ⟨v, rfl, hv⟩
 rw [upS_other _ _ e]
 cases hd : defAt (l.take k) s with
 | none =>
  have : ¬ (l[k].kind = 1 /\ l[k].name = s) := fun h => e h.2.symm
  simp only [if_neg this]
  exact ⟨fun _ => (h s).1 hd, fun d hd' => by cases hd'⟩
 | some d =>
  have hdk : d < k := by have := defAt_lt hd; simp at this; omega
  refine ⟨fun h => by simp at h, fun d' hd' => ?_⟩
  obtain rfl : d = d' := by simpa using hd'
  rw [getD_take (by omega), <- getD_take (k := k) hdk]
  exact (h s).2 d hd
structure IsDLoss (w : World) (s : List Attr) (l : List Cla) (f : ZI) (v : LossV) (n : Nat) : Prop where
 sch : IsSchema w s (.agg #[.slice v.sa v.sn v.sc])
 defs : ∃ g, MapAt w 9 v.bm n (strF g) /\ DefsGC w l g
 ints : IsIntF w f v.fa v.fn
theorem IsDLoss.ext {w w' : World} {s : List Attr} {l : List Cla} {f : ZI} {v : LossV} {n : Nat} (h : IsDLoss w s l f v n) (hx : Ext w w') : IsDLoss w' s l f v n := ⟨h.sch.ext hx, by obtain ⟨g, h1, h2⟩ := h.defs; exact ⟨g, h1.ext hx, h2.ext hx⟩, h.ints.ext hx⟩
noncomputable def decErr (s : List Attr) (l : List Cla) (f : ZI) : Int := if (clausesErr s l).2 ≠ 0 then (clausesErr s l).2 else if factsB s f = false then 16 else 0
def DChkQ (s : List Attr) (l : List Cla) (f : ZI) (n : Nat) (w : World) (r : Ending) (w' : World) : Prop := Ext w w' /\ ((decErr s l f ≠ 0 /\ r = .returned (.tuple #[lossZero, .int .i64 (decErr s l f)])) \/ (decErr s l f = 0 /\ ∃ lv : LossV, r = .returned (.tuple #[lv.val, .int .i64 0]) /\ IsDLoss w' s l f lv n))
theorem dchecked_calls (s : List Attr) (l : List Cla) (f : ZI) (sv : Value) (a : OA) (n c : Nat) (fa : OA) (fn fc : Nat) (w : World) (hs : IsSchema w s sv) (hf : ∀ x ∈ s, x.fits) (hsl : s.length <= 1000000000000000) (hl : IsClas w l a n c) (hn : n <= 1000000) (hok : ∀ x ∈ l, x.fit) (hi : IsIntF w f fa fn) (hfn : fn <= 1000000000000000) (ho : HasOps w) :
  Calls Tryz.prog 27 #[sv, .slice a n c, .slice fa fn fc] w (DChkQ s l f n w) := by
 obtain ⟨sa, sn, sc, rfl, hsn⟩ := hs.slice
 have HCL := hI (fun W (hW : Ext w W) => cClauses_calls s l _ a n c W (hs.ext hW) hf hsl (hl.ext hW) (by omega) hok (ho.ext hW))
 have HFC := hI (fun W (hW : Ext w W) => sValid_calls s _ f fa fn fc W (hs.ext hW) hf hsl (hi.ext hW) hfn)
 have HCK := hI (fun (h1 : (clausesErr s l).2 = 0) => chk_of h1)
 have HL := hI hl
 have HS := hI hs
 have HI := hI hi
 have HSZ := hI (fun x hx => (hok x hx).1)
 have HN := hI hl.len
 obtain ⟨R, hR⟩ : ∃ R, R = decErr s l f := ⟨_, rfl⟩
 unfold DChkQ
 rw [<- hR]
 unfold decErr at hR
 obtain ⟨⟨i0, E1⟩, hE1⟩ : ∃ E : Nat × Int, E = clausesErr s l := ⟨_, rfl⟩
 rw [<- hE1] at HCL hR
 have HCK1 := hI (fun (h1 : E1 = 0) => HCK.out (by rw [<- hE1]; exact h1))
 clear HCK
 obtain ⟨B, hB⟩ : ∃ B, B = factsB s f := ⟨_, rfl⟩
 rw [<- hB] at HFC hR
 have HR := hI hR
 clear hs hf hsl hl hok hi hsn hR hE1 hB ho
 obtain ⟨wa, hwa⟩ : ∃ wa, wa = (w.alloc (.cells #[.slice sa sn sc] 24)).alloc (.cells #[.slice none 0 0, .map none, .slice none 0 0] 74) := ⟨_, rfl⟩
 have hxa : Ext w wa := by rw [hwa]; exact ((Ext.refl _).alloc _).alloc _
 have HB0 := hI (show wa.heap[w.heap.size]? = some (.cells #[.slice sa sn sc] 24 (0, 0)) by rw [hwa]; exact blk_alloc (alloc_new w _))
 have HB2 := hI (show wa.heap[w.heap.size + 1]? = some (.cells #[.slice none 0 0, .map none, .slice none 0 0] 74 (0, 0)) by rw [hwa]; exact alloc_atR (by simp))
 have HXA := hI hxa
 obtain ⟨e0, ef⟩ := blk1 HB0.out
 clear hxa
 unfold clsV at HCL
 go_enter Tryz.func27, Tryz.ntmps27
 go_upto_region 1 with fail
 rw [<- hwa]
 clear hwa
 go_wp2_with fail
 refine (HCL.out wa HXA.out).mono ?_
 rintro r w1 ⟨rfl, hx1⟩
 have HX1 := hI (HXA.out.trans hx1)
 have HB03 := hI (hx1.blk HB0.out)
 have HB23 := hI (hx1.blk HB2.out)
 clear hx1 e0 ef HCL HB0 HB2
 by_cases h1 : E1 = 0
 case neg =>
  have t1 : (E1 != 0) = true := by simp [h1]
  have HQ := hI (show R = E1 by rw [HR.out, if_pos h1])
  have HNZ := hI h1
  clear h1
  obtain ⟨r0, r1, r2, rf⟩ := blk3 HB23.out
  go_wp2_with fail
  obtain ⟨wz, hwz⟩ : ∃ wz, wz = put3 w1 (w.heap.size + 1) (.slice none 0 0) (.map none) (.slice none 0 0) := ⟨_, rfl⟩
  have HZ := hI (show wz.heap[w.heap.size + 1]? = some (.cells #[.slice none 0 0, .map none, .slice none 0 0] 74 (0, 0)) by rw [hwz]; exact put3_blk HB23.out _ _ _)
  have HXZ := hI (show Ext w wz by rw [hwz]; exact (put3_chg w1 (w.heap.size + 1) (.slice none 0 0) (.map none) (.slice none 0 0) (N := [w.heap.size + 1]) (by simp)).ext HX1.out (fun y hy => by simp only [List.mem_singleton] at hy; omega))
  unfold put3 at hwz
  rw [<- hwz]
  clear hwz
  obtain ⟨z0, z1, z2, zf⟩ := blk3 HZ.out
  refine bodyPost_ret (v := .tuple #[lossZero, .int .i64 E1]) (by simp [results, Tryz.results27, go_sem, lossZero, z0, z1, z2]) rfl ?_
  exact ⟨HXZ.out, Or.inl ⟨by rw [HQ.out]; exact HNZ.out, by rw [HQ.out]⟩⟩
 have t1 : (E1 != 0) = false := by simp [h1]
 have HR4 := hI (show R = if B = false then 16 else 0 by rw [HR.out, if_neg (by simpa using h1)])
 have HCK := hI (HCK1.out h1)
 clear h1 HR HCK1
 have HX3 := HX1
 obtain ⟨e0, ef⟩ := blk1 HB03.out
 go_wp2_with fail
 refine (HFC.out w1 HX3.out).mono ?_
 rintro r w4 ⟨rfl, hx4⟩
 have HX4 := hI (HX3.out.trans hx4)
 have HB04 := hI (hx4.blk HB03.out)
 have HB24 := hI (hx4.blk HB23.out)
 clear hx4 e0 ef HFC
 cases B
 case false =>
  have HQ := hI (show R = 16 by rw [HR4.out]; rfl)
  obtain ⟨r0, r1, r2, rf⟩ := blk3 HB24.out
  go_wp2_with fail
  obtain ⟨wz, hwz⟩ : ∃ wz, wz = put3 w4 (w.heap.size + 1) (.slice none 0 0) (.map none) (.slice none 0 0) := ⟨_, rfl⟩
  have HZ := hI (show wz.heap[w.heap.size + 1]? = some (.cells #[.slice none 0 0, .map none, .slice none 0 0] 74 (0, 0)) by rw [hwz]; exact put3_blk HB24.out _ _ _)
  have HXZ := hI (show Ext w wz by rw [hwz]; exact (put3_chg w4 (w.heap.size + 1) (.slice none 0 0) (.map none) (.slice none 0 0) (N := [w.heap.size + 1]) (by simp)).ext HX4.out (fun y hy => by simp only [List.mem_singleton] at hy; omega))
  unfold put3 at hwz
  rw [<- hwz]
  clear hwz
  obtain ⟨z0, z1, z2, zf⟩ := blk3 HZ.out
  refine bodyPost_ret (v := .tuple #[lossZero, .int .i64 16]) (by simp [results, Tryz.results27, go_sem, lossZero, z0, z1, z2]) rfl ?_
  exact ⟨HXZ.out, Or.inl ⟨by rw [HQ.out]; decide, by rw [HQ.out]⟩⟩
 have HQ := hI (show R = 0 by rw [HR4.out]; rfl)
 have hmm := @run_makeMap Tryz.prog
 have HM0 := hI (MapAt.made w4 9)
 have HX0 := hI ((Ext.refl w4).alloc (.map #[] 0))
 obtain ⟨bf, hbf⟩ : ∃ bf : Nat, bf = w4.heap.size := ⟨_, rfl⟩
 have HBF := hI hbf
 have HBW := hI (show w.heap.size + 1 < bf by rw [hbf]; exact blk_lt HB24.out)
 go_wp2_with fail
 rw [<- hbf]
 rw [<- hbf] at HM0
 clear hbf hmm
 go_loopw [31] (fun i wr => ∃ (k : Nat) (g : BA -> Option Value), k <= n /\ i = .int .i64 k /\ MapAt wr 9 bf k (strF g) /\ DefsGC w (l.take k) g /\ wr.heap[w.heap.size]? = some (.cells #[.slice sa sn sc] 24 (0, 0)) /\ wr.heap[w.heap.size + 1]? = some (.cells #[.slice none 0 0, .map none, .slice none 0 0] 74 (0, 0)) /\ Ext w wr) (fun i _ => n - (intOf i).toNat)
 case atStart =>
  refine ⟨0, fun _ => none, by omega, rfl, HM0.out.congr fun x => ?_, fun s => ⟨fun _ => rfl, fun d hd => ?_⟩, HX0.out.blk HB04.out, HX0.out.blk HB24.out, HX4.out.trans HX0.out⟩
  ·cases x <;> simp [strF]
  simp [defAt] at hd
 case round =>
  obtain ⟨k, g, hk, rfl, hmap, hg, hb0, hb2, hx⟩ := hrel
  have HMP := hI hmap
  have HX := hI hx
  have HG := hI hg
  have HBA := hI hb0
  have HBC := hI hb2
  have hbw := hmap.lt
  clear hmap hx hg HM0 HX0 hb0 hb2
  by_cases hlt : k < n
  ·have hlt' : k < l.length := by have := HN.out; omega
   have t1 : decide ((k : Int) < (n : Int)) = true := decide_eq_true (by omega)
   obtain ⟨cb, coff, v, rfl, hcla, hrow⟩ := HL.out.at hlt'
   obtain ⟨c0, c1, c2, c3, c4, c5, c6, c7, c8, c9⟩ := (hrow.mono HX.out.sub).ten
   have hns : v.name.size <= 1000000000000000 := by rw [hcla.2.1]; exact HSZ.out _ (List.getElem_mem hlt')
   have hblt := block_lt c0
   simp only at hblt
   have HEXV := hI hcla
   have HEK := hI (show l[k].kind = v.kind from hcla.1.symm)
   have HEN := hI (show l[k].name = v.name from hcla.2.1.symm)
   have HFR := hI (HCK.out.fresh hlt')
   rw [HEN.out] at HFR
   have HST := hI (fun h1 h2 => HG.out.step hlt' h1 h2 HEXV.out)
   have HSK := hI (HG.out.skip hlt')
   rw [HEK.out, HEN.out] at HST
   rw [HEK.out] at HSK
   clear hcla hrow
   cases hkd : (v.kind == 1)
   ·have HKN := hI (HSK.out (by simpa using hkd))
    go_wp2_with fail
    go_roundw
    case rel =>
     have hxa := (Ext.refl wr).alloc (.cells #[.int .i64 v.kind, .string v.name, .int .i64 v.x.op, .string v.x.name, .slice v.x.aw v.x.nw v.x.cw, .int .i64 v.x.lo, .int .i64 v.x.hi, .slice v.x.aa v.x.na v.x.ca, .slice v.au v.nu v.cu, .int .i64 v.amount] 48)
     exact ⟨k + 1, g, by omega, by go_num, (HMP.out.ext hxa).more (by omega), HKN.out, hxa.blk HBA.out, hxa.blk HBC.out, HX.out.trans hxa⟩
    case measure => simp [intOf]; omega
   have HKN := hI (HST.out (by simpa using hkd) HFR.out)
   go_wp2_with (at_mapUpdate; refine wpList_map_put _ rfl _ _ _ 72 rfl 9 48 keyedStr uMapSC bf k _ rfl (HMP.out.ext ((Ext.refl wr).alloc _)) ?c3 _ _ _ rfl rfl (keyStr hns) trivial ?_)
   case c3 => unfold maxLen; omega
   intro w6 hm1 hc1
   have hxa := (Ext.refl wr).alloc (.cells #[.int .i64 v.kind, .string v.name, .int .i64 v.x.op, .string v.x.name, .slice v.x.aw v.x.nw v.x.cw, .int .i64 v.x.lo, .int .i64 v.x.hi, .slice v.x.aa v.x.na v.x.ca, .slice v.au v.nu v.cu, .int .i64 v.amount] 48)
   have hxm : Ext w w6 := hc1.ext (HX.out.trans hxa) (fun y hy => by simp only [List.mem_singleton] at hy; have := HBW.out; omega)
   have HB06 := hI (hc1.blk (hxa.blk HBA.out) (by have := HBW.out; simp; omega))
   have HB26 := hI (hc1.blk (hxa.blk HBC.out) (by have := HBW.out; simp; omega))
   have HM1 := hI (hm1.congr (setF_str g v.name _))
   have HX1 := hI hxm
   clear hm1 hc1 hxa hxm
   go_wp2_with fail
   go_roundw
   case rel => exact ⟨k + 1, _, by omega, by go_num, HM1.out, HKN.out, HB06.out, HB26.out, HX1.out⟩
   case measure => simp [intOf]; omega
  have t1 : decide ((k : Int) < (n : Int)) = false := decide_eq_false (by omega)
  have HKN := hI (show k = n by omega)
  obtain ⟨e0, ef⟩ := blk1 HBA.out
  obtain ⟨r0, r1, r2, rf⟩ := blk3 HBC.out
  go_wp2_with fail
  obtain ⟨wz, hwz⟩ : ∃ wz, wz = put3 wr (w.heap.size + 1) (.slice sa sn sc) (.map (some bf)) (.slice fa fn fc) := ⟨_, rfl⟩
  have HZ := hI (show wz.heap[w.heap.size + 1]? = some (.cells #[.slice sa sn sc, .map (some bf), .slice fa fn fc] 74 (0, 0)) by rw [hwz]; exact put3_blk HBC.out _ _ _)
  have hcz : Chg [w.heap.size + 1] wr wz := by rw [hwz]; exact put3_chg wr (w.heap.size + 1) (.slice sa sn sc) (.map (some bf)) (.slice fa fn fc) (by simp)
  have HXZ := hI (hcz.ext HX.out (fun y hy => by simp only [List.mem_singleton] at hy; omega))
  have HLZ := hI (show IsDLoss wz s l f ⟨sa, sn, sc, bf, fa, fn, fc⟩ n from ⟨HS.out.ext HXZ.out, by
   exact ⟨g, by rw [<- HKN.out]; exact HMP.out.chg hcz (by have := HBW.out; simp; omega), by have := HG.out.ext HXZ.out; rwa [List.take_of_length_le (by have := HN.out; omega)] at this⟩, HI.out.ext HXZ.out⟩)
  unfold put3 at hwz
  rw [<- hwz]
  clear hwz hcz
  obtain ⟨z0, z1, z2, zf⟩ := blk3 HZ.out
  refine bodyPost_ret (v := .tuple #[LossV.val ⟨sa, sn, sc, bf, fa, fn, fc⟩, .int .i64 0]) (by simp [results, Tryz.results27, go_sem, LossV.val, z0, z1, z2]) rfl ?_
  exact ⟨HXZ.out, Or.inr ⟨by rw [HQ.out], _, rfl, HLZ.out⟩⟩
theorem uMapSB : Tryz.prog.underlying 186 = some (.map 9 4) := by kernel_rfl
theorem zeroBo (w : World) : (zeroValue 4).run Tryz.prog w = .ok (.bool false) w := by kernel_rfl
theorem wpList_map_getW (w : World) {ops : Array Oper} {rest : List Oper} {o : Oper} {a : Act} {Q : Exit -> Act -> World -> Prop} (hw : Region.wanted o (yielded ops a.tmps) = true) (m x : Operand) (t : TypeId) (hop : o.op = Op.lookup t m x false) (k e : TypeId) (K : Keyed Tryz.prog k) (ht : Tryz.prog.underlying t = some (.map k e)) {z : Value} (hz : (zeroValue e).run Tryz.prog w = .ok z w) (b n : Nat) (f : Lit -> Option Value)
  (hm : a.eval m = .map (some b)) (hmap : MapAt w k b n f) (key : Value) (kl : Lit) (hx : a.eval x = key) (hkey : keyOf Tryz.prog k key = some kl) (hkl : WideAt.IsKeyLit kl)
  (hK : wpList Tryz.prog ops Q rest (a.put o.dst ((f kl).getD z)) w) : wpList Tryz.prog ops Q (o :: rest) a w := by
 obtain ⟨D, hown, hf⟩ := hmap
 refine wpList_step fun K' hK' => ?_
 rw [if_pos hw]
 obtain ⟨v, ps, hrun, hv⟩ := hown.lookup K ht hz (zd := .held z) (zp := []) rfl hkey
 have e1 : DataW.held v = D.atKey kl (.held z) := by
  simp only [heldE, Option.some.injEq, Prod.mk.injEq] at hv
  exact hv.1
 rw [<- hf.at hkl e1] at hK
 unfold Oper.wp
 simp [execOp, hop, hm, hx, hrun, Result.andThen]
 exact hK' _ _ hK
open Classical in
noncomputable def memT (M : BA -> Prop) : BA -> Option Value := fun s => if M s then some (.bool true) else none
theorem memT_step (m : BA -> Prop) (x : BA) (y : Lit) : setF (strF (memT m)) (.string x.data.toList) (some (.bool true)) y = strF (memT fun z => z = x \/ m z) y := by
 rw [setF_str]
 congr 1
 funext z
 by_cases h : z = x
 ·subst h; rw [upS_same]; simp [memT]
 rw [upS_other _ _ h]
 by_cases hm : m z <;> simp [memT, h, hm]
structure UsS (w : World) (lo : LossV) (lv : Value) (u : List Cla) (vs : List ClV) (wr : World) : Prop where
 ext : Ext w wr
 cla : ClasR w u vs
 own : wr.ownsRow (w.heap.size + 5) 48 10 lv u.length (vs.flatMap ClV.cells)
 seen : MapAt wr 9 (w.heap.size + 3) u.length (strF (memT fun s => s ∈ nmsOf u))
 bx : wr.heap[w.heap.size]? = some (.cells #[.slice lo.sa lo.sn lo.sc, .map (some lo.bm), .slice lo.fa lo.fn lo.fc] 74 (0, 0))
 bl : wr.heap[w.heap.size + 2]? = some (.cells #[lv] 25 (0, 0))
 bq : wr.heap[w.heap.size + 4]? = some (.cells #[.map (some (w.heap.size + 3))] 186 (0, 0))
theorem UsS.extd {w : World} {lo : LossV} {lv : Value} {u : List Cla} {vs : List ClV} {wr wr' : World} (h : UsS w lo lv u vs wr) (hx : Ext wr wr') : UsS w lo lv u vs wr' :=
 ⟨h.ext.trans hx, h.cla, owns_chg h.own (hx.chg []) (by simp), h.seen.ext hx, hx.blk h.bx, hx.blk h.bl, hx.blk h.bq⟩
theorem UsS.step {w W w3 w8 : World} {lo : LossV} {lv lv' : Value} {u : List Cla} {vs : List ClV} (h : UsS w lo lv u vs W) {c : Cla} {cv : ClV} (hcv : IsCla w c cv)
  (hm : MapAt w3 9 (w.heap.size + 3) (u.length + 1) (setF (strF (memT fun s => s ∈ nmsOf u)) (.string c.name.data.toList) (some (.bool true)))) (hc3 : Chg [w.heap.size + 3] W w3)
  (ho8 : w8.ownsRow (w.heap.size + 5) 48 10 lv' (u.length + 1) (vs.flatMap ClV.cells ++ cv.cells)) (hc8 : Chg (rowOf lv) w3 w8) :
  UsS w lo lv' (u ++ [c]) (vs ++ [cv]) (w8.setCell ⟨w.heap.size + 2, 0, none⟩ lv') /\ (∀ q, q < w.heap.size -> True) := by
 have hc9 : Chg [w.heap.size + 2] w8 (w8.setCell ⟨w.heap.size + 2, 0, none⟩ lv') := (Chg.refl _ _).setCell (Or.inl (by simp)) _
 have hr : ∀ q ∈ rowOf lv, w.heap.size + 5 <= q := fun q hq => (h.own.lt q (mem_rowOf.1 hq)).1
 have hr' : ∀ q, lv'.ownBlock = some q -> w.heap.size + 5 <= q := fun q hq => (ho8.lt q hq).1
 refine ⟨{
  ext := hc9.ext (hc8.ext (hc3.ext h.ext (by simp)) fun q hq => by have := hr q hq; omega) (by simp)
  cla := h.cla.snoc hcv
  own := by
   have := owns_chg ho8 hc9 fun q hq hm => by
    have := hr' q hq
    simp only [List.mem_singleton] at hm
    omega
   simpa using this
  seen := by
   have := ((hm.chg hc8 fun hm => by have := hr _ hm; omega).chg hc9 (by simp)).congr (memT_step _ c.name)
   refine (show (u ++ [c]).length = u.length + 1 by simp) ▸ this.congr fun y => ?_
   congr 2
   funext z
   rw [nmsOf_snoc]
   simp [or_comm]
  bx := hc9.blk (hc8.blk (hc3.blk h.bx (by simp)) fun hm => by have := hr _ hm; omega) (by simp)
  bl := heap_setCell_same w8 _ 0 _ _ lv' (hc8.blk (hc3.blk h.bl (by simp)) fun hm => by have := hr _ hm; omega)
  bq := hc9.blk (hc8.blk (hc3.blk h.bq (by simp)) fun hm => by have := hr _ hm; omega) (by simp) }, fun _ _ => trivial⟩
theorem RPi.first {l : List Cla} (e : Ex) (ns : ZB) : RPi l e [] [] e ns 0 := ⟨by simp, by simp [nmsOf], Or.inr (Or.inl rfl), by simp, by simp, Or.inl rfl, fun i _ h => by omega, by simp⟩
theorem RP.popF {l : List Cla} {e : Ex} {u : List Cla} {xs : List Ex} {x : Ex} (h : RP l e u (x :: xs)) (ns : ZB) : RPi l e u xs x ns 0 := by
 refine ⟨h.defs, h.names, ?_, fun c hc => ?_, fun y hy => h.stack y (by simp [hy]), h.stack x (by simp), fun i _ h => by omega, by have := h.slen; simpa using this⟩
 ·rcases h.top with h1 | h1
  ·rcases List.mem_cons.1 h1 with h2 | h2
   ·exact Or.inr (Or.inl h2)
   exact Or.inl h2
  exact Or.inr (Or.inr h1)
 rcases h.closed c hc with h1 | h1
 ·rcases List.mem_cons.1 h1 with h2 | h2
  ·exact Or.inr (Or.inl h2)
  exact Or.inl h2
 exact Or.inr (Or.inr h1)
def DAddQ (w : World) (lo : LossV) (l : List Cla) (e : Ex) (u : List Cla) (xs : List Ex) (r : Ending) (w' : World) : Prop := r = .returned (.tuple #[]) /\ ∃ t lv' vs', UsS w lo lv' (u ++ t) vs' w' /\ RP l e (u ++ t) (xs ++ t.map (·.cond)) /\ ∀ c ∈ t, c ∈ l
theorem used1_calls (l : List Cla) (e x : Ex) (ev : Value) (lo : LossV) (n : Nat) (w W : World) (g : BA -> Option Value) (lv : Value) (u : List Cla) (vs : List ClV) (xs : List Ex) (hmp : MapAt w 9 lo.bm n (strF g)) (hdg : DefsGC w l g) (hl : l.length <= 100000) (hx : IsEx W x ev) (hxs : x.size <= 100000 /\ x.fits) (hus : UsS w lo lv u vs W) (hrp : RPi l e u xs x (refNames (namesE x)) 0) :
  Calls Tryz.prog 117 #[ev, .pointer (some ⟨w.heap.size, 0, none⟩), .pointer (some ⟨w.heap.size + 4, 0, none⟩), .pointer (some ⟨w.heap.size + 2, 0, none⟩)] W (DAddQ w lo l e u xs) := by
 obtain ⟨aw, nw, cw, aa, na, ca, rfl, -⟩ := hx.parts
 have HMP := hI hmp
 have HDG := hI hdg
 have HE := hI hx
 have HUS := hI hus
 have HRP := hI hrp
 have HSX := hI hxs
 clear hmp hdg hx hus hrp hxs
 unfold exV
 obtain ⟨wa, hwa⟩ : ∃ wa, wa = W.alloc (.cells #[.int .i64 x.op, .string x.name, .slice aw nw cw, .int .i64 x.lo, .int .i64 x.hi, .slice aa na ca] 45) := ⟨_, rfl⟩
 have hxa : Ext W wa := by rw [hwa]; exact (Ext.refl _).alloc _
 obtain ⟨f0, f1, f2, f3, f4, f5, ff⟩ := blk6 (show wa.heap[W.heap.size]? = some (.cells #[.int .i64 x.op, .string x.name, .slice aw nw cw, .int .i64 x.lo, .int .i64 x.hi, .slice aa na ca] 45 (0, 0)) by rw [hwa]; exact alloc_new W _)
 have HUA := hI (HUS.out.extd hxa)
 have HEA := hI (HE.out.ext hxa)
 clear hxa HUS HE
 go_enter Tryz.func117, Tryz.ntmps117
 go_upto_region 1 with fail
 rw [<- hwa]
 clear hwa
 go_wp2_with fail
 refine (synNamesF_calls x _ wa (by have := HSX.out.1; omega) HSX.out.2 HEA.out).mono ?_
 obtain ⟨ns, hns⟩ : ∃ ns, ns = refNames (namesE x) := ⟨_, rfl⟩
 have HNM := hI (show ∀ s, s ∈ ns ↔ s ∈ namesE x by intro s; rw [hns, refNames_mem])
 rw [<- hns] at HRP ⊢
 have HNS := hI (show ∀ s ∈ ns, s.size <= 1000000000000000 from fun s hs => names_fit x HSX.out.2 s ((HNM.out s).1 hs))
 have hnl : ns.length <= 100000 := by rw [hns]; exact Nat.le_trans (refNames_len2 _) (Nat.le_trans (namesE_len _) HSX.out.1)
 clear hns
 rintro r w5 ⟨sa, sc, rfl, hst, hx5, hfr⟩
 have HST := hI hst
 have HU5 := hI (HUA.out.extd hx5)
 have HFR := hI (show ∀ b off, sa = some ⟨b, off, none⟩ -> b ≠ w.heap.size + 3 /\ b ≠ w.heap.size + 2 /\ some b ≠ lv.ownBlock from fun b' off' e' => by
  have h1 := hfr b' off' e'
  have h2 := blk_lt HUA.out.bq
  refine ⟨by omega, by omega, fun e2 => ?_⟩
  have := (HUA.out.own.lt b' e2.symm).2; omega)
 clear hst hx5 hfr f0 f1 f2 f3 f4 f5 ff HUA
 go_wp2_with fail
 go_loopw [12] (fun i wr => ∃ t lv' vs' j, i = .int .i64 (j : Nat) /\ j <= ns.length /\ UsS w lo lv' (u ++ t) vs' wr /\ RPi l e (u ++ t) (xs ++ t.map (·.cond)) x ns j /\ (∀ c ∈ t, c ∈ l) /\ IsStrs wr ns sa ns.length sc /\ (∀ b off, sa = some ⟨b, off, none⟩ -> b ≠ w.heap.size + 3 /\ b ≠ w.heap.size + 2 /\ some b ≠ lv'.ownBlock)) (fun i _ => ns.length - (intOf i).toNat)
 case atStart => exact ⟨[], lv, vs, 0, rfl, by omega, by simpa using HU5.out, by simpa using HRP.out, by simp, HST.out, HFR.out⟩
 case round =>
  obtain ⟨t, lv2, vs2, j, rfl, hj, hu2, hp2, htl, hst2, hfr2⟩ := hrel
  obtain ⟨la2, lc2, hlv2⟩ := owns_form hu2.own
  subst hlv2
  have HR2 := hI hu2
  have HP2 := hI hp2
  have HTL := hI htl
  have HS2 := hI hst2
  have HF2 := hI hfr2
  have hul := defs_len hp2.defs hp2.names
  clear hu2 hp2 htl hst2 hfr2 HU5 HRP HST HFR
  obtain ⟨u2, hu2⟩ : ∃ u2, u2 = u ++ t := ⟨_, rfl⟩
  rw [<- hu2] at HR2 HP2 hul HF2
  have HU2 := hI hu2
  clear hu2
  by_cases hjl : j < ns.length
  ·have tj : decide ((j : Int) < (ns.length : Int)) = true := decide_eq_true (by omega)
   obtain ⟨bn, offn, rfl, cn0⟩ := HS2.out.2.2.2 j hjl
   have hsz1 := HNS.out _ (List.getElem_mem hjl)
   obtain ⟨x0, x1, x2, xf⟩ := blk3 HR2.out.bx
   obtain ⟨q0, qf⟩ := blk1 HR2.out.bq
   obtain ⟨l0, lf⟩ := blk1 HR2.out.bl
   cases hda : defAt l ns[j] with
   | none =>
    have HF := hI (show strF g (.string ns[j].data.toList) = none by rw [strF_at]; exact (HDG.out _).1 hda)
    have HSK := hI (HP2.out.skip hjl (Or.inl hda))
    clear hda
    go_wp2_with (at_lookup; refine wpList_map_ok _ rfl _ _ 72 rfl 9 48 keyedStr uMapSC (zeroCl _) lo.bm n _ rfl (HMP.out.ext HR2.out.ext) _ _ rfl (keyStr hsz1) trivial ?_; rw [HF.out])
    go_roundw
    case rel => exact ⟨t, _, vs2, j + 1, by go_num, by omega, HU2.out ▸ HR2.out.extd ((Ext.refl wr).alloc _), HU2.out ▸ HSK.out, HTL.out, HS2.out.ext ((Ext.refl wr).alloc _), HF2.out⟩
    case measure => simp [intOf]; omega
   | some d =>
    obtain ⟨v, hu, hux⟩ := (HDG.out ns[j]).2 d hda
    have HF := hI (show strF g (.string ns[j].data.toList) = some _ by rw [strF_at]; exact hu)
    unfold clvV at HF
    have HUX := hI hux
    have hdl := defAt_lt hda
    obtain ⟨wx, hwx⟩ : ∃ wx, wx = wr.alloc (.cells #[.int .i64 v.kind, .string v.name, .int .i64 v.x.op, .string v.x.name, .slice v.x.aw v.x.nw v.x.cw, .int .i64 v.x.lo, .int .i64 v.x.hi, .slice v.x.aa v.x.na v.x.ca, .slice v.au v.nu v.cu, .int .i64 v.amount] 48) := ⟨_, rfl⟩
    have HXA := hI (show Ext wr wx by rw [hwx]; exact (Ext.refl _).alloc _)
    have HNB := hI (show wx.heap[wr.heap.size]? = some (.cells #[.int .i64 v.kind, .string v.name, .int .i64 v.x.op, .string v.x.name, .slice v.x.aw v.x.nw v.x.cw, .int .i64 v.x.lo, .int .i64 v.x.hi, .slice v.x.aa v.x.na v.x.ca, .slice v.au v.nu v.cu, .int .i64 v.amount] 48 (0, 0)) by rw [hwx]; exact alloc_new wr _)
    have hsx : wx.heap.size = wr.heap.size + 1 := by rw [hwx]; simp
    have HSZX := hI hsx
    clear hsx
    go_upto_region 5 with (at_lookup; refine wpList_map_ok _ rfl _ _ 72 rfl 9 48 keyedStr uMapSC (zeroCl _) lo.bm n _ rfl (HMP.out.ext HR2.out.ext) _ _ rfl (keyStr hsz1) trivial ?_; rw [HF.out])
    rw [<- hwx]
    clear hwx x0 x1 x2 xf q0 qf l0 lf cn0
    obtain ⟨q0, qf⟩ := blk1 (HXA.out.blk HR2.out.bq)
    obtain ⟨l0, lf⟩ := blk1 (HXA.out.blk HR2.out.bl)
    obtain ⟨f0, f1, f2, f3, f4, f5, f6, f7, f8, f9, ff⟩ := blk10 HNB.out
    by_cases hmem : ns[j] ∈ nmsOf u2
    ·have HSN := hI (show strF (memT fun s => s ∈ nmsOf u2) (.string ns[j].data.toList) = some (.bool true) by rw [strF_at]; simp [memT, hmem])
     have HSK := hI (HP2.out.skip hjl (Or.inr hmem))
     clear hda hmem hu hux
     go_wp2_with (first
      | (at_lookup; refine wpList_map_getW _ (by rfl) _ _ 186 rfl 9 4 keyedStr uMapSB (zeroBo _) (w.heap.size + 3) u2.length _ rfl (HR2.out.seen.ext HXA.out) _ _ rfl (keyStr hsz1) trivial ?_; rw [HSN.out]))
     go_roundw
     case rel => exact ⟨t, _, vs2, j + 1, by go_num, by omega, HU2.out ▸ HR2.out.extd HXA.out, HU2.out ▸ HSK.out, HTL.out, HS2.out.ext HXA.out, HF2.out⟩
     case measure => simp [intOf]; omega
    have HSN := hI (show strF (memT fun s => s ∈ nmsOf u2) (.string ns[j].data.toList) = none by rw [strF_at]; simp [memT, hmem])
    have hdn := defAt_name hda
    have HST := hI (HP2.out.step hjl HNM.out hda hmem (c := l.getD d cla0) hdn.2 hdn.1 rfl)
    have HDN := hI hdn.1
    have HCM := hI (show l.getD d cla0 ∈ l by rw [getD_cla hdl]; exact List.getElem_mem _)
    clear hda hmem hu hux hdn
    go_wp2_with (first
     | (at_lookup; refine wpList_map_getW _ (by rfl) _ _ 186 rfl 9 4 keyedStr uMapSB (zeroBo _) (w.heap.size + 3) u2.length _ rfl (HR2.out.seen.ext HXA.out) _ _ rfl (keyStr hsz1) trivial ?_; rw [HSN.out])
     | (at_mapUpdate; refine wpList_map_put _ rfl _ _ _ 186 rfl 9 4 keyedStr uMapSB (w.heap.size + 3) u2.length _ rfl (HR2.out.seen.ext HXA.out) ?c3 _ _ _ rfl rfl (keyStr hsz1) trivial ?_))
    case c3 => unfold maxLen; omega
    intro w3 hm3 hc3
    have HRW := hI (HR2.out.extd HXA.out)
    have hwr : w.heap.size + 4 < wr.heap.size := blk_lt HR2.out.bq
    have hbx := hc3.blk HNB.out (by simp; omega)
    clear f0 f1 f2 f3 f4 f5 f6 f7 f8 f9 ff q0 qf l0 lf
    obtain ⟨f0, f1, f2, f3, f4, f5, f6, f7, f8, f9, ff⟩ := blk10 hbx
    obtain ⟨k0, kf⟩ := blk1 (hc3.blk HRW.out.bl (by simp))
    have HW3 := hI hc3
    have HM3 := hI hm3
    have HO3 := hI (owns_chg HRW.out.own hc3 fun q hq hm => by have := (HRW.out.own.lt q hq).1; simp only [List.mem_singleton] at hm; omega)
    have h3s := hc3.size
    have h3s2 : wr.heap.size <= w3.heap.size := Nat.le_trans HXA.out.size hc3.size
    clear hm3 hc3 HF HSN hbx
    go_wp2_with (at_builtin; refine wpList_append_at elemCla rfl _ _ rfl (w.heap.size + 5) _ u2.length _ rfl HO3.out _ 1 1 rfl ?f0 rfl ?f1 ?f2 ?f3 ?f4 ?_)
    case f0 => simp
    case f1 => simp [Value.oneCell']
    case f2 => unfold maxLen; omega
    case f3 => omega
    case f4 => omega
    intro v8 w8 hown8 hc8 hw8
    obtain ⟨a8, c8, hv8⟩ := owns_form hown8
    subst hv8
    obtain ⟨m0, mf⟩ := blk1 (hc8.blk (HW3.out.blk HRW.out.bl (by simp)) fun hm => by have := (HRW.out.own.lt _ (mem_rowOf.1 hm)).1; omega)
    have HR9 := hI (HRW.out.step (c := l.getD d cla0) (cv := v) HUX.out (by rw [HDN.out]; exact HM3.out) HW3.out hown8 hc8).1
    have HS9 := hI (((HS2.out.ext HXA.out).chg HW3.out (fun b' off' e' hm => (HF2.out b' off' e').1 (by simpa using hm))).chg hc8 (fun b' off' e' hm => (HF2.out b' off' e').2.2 (mem_rowOf.1 hm).symm))
    have HF9 := hI (show ∀ b off, some (⟨bn, offn, none⟩ : Addr) = some ⟨b, off, none⟩ -> b ≠ w.heap.size + 3 /\ b ≠ w.heap.size + 2 /\ some b ≠ (Value.slice a8 (u2.length + 1) c8).ownBlock from fun b' off' e' => by
     obtain ⟨p1, p2, p3⟩ := HF2.out b' off' e'
     have hbl : b' < wr.heap.size := by
      obtain ⟨bb, oo, ee, cc⟩ := HS2.out.2.2.2 j hjl
      rw [ee] at e'
      simp only [Option.some.injEq, Addr.mk.injEq, and_true] at e'
      have := block_lt cc
      simp only at this; omega
     refine ⟨p1, p2, fun e2 => ?_⟩
     rcases hw8 b' e2.symm with h | h
     ·exact p3 h.symm
     omega)
    have HS10 := hI (HS9.out.chg (show Chg [w.heap.size + 2] w8 (w8.setCell ⟨w.heap.size + 2, 0, none⟩ (.slice a8 (u2.length + 1) c8)) from (Chg.refl _ _).setCell (Or.inl (by simp)) _) (fun b' off' e' hm => (HF2.out b' off' e').2.1 (by simpa using hm)))
    clear hown8 hc8 hw8 HS9 f0 f1 f2 f3 f4 f5 f6 f7 f8 f9 ff k0 kf
    go_wp2_with fail
    go_roundw
    case rel =>
     have e1 : u ++ (t ++ [l.getD d cla0]) = u2 ++ [l.getD d cla0] := by rw [HU2.out]; simp
     refine ⟨t ++ [l.getD d cla0], _, _, j + 1, by go_num, by omega, by rw [e1]; exact HR9.out, by rw [e1]; have := HST.out; simpa using this, ?_, HS10.out, HF9.out⟩
     intro c hc
     rcases List.mem_append.1 hc with h | h
     ·exact HTL.out c h
     rw [List.mem_singleton.1 h]; exact HCM.out
    case measure => simp [intOf]; omega
  have tj : decide ((j : Int) < (ns.length : Int)) = false := decide_eq_false (by omega)
  have HPE := hI (HP2.out.end (by omega) HNM.out)
  go_wp2_with fail
  go_end0
  exact ⟨rfl, t, _, vs2, HU2.out ▸ HR2.out, HU2.out ▸ HPE.out, HTL.out⟩
def UsedQ (l : List Cla) (e : Ex) (w : World) (r : Ending) (w' : World) : Prop := ∃ u a c, r = .returned (.slice a u.length c) /\ IsClas w' u a u.length c /\ UsedC l e u /\ Ext w w'
theorem used_calls (s : List Attr) (l : List Cla) (f : ZI) (e : Ex) (ev : Value) (lo : LossV) (n : Nat) (w : World) (hlo : IsDLoss w s l f lo n) (hl : l.length <= 100000) (he : IsEx w e ev) (hes : e.size <= 100000 /\ e.fits) (hsz : ∀ x ∈ l, x.cond.size <= 100000 /\ x.cond.fits) :
  Calls Tryz.prog 87 #[lo.val, ev] w (UsedQ l e w) := by
 obtain ⟨g, hmp, hdg⟩ := hlo.defs
 obtain ⟨aw, nw, cw, aa, na, ca, rfl, -⟩ := he.parts
 have HAD := hI (fun (W : World) (x : Ex) (xv lv : Value) (u : List Cla) (vs : List ClV) (xs : List Ex) (h1 : IsEx W x xv) (h2 : x.size <= 100000 /\ x.fits) (h3 : UsS w lo lv u vs W) (h4 : RPi l e u xs x (refNames (namesE x)) 0) => used1_calls l e x xv lo n w W g lv u vs xs hmp hdg hl h1 h2 h3 h4)
 have HE := hI he
 have HSZ := hI hsz
 have HES := hI hes
 clear hmp hdg he hsz hes hlo
 obtain ⟨EV, hEV⟩ : ∃ EV, EV = exV e.op e.name aw nw cw e.lo e.hi aa na ca := ⟨_, rfl⟩
 have hEV2 := hEV
 unfold exV at hEV
 unfold LossV.val
 have hmm := @run_makeMap Tryz.prog
 have hmf : ∀ (fn : Fn) (first cap : Array Value) (w : World), (Instr.makeFunc fn first cap).run Tryz.prog w = .ok (.func fn first cap) w := fun _ _ _ _ => rfl
 obtain ⟨wa, hwa⟩ : ∃ wa, wa = (((((w.alloc (.cells #[.slice lo.sa lo.sn lo.sc, .map (some lo.bm), .slice lo.fa lo.fn lo.fc] 74)).alloc (.cells #[.int .i64 e.op, .string e.name, .slice aw nw cw, .int .i64 e.lo, .int .i64 e.hi, .slice aa na ca] 45)).alloc (.cells #[.slice none 0 0] 25)).alloc (.map #[] 0)).alloc (.cells #[.map (some (w.heap.size + 3))] 186)) := ⟨_, rfl⟩
 have HE0 := hI (show wa.heap[w.heap.size + 1]? = some (.cells #[.int .i64 e.op, .string e.name, .slice aw nw cw, .int .i64 e.lo, .int .i64 e.hi, .slice aa na ca] 45 (0, 0)) by rw [hwa]; exact blk_alloc (blk_alloc (blk_alloc (alloc_atR (by simp)))))
 have HUS := hI (show UsS w lo (.slice none 0 0) [] [] wa from {
  ext := by rw [hwa]; exact (((((Ext.refl _).alloc _).alloc _).alloc _).alloc _).alloc _
  cla := ⟨rfl, fun i h => by simp at h⟩
  own := World.ownsRow_nil _ _ _ _
  seen := by
   have h0 := MapAt.made (((w.alloc (.cells #[.slice lo.sa lo.sn lo.sc, .map (some lo.bm), .slice lo.fa lo.fn lo.fc] 74)).alloc (.cells #[.int .i64 e.op, .string e.name, .slice aw nw cw, .int .i64 e.lo, .int .i64 e.hi, .slice aa na ca] 45)).alloc (.cells #[.slice none 0 0] 25)) 9
   rw [hwa]
   refine ((by simpa using h0 : MapAt _ _ (w.heap.size + 3) 0 _).ext ((Ext.refl _).alloc _)).congr fun x => ?_
   cases x <;> simp [strF, memT, nmsOf]
  bx := by rw [hwa]; exact blk_alloc (blk_alloc (blk_alloc (blk_alloc (alloc_new w _))))
  bl := by rw [hwa]; exact blk_alloc (blk_alloc (alloc_atR (by simp)))
  bq := by rw [hwa]; exact alloc_atR (by simp) })
 obtain ⟨f0, f1, f2, f3, f4, f5, ff⟩ := blk6 HE0.out
 rw [<- hEV2, hEV]
 go_enter Tryz.func87, Tryz.ntmps87
 go_upto_region 3 with fail
 rw [<- hwa]
 clear hwa
 go_wp2_with fail
 rw [<- hEV]
 refine (HAD.out wa e _ _ [] [] [] (by rw [hEV2]; exact HE.out.ext HUS.out.ext) HES.out HUS.out (RPi.first e _)).mono ?_
 rintro r w1 ⟨rfl, t0, lv0, vs0, hu0, hp0, ht0⟩
 have HU0 := hI hu0
 have HP0 := hI hp0
 have HT0 := hI ht0
 clear hu0 hp0 ht0 f0 f1 f2 f3 f4 f5 ff HE0 HUS
 go_wp2_with fail
 go_loopw [8] (fun i wr => ∃ u lv vs k, i = .int .i64 (k : Nat) /\ k <= u.length /\ UsS w lo lv u vs wr /\ RP l e u ((u.drop k).map (·.cond)) /\ ∀ c ∈ u, c ∈ l) (fun i _ => l.length - (intOf i).toNat)
 case atStart => exact ⟨t0, lv0, vs0, 0, rfl, by omega, by simpa using HU0.out, by simpa using HP0.out, HT0.out⟩
 case round =>
  obtain ⟨u, lv, vs, k, rfl, hk, hu, hp, hm⟩ := hrel
  obtain ⟨la, lc, hlv⟩ := owns_form hu.own
  subst hlv
  have HU := hI hu
  have HP := hI hp
  have HM := hI hm
  have hul := defs_len hp.defs hp.names
  obtain ⟨a', c', hv, hcl⟩ := clas_owns (M := []) hu.own (by simp) (hu.cla.mono (hu.ext.sub.trans (to_mask_nil _)))
  simp only [Value.slice.injEq, true_and] at hv
  obtain ⟨rfl, rfl⟩ := hv
  have HCL := hI (hcl.mono (mask_sub _ _))
  obtain ⟨l0, lf⟩ := blk1 hu.bl
  clear hu hp hm hcl HU0 HP0 HT0
  by_cases hlt : k < u.length
  ·have t1 : decide ((k : Int) < (u.length : Int)) = true := decide_eq_true (by omega)
   obtain ⟨cb, coff, v, rfl, hcla, hrow⟩ := HCL.out.at hlt
   obtain ⟨c0, c1, c2, c3, c4, c5, c6, c7, c8, c9⟩ := hrow.ten
   have HEX := hI hcla.2.2.1
   have hsx : u[k].cond.size <= 100000 /\ u[k].cond.fits := HSZ.out _ (HM.out _ (List.getElem_mem hlt))
   have HPF := hI (show RP l e u (u[k].cond :: (u.drop (k + 1)).map (·.cond)) by have := HP.out; rw [List.drop_eq_getElem_cons hlt, List.map_cons] at this; exact this)
   have HCA := hI (HAD.out wr u[k].cond _ _ u vs _ HEX.out hsx HU.out (HPF.out.popF _))
   unfold ExV.val exV at HCA
   clear hcla hrow hsx
   go_wp2_with fail
   refine HCA.out.mono ?_
   rintro r w1 ⟨rfl, t1, lv1, vs1, hu1, hp1, ht1⟩
   have HU1 := hI hu1
   have HP1 := hI hp1
   have HT1 := hI ht1
   have hl1 := defs_len hp1.defs hp1.names
   clear hu1 hp1 ht1 c0 c1 c2 c3 c4 c5 c6 c7 c8 c9 l0 lf
   go_wp2_with fail
   go_roundw
   case rel =>
    refine ⟨u ++ t1, lv1, vs1, k + 1, by go_num, by simp; omega, HU1.out, ?_, ?_⟩
    ·rw [List.drop_append_of_le_length (by omega), List.map_append]
     exact HP1.out
    intro c hc
    rcases List.mem_append.1 hc with h | h
    ·exact HM.out c h
    exact HT1.out c h
   case measure => simp at hl1; simp [intOf]; omega
  have t1 : decide ((k : Int) < (u.length : Int)) = false := decide_eq_false (by omega)
  go_wp2_with fail
  go_ret
  refine ⟨u, _, _, rfl, HCL.out, ⟨?_, HM.out⟩, HU.out.ext⟩
  have := HP.out
  rw [List.drop_eq_nil_of_le (by omega)] at this
  exact this.used
end Go.Proofs.YtefjomofjejklaaGreatDoor
