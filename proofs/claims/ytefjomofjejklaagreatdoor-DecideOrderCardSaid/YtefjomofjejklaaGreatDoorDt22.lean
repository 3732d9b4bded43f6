/-
  Texts of the claim, joined: DChk, Used1, Value, Eval, Holds.
-/
import Derived.Test.YtefjomofjejklaaGreatDoorDt21
namespace Go.Proofs.YtefjomofjejklaaGreatDoor
set_option maxRecDepth 100000
set_option maxHeartbeats 32000000
open Go.RowKit Go.Maps
theorem uMapSC : Tryz.prog.underlying 72 = some (.map 9 48) := by kernel_rfl
def clvV (v : ClV) : Value := .agg #[.int .i64 v.kind, .string v.name, .int .i64 v.x.op, .string v.x.name, .slice v.x.aw v.x.nw v.x.cw, .int .i64 v.x.lo, .int .i64 v.x.hi, .slice v.x.aa v.x.na v.x.ca, .slice v.au v.nu v.cu, .int .i64 v.amount]
theorem zeroCl (w : World) : (zeroValue 48).run Tryz.prog w = .ok (.agg #[.int .i64 0, .string ⟨#[]⟩, .int .i64 0, .string ⟨#[]⟩, .slice none 0 0, .int .i64 0, .int .i64 0, .slice none 0 0, .slice none 0 0, .int .i64 0]) w := by kernel_rfl
def DefsGC (w : World) (l : List Cla) (g : BA -> Option Value) : Prop := ∀ s, (defAt l s = none -> g s = none) /\ ∀ d, defAt l s = some d -> ∃ v : ClV, g s = some (clvV v) /\ IsCla w (l.getD d cla0) v
theorem DefsGC.ext {w w' : World} {l : List Cla} {g : BA -> Option Value} (h : DefsGC w l g) (hx : Ext w w') : DefsGC w' l g := fun s => ⟨(h s).1, fun d hd => by obtain ⟨v, h1, h2⟩ := (h s).2 d hd; exact ⟨v, h1, h2.mono hx.sub⟩⟩
theorem DefsGC.skip {w : World} {l : List Cla} {k : Nat} {g : BA -> Option Value} (hk : k < l.length) (h : DefsGC w (l.take k) g) (hs : l[k].kind ≠ 1) : DefsGC w (l.take (k + 1)) g := by
 intro s
 have key : defAt (l.take (k + 1)) s = defAt (l.take k) s := by
  rw [defAt_take hk]
  cases hd : defAt (l.take k) s with
  | some d => rfl
  | none => rw [if_neg]; rintro ⟨h1, h2⟩; exact hs h1
 rw [key]
 refine ⟨(h s).1, fun d hd => ?_⟩
 have : d < k := by have := defAt_lt hd; simp at this; omega
 rw [getD_take (by omega), <- getD_take (k := k) this]
 exact (h s).2 d hd
theorem DefsGC.step {w : World} {l : List Cla} {k : Nat} {g : BA -> Option Value} (hk : k < l.length) (h : DefsGC w (l.take k) g) (hk1 : l[k].kind = 1) (hn : defAt (l.take k) l[k].name = none) {v : ClV} (hv : IsCla w l[k] v) : DefsGC w (l.take (k + 1)) (upS g l[k].name (some (clvV v))) := by
 intro s
 rw [defAt_take hk]
 by_cases e : s = l[k].name
 ·subst e
  rw [hn, upS_same]
  simp only [hk1, and_self, if_true]
  refine ⟨fun h => by simp at h, fun d hd => ?_⟩
  obtain rfl : k = d := by simpa using hd
  rw [getD_take (by omega), getD_cla hk]
  exact ⟨v, rfl, hv⟩
 rw [upS_other _ _ e]
 cases hd : defAt (l.take k) s with
 | none =>
  have : ¬ (l[k].kind = 1 /\ l[k].name = s) := fun h => e h.2.symm
  simp only [if_neg this]
  exact ⟨fun _ => (h s).1 hd, fun d hd' => by cases hd'⟩
 | some d =>
  have hdk : d < k := by have := defAt_lt hd; simp at this; omega
  refine ⟨fun h => by simp at h, fun d' hd' => ?_⟩
  obtain rfl : d = d' := by simpa using hd'
  rw [getD_take (by omega), <- getD_take (k := k) hdk]
  exact (h s).2 d hd
structure IsDLoss (w : World) (s : List Attr) (l : List Cla) (f : ZI) (v : LossV) (n : Nat) : Prop where
 sch : IsSchema w s (.agg #[.slice v.sa v.sn v.sc])
 defs : ∃ g, MapAt w 9 v.bm n (strF g) /\ DefsGC w l g
 ints : IsIntF w f v.fa v.fn
theorem IsDLoss.ext {w w' : World} {s : List Attr} {l : List Cla} {f : ZI} {v : LossV} {n : Nat} (h : IsDLoss w s l f v n) (hx : Ext w w') : IsDLoss w' s l f v n := ⟨h.sch.ext hx, by obtain ⟨g, h1, h2⟩ := h.defs; exact ⟨g, h1.ext hx, h2.ext hx⟩, h.ints.ext hx⟩
noncomputable def decErr (s : List Attr) (l : List Cla) (f : ZI) : Int := if (clausesErr s l).2 ≠ 0 then (clausesErr s l).2 else if factsB s f = false then 16 else 0
def DChkQ (s : List Attr) (l : List Cla) (f : ZI) (n : Nat) (w : World) (r : Ending) (w' : World) : Prop := Ext w w' /\ ((decErr s l f ≠ 0 /\ r = .returned (.tuple #[lossZero, .int .i64 (decErr s l f)])) \/ (decErr s l f = 0 /\ ∃ lv : LossV, r = .returned (.tuple #[lv.val, .int .i64 0]) /\ IsDLoss w' s l f lv n))
theorem dchecked_calls (s : List Attr) (l : List Cla) (f : ZI) (sv : Value) (a : OA) (n c : Nat) (fa : OA) (fn fc : Nat) (w : World) (hs : IsSchema w s sv) (hf : ∀ x ∈ s, x.fits) (hsl : s.length <= 1000000000000000) (hl : IsClas w l a n c) (hn : n <= 1000000) (hok : ∀ x ∈ l, x.fit) (hi : IsIntF w f fa fn) (hfn : fn <= 1000000000000000) (ho : HasOps w) :
  Calls Tryz.prog 27 #[sv, .slice a n c, .slice fa fn fc] w (DChkQ s l f n w) := by
 obtain ⟨sa, sn, sc, rfl, hsn⟩ := hs.slice
 have HCL := hI (fun W (hW : Ext w W) => cClauses_calls s l _ a n c W (hs.ext hW) hf hsl (hl.ext hW) (by omega) hok (ho.ext hW))
 have HFC := hI (fun W (hW : Ext w W) => sValid_calls s _ f fa fn fc W (hs.ext hW) hf hsl (hi.ext hW) hfn)
 have HCK := hI (fun (h1 : (clausesErr s l).2 = 0) => chk_of h1)
 have HL := hI hl
 have HS := hI hs
 have HI := hI hi
 have HSZ := hI (fun x hx => (hok x hx).1)
 have HN := hI hl.len
 obtain ⟨R, hR⟩ : ∃ R, R = decErr s l f := ⟨_, rfl⟩
 unfold DChkQ
 rw [<- hR]
 unfold decErr at hR
 obtain ⟨⟨i0, E1⟩, hE1⟩ : ∃ E : Nat × Int, E = clausesErr s l := ⟨_, rfl⟩
 rw [<- hE1] at HCL hR
 have HCK1 := hI (fun (h1 : E1 = 0) => HCK.out (by rw [<- hE1]; exact h1))
 clear HCK
 obtain ⟨B, hB⟩ : ∃ B, B = factsB s f := ⟨_, rfl⟩
 rw [<- hB] at HFC hR
 have HR := hI hR
 clear hs hf hsl hl hok hi hsn hR hE1 hB ho
 obtain ⟨wa, hwa⟩ : ∃ wa, wa = (w.alloc (.cells #[.slice sa sn sc] 24)).alloc (.cells #[.slice none 0 0, .map none, .slice none 0 0] 74) := ⟨_, rfl⟩
 have hxa : Ext w wa := by rw [hwa]; exact ((Ext.refl _).alloc _).alloc _
 have HB0 := hI (show wa.heap[w.heap.size]? = some (.cells #[.slice sa sn sc] 24 (0, 0)) by rw [hwa]; exact blk_alloc (alloc_new w _))
 have HB2 := hI (show wa.heap[w.heap.size + 1]? = some (.cells #[.slice none 0 0, .map none, .slice none 0 0] 74 (0, 0)) by rw [hwa]; exact alloc_atR (by simp))
 have HXA := hI hxa
 obtain ⟨e0, ef⟩ := blk1 HB0.out
 clear hxa
 unfold clsV at HCL
 go_enter Tryz.func27, Tryz.ntmps27
 go_upto_region 1 with fail
 rw [<- hwa]
 clear hwa
 go_wp2_with fail
 refine (HCL.out wa HXA.out).mono ?_
 rintro r w1 ⟨rfl, hx1⟩
 have HX1 := hI (HXA.out.trans hx1)
 have HB03 := hI (hx1.blk HB0.out)
 have HB23 := hI (hx1.blk HB2.out)
 clear hx1 e0 ef HCL HB0 HB2
 by_cases h1 : E1 = 0
 case neg =>
  have t1 : (E1 != 0) = true := by simp [h1]
  have HQ := hI (show R = E1 by rw [HR.out, if_pos h1])
  have HNZ := hI h1
  clear h1
  obtain ⟨r0, r1, r2, rf⟩ := blk3 HB23.out
  go_wp2_with fail
  obtain ⟨wz, hwz⟩ : ∃ wz, wz = put3 w1 (w.heap.size + 1) (.slice none 0 0) (.map none) (.slice none 0 0) := ⟨_, rfl⟩
  have HZ := hI (show wz.heap[w.heap.size + 1]? = some (.cells #[.slice none 0 0, .map none, .slice none 0 0] 74 (0, 0)) by rw [hwz]; exact put3_blk HB23.out _ _ _)
  have HXZ := hI (show Ext w wz by rw [hwz]; exact (put3_chg w1 (w.heap.size + 1) (.slice none 0 0) (.map none) (.slice none 0 0) (N := [w.heap.size + 1]) (by simp)).ext HX1.out (fun y hy => by simp only [List.mem_singleton] at hy; omega))
  unfold put3 at hwz
  rw [<- hwz]
  clear hwz
  obtain ⟨z0, z1, z2, zf⟩ := blk3 HZ.out
  refine bodyPost_ret (v := .tuple #[lossZero, .int .i64 E1]) (by simp [results, Tryz.results27, go_sem, lossZero, z0, z1, z2]) rfl ?_
  exact ⟨HXZ.out, Or.inl ⟨by rw [HQ.out]; exact HNZ.out, by rw [HQ.out]⟩⟩
 have t1 : (E1 != 0) = false := by simp [h1]
 have HR4 := hI (show R = if B = false then 16 else 0 by rw [HR.out, if_neg (by simpa using h1)])
 have HCK := hI (HCK1.out h1)
 clear h1 HR HCK1
 have HX3 := HX1
 obtain ⟨e0, ef⟩ := blk1 HB03.out
 go_wp2_with fail
 refine (HFC.out w1 HX3.out).mono ?_
 rintro r w4 ⟨rfl, hx4⟩
 have HX4 := hI (HX3.out.trans hx4)
 have HB04 := hI (hx4.blk HB03.out)
 have HB24 := hI (hx4.blk HB23.out)
 clear hx4 e0 ef HFC
 cases B
 case false =>
  have HQ := hI (show R = 16 by rw [HR4.out]; rfl)
  obtain ⟨r0, r1, r2, rf⟩ := blk3 HB24.out
  go_wp2_with fail
  obtain ⟨wz, hwz⟩ : ∃ wz, wz = put3 w4 (w.heap.size + 1) (.slice none 0 0) (.map none) (.slice none 0 0) := ⟨_, rfl⟩
  have HZ := hI (show wz.heap[w.heap.size + 1]? = some (.cells #[.slice none 0 0, .map none, .slice none 0 0] 74 (0, 0)) by rw [hwz]; exact put3_blk HB24.out _ _ _)
  have HXZ := hI (show Ext w wz by rw [hwz]; exact (put3_chg w4 (w.heap.size + 1) (.slice none 0 0) (.map none) (.slice none 0 0) (N := [w.heap.size + 1]) (by simp)).ext HX4.out (fun y hy => by simp only [List.mem_singleton] at hy; omega))
  unfold put3 at hwz
  rw [<- hwz]
  clear hwz
  obtain ⟨z0, z1, z2, zf⟩ := blk3 HZ.out
  refine bodyPost_ret (v := .tuple #[lossZero, .int .i64 16]) (by simp [results, Tryz.results27, go_sem, lossZero, z0, z1, z2]) rfl ?_
  exact ⟨HXZ.out, Or.inl ⟨by rw [HQ.out]; decide, by rw [HQ.out]⟩⟩
 have HQ := hI (show R = 0 by rw [HR4.out]; rfl)
 have hmm := @run_makeMap Tryz.prog
 have HM0 := hI (MapAt.made w4 9)
 have HX0 := hI ((Ext.refl w4).alloc (.map #[] 0))
 obtain ⟨bf, hbf⟩ : ∃ bf : Nat, bf = w4.heap.size := ⟨_, rfl⟩
 have HBF := hI hbf
 have HBW := hI (show w.heap.size + 1 < bf by rw [hbf]; exact blk_lt HB24.out)
 go_wp2_with fail
 rw [<- hbf]
 rw [<- hbf] at HM0
 clear hbf hmm
 go_loopw [31] (fun i wr => ∃ (k : Nat) (g : BA -> Option Value), k <= n /\ i = .int .i64 k /\ MapAt wr 9 bf k (strF g) /\ DefsGC w (l.take k) g /\ wr.heap[w.heap.size]? = some (.cells #[.slice sa sn sc] 24 (0, 0)) /\ wr.heap[w.heap.size + 1]? = some (.cells #[.slice none 0 0, .map none, .slice none 0 0] 74 (0, 0)) /\ Ext w wr) (fun i _ => n - (intOf i).toNat)
 case atStart =>
  refine ⟨0, fun _ => none, by omega, rfl, HM0.out.congr fun x => ?_, fun s => ⟨fun _ => rfl, fun d hd => ?_⟩, HX0.out.blk HB04.out, HX0.out.blk HB24.out, HX4.out.trans HX0.out⟩
  ·cases x <;> simp [strF]
  simp [defAt] at hd
 case round =>
  obtain ⟨k, g, hk, rfl, hmap, hg, hb0, hb2, hx⟩ := hrel
  have HMP := hI hmap
  have HX := hI hx
  have HG := hI hg
  have HBA := hI hb0
  have HBC := hI hb2
  have hbw := hmap.lt
  clear hmap hx hg HM0 HX0 hb0 hb2
  by_cases hlt : k < n
  ·have hlt' : k < l.length := by have := HN.out; omega
   have t1 : decide ((k : Int) < (n : Int)) = true := decide_eq_true (by omega)
   obtain ⟨cb, coff, v, rfl, hcla, hrow⟩ := HL.out.at hlt'
   obtain ⟨c0, c1, c2, c3, c4, c5, c6, c7, c8, c9⟩ := (hrow.mono HX.out.sub).ten
   have hns : v.name.size <= 1000000000000000 := by rw [hcla.2.1]; exact HSZ.out _ (List.getElem_mem hlt')
   have hblt := block_lt c0
   simp only at hblt
   have HEXV := hI hcla
   have HEK := hI (show l[k].kind = v.kind from hcla.1.symm)
   have HEN := hI (show l[k].name = v.name from hcla.2.1.symm)
   have HFR := hI (HCK.out.fresh hlt')
   rw [HEN.out] at HFR
   have HST := hI (fun h1 h2 => HG.out.step hlt' h1 h2 HEXV.out)
   have HSK := hI (HG.out.skip hlt')
   rw [HEK.out, HEN.out] at HST
   rw [HEK.out] at HSK
   clear hcla hrow
   cases hkd : (v.kind == 1)
   ·have HKN := hI (HSK.out (by simpa using hkd))
    go_wp2_with fail
    go_roundw
    case rel =>
     have hxa := (Ext.refl wr).alloc (.cells #[.int .i64 v.kind, .string v.name, .int .i64 v.x.op, .string v.x.name, .slice v.x.aw v.x.nw v.x.cw, .int .i64 v.x.lo, .int .i64 v.x.hi, .slice v.x.aa v.x.na v.x.ca, .slice v.au v.nu v.cu, .int .i64 v.amount] 48)
     exact ⟨k + 1, g, by omega, by go_num, (HMP.out.ext hxa).more (by omega), HKN.out, hxa.blk HBA.out, hxa.blk HBC.out, HX.out.trans hxa⟩
    case measure => simp [intOf]; omega
   have HKN := hI (HST.out (by simpa using hkd) HFR.out)
   go_wp2_with (at_mapUpdate; refine wpList_map_put _ rfl _ _ _ 72 rfl 9 48 keyedStr uMapSC bf k _ rfl (HMP.out.ext ((Ext.refl wr).alloc _)) ?c3 _ _ _ rfl rfl (keyStr hns) trivial ?_)
   case c3 => unfold maxLen; omega
   intro w6 hm1 hc1
   have hxa := (Ext.refl wr).alloc (.cells #[.int .i64 v.kind, .string v.name, .int .i64 v.x.op, .string v.x.name, .slice v.x.aw v.x.nw v.x.cw, .int .i64 v.x.lo, .int .i64 v.x.hi, .slice v.x.aa v.x.na v.x.ca, .slice v.au v.nu v.cu, .int .i64 v.amount] 48)
   have hxm : Ext w w6 := hc1.ext (HX.out.trans hxa) (fun y hy => by simp only [List.mem_singleton] at hy; have := HBW.out; omega)
   have HB06 := hI (hc1.blk (hxa.blk HBA.out) (by have := HBW.out; simp; omega))
   have HB26 := hI (hc1.blk (hxa.blk HBC.out) (by have := HBW.out; simp; omega))
   have HM1 := hI (hm1.congr (setF_str g v.name _))
   have HX1 := hI hxm
   clear hm1 hc1 hxa hxm
   go_wp2_with fail
   go_roundw
   case rel => exact ⟨k + 1, _, by omega, by go_num, HM1.out, HKN.out, HB06.out, HB26.out, HX1.out⟩
   case measure => simp [intOf]; omega
  have t1 : decide ((k : Int) < (n : Int)) = false := decide_eq_false (by omega)
  have HKN := hI (show k = n by omega)
  obtain ⟨e0, ef⟩ := blk1 HBA.out
  obtain ⟨r0, r1, r2, rf⟩ := blk3 HBC.out
  go_wp2_with fail
  obtain ⟨wz, hwz⟩ : ∃ wz, wz = put3 wr (w.heap.size + 1) (.slice sa sn sc) (.map (some bf)) (.slice fa fn fc) := ⟨_, rfl⟩
  have HZ := hI (show wz.heap[w.heap.size + 1]? = some (.cells #[.slice sa sn sc, .map (some bf), .slice fa fn fc] 74 (0, 0)) by rw [hwz]; exact put3_blk HBC.out _ _ _)
  have hcz : Chg [w.heap.size + 1] wr wz := by rw [hwz]; exact put3_chg wr (w.heap.size + 1) (.slice sa sn sc) (.map (some bf)) (.slice fa fn fc) (by simp)
  have HXZ := hI (hcz.ext HX.out (fun y hy => by simp only [List.mem_singleton] at hy; omega))
  have HLZ := hI (show IsDLoss wz s l f ⟨sa, sn, sc, bf, fa, fn, fc⟩ n from ⟨HS.out.ext HXZ.out, by
   exact ⟨g, by rw [<- HKN.out]; exact HMP.out.chg hcz (by have := HBW.out; simp; omega), by have := HG.out.ext HXZ.out; rwa [List.take_of_length_le (by have := HN.out; omega)] at this⟩, HI.out.ext HXZ.out⟩)
  unfold put3 at hwz
  rw [<- hwz]
  clear hwz hcz
  obtain ⟨z0, z1, z2, zf⟩ := blk3 HZ.out
  refine bodyPost_ret (v := .tuple #[LossV.val ⟨sa, sn, sc, bf, fa, fn, fc⟩, .int .i64 0]) (by simp [results, Tryz.results27, go_sem, LossV.val, z0, z1, z2]) rfl ?_
  exact ⟨HXZ.out, Or.inr ⟨by rw [HQ.out], _, rfl, HLZ.out⟩⟩
theorem uMapSB : Tryz.prog.underlying 186 = some (.map 9 4) := by kernel_rfl
theorem zeroBo (w : World) : (zeroValue 4).run Tryz.prog w = .ok (.bool false) w := by kernel_rfl
theorem wpList_map_getW (w : World) {ops : Array Oper} {rest : List Oper} {o : Oper} {a : Act} {Q : Exit -> Act -> World -> Prop} (hw : Region.wanted o (yielded ops a.tmps) = true) (m x : Operand) (t : TypeId) (hop : o.op = Op.lookup t m x false) (k e : TypeId) (K : Keyed Tryz.prog k) (ht : Tryz.prog.underlying t = some (.map k e)) {z : Value} (hz : (zeroValue e).run Tryz.prog w = .ok z w) (b n : Nat) (f : Lit -> Option Value)
  (hm : a.eval m = .map (some b)) (hmap : MapAt w k b n f) (key : Value) (kl : Lit) (hx : a.eval x = key) (hkey : keyOf Tryz.prog k key = some kl) (hkl : WideAt.IsKeyLit kl)
  (hK : wpList Tryz.prog ops Q rest (a.put o.dst ((f kl).getD z)) w) : wpList Tryz.prog ops Q (o :: rest) a w := by
 obtain ⟨D, hown, hf⟩ := hmap
 refine wpList_step fun K' hK' => ?_
 rw [if_pos hw]
 obtain ⟨v, ps, hrun, hv⟩ := hown.lookup K ht hz (zd := .held z) (zp := []) rfl hkey
 have e1 : DataW.held v = D.atKey kl (.held z) := by
  simp only [heldE, Option.some.injEq, Prod.mk.injEq] at hv
  exact hv.1
 rw [<- hf.at hkl e1] at hK
 unfold Oper.wp
 simp [execOp, hop, hm, hx, hrun, Result.andThen]
 exact hK' _ _ hK
open Classical in
noncomputable def memT (M : BA -> Prop) : BA -> Option Value := fun s => if M s then some (.bool true) else none
theorem memT_step (m : BA -> Prop) (x : BA) (y : Lit) : setF (strF (memT m)) (.string x.data.toList) (some (.bool true)) y = strF (memT fun z => z = x \/ m z) y := by
 rw [setF_str]
 congr 1
 funext z
 by_cases h : z = x
 ·subst h; rw [upS_same]; simp [memT]
 rw [upS_other _ _ h]
 by_cases hm : m z <;> simp [memT, h, hm]
structure UsS (w : World) (lo : LossV) (lv : Value) (u : List Cla) (vs : List ClV) (wr : World) : Prop where
 ext : Ext w wr
 cla : ClasR w u vs
 own : wr.ownsRow (w.heap.size + 5) 48 10 lv u.length (vs.flatMap ClV.cells)
 seen : MapAt wr 9 (w.heap.size + 3) u.length (strF (memT fun s => s ∈ nmsOf u))
 bx : wr.heap[w.heap.size]? = some (.cells #[.slice lo.sa lo.sn lo.sc, .map (some lo.bm), .slice lo.fa lo.fn lo.fc] 74 (0, 0))
 bl : wr.heap[w.heap.size + 2]? = some (.cells #[lv] 25 (0, 0))
 bq : wr.heap[w.heap.size + 4]? = some (.cells #[.map (some (w.heap.size + 3))] 186 (0, 0))
theorem UsS.extd {w : World} {lo : LossV} {lv : Value} {u : List Cla} {vs : List ClV} {wr wr' : World} (h : UsS w lo lv u vs wr) (hx : Ext wr wr') : UsS w lo lv u vs wr' :=
 ⟨h.ext.trans hx, h.cla, owns_chg h.own (hx.chg []) (by simp), h.seen.ext hx, hx.blk h.bx, hx.blk h.bl, hx.blk h.bq⟩
theorem UsS.step {w W w3 w8 : World} {lo : LossV} {lv lv' : Value} {u : List Cla} {vs : List ClV} (h : UsS w lo lv u vs W) {c : Cla} {cv : ClV} (hcv : IsCla w c cv)
  (hm : MapAt w3 9 (w.heap.size + 3) (u.length + 1) (setF (strF (memT fun s => s ∈ nmsOf u)) (.string c.name.data.toList) (some (.bool true)))) (hc3 : Chg [w.heap.size + 3] W w3)
  (ho8 : w8.ownsRow (w.heap.size + 5) 48 10 lv' (u.length + 1) (vs.flatMap ClV.cells ++ cv.cells)) (hc8 : Chg (rowOf lv) w3 w8) :
  UsS w lo lv' (u ++ [c]) (vs ++ [cv]) (w8.setCell ⟨w.heap.size + 2, 0, none⟩ lv') /\ (∀ q, q < w.heap.size -> True) := by
 have hc9 : Chg [w.heap.size + 2] w8 (w8.setCell ⟨w.heap.size + 2, 0, none⟩ lv') := (Chg.refl _ _).setCell (Or.inl (by simp)) _
 have hr : ∀ q ∈ rowOf lv, w.heap.size + 5 <= q := fun q hq => (h.own.lt q (mem_rowOf.1 hq)).1
 have hr' : ∀ q, lv'.ownBlock = some q -> w.heap.size + 5 <= q := fun q hq => (ho8.lt q hq).1
 refine ⟨{
  ext := hc9.ext (hc8.ext (hc3.ext h.ext (by simp)) fun q hq => by have := hr q hq; omega) (by simp)
  cla := h.cla.snoc hcv
  own := by
   have := owns_chg ho8 hc9 fun q hq hm => by
    have := hr' q hq
    simp only [List.mem_singleton] at hm
    omega
   simpa using this
  seen := by
   have := ((hm.chg hc8 fun hm => by have := hr _ hm; omega).chg hc9 (by simp)).congr (memT_step _ c.name)
   refine (show (u ++ [c]).length = u.length + 1 by simp) ▸ this.congr fun y => ?_
   congr 2
   funext z
   rw [nmsOf_snoc]
   simp [or_comm]
  bx := hc9.blk (hc8.blk (hc3.blk h.bx (by simp)) fun hm => by have := hr _ hm; omega) (by simp)
  bl := heap_setCell_same w8 _ 0 _ _ lv' (hc8.blk (hc3.blk h.bl (by simp)) fun hm => by have := hr _ hm; omega)
  bq := hc9.blk (hc8.blk (hc3.blk h.bq (by simp)) fun hm => by have := hr _ hm; omega) (by simp) }, fun _ _ => trivial⟩
theorem RPi.first {l : List Cla} (e : Ex) (ns : ZB) : RPi l e [] [] e ns 0 := ⟨by simp, by simp [nmsOf], Or.inr (Or.inl rfl), by simp, by simp, Or.inl rfl, fun i _ h => by omega, by simp⟩
theorem RP.popF {l : List Cla} {e : Ex} {u : List Cla} {xs : List Ex} {x : Ex} (h : RP l e u (x :: xs)) (ns : ZB) : RPi l e u xs x ns 0 := by
 refine ⟨h.defs, h.names, ?_, fun c hc => ?_, fun y hy => h.stack y (by simp [hy]), h.stack x (by simp), fun i _ h => by omega, by have := h.slen; simpa using this⟩
 ·rcases h.top with h1 | h1
  ·rcases List.mem_cons.1 h1 with h2 | h2
   ·exact Or.inr (Or.inl h2)
   exact Or.inl h2
  exact Or.inr (Or.inr h1)
 rcases h.closed c hc with h1 | h1
 ·rcases List.mem_cons.1 h1 with h2 | h2
  ·exact Or.inr (Or.inl h2)
  exact Or.inl h2
 exact Or.inr (Or.inr h1)
def DAddQ (w : World) (lo : LossV) (l : List Cla) (e : Ex) (u : List Cla) (xs : List Ex) (r : Ending) (w' : World) : Prop := r = .returned (.tuple #[]) /\ ∃ t lv' vs', UsS w lo lv' (u ++ t) vs' w' /\ RP l e (u ++ t) (xs ++ t.map (·.cond)) /\ ∀ c ∈ t, c ∈ l
theorem used1_calls (l : List Cla) (e x : Ex) (ev : Value) (lo : LossV) (n : Nat) (w W : World) (g : BA -> Option Value) (lv : Value) (u : List Cla) (vs : List ClV) (xs : List Ex) (hmp : MapAt w 9 lo.bm n (strF g)) (hdg : DefsGC w l g) (hl : l.length <= 100000) (hx : IsEx W x ev) (hxs : x.size <= 100000 /\ x.fits) (hus : UsS w lo lv u vs W) (hrp : RPi l e u xs x (refNames (namesE x)) 0) :
  Calls Tryz.prog 117 #[ev, .pointer (some ⟨w.heap.size, 0, none⟩), .pointer (some ⟨w.heap.size + 4, 0, none⟩), .pointer (some ⟨w.heap.size + 2, 0, none⟩)] W (DAddQ w lo l e u xs) := by
 obtain ⟨aw, nw, cw, aa, na, ca, rfl, -⟩ := hx.parts
 have HMP := hI hmp
 have HDG := hI hdg
 have HE := hI hx
 have HUS := hI hus
 have HRP := hI hrp
 have HSX := hI hxs
 clear hmp hdg hx hus hrp hxs
 unfold exV
 obtain ⟨wa, hwa⟩ : ∃ wa, wa = W.alloc (.cells #[.int .i64 x.op, .string x.name, .slice aw nw cw, .int .i64 x.lo, .int .i64 x.hi, .slice aa na ca] 45) := ⟨_, rfl⟩
 have hxa : Ext W wa := by rw [hwa]; exact (Ext.refl _).alloc _
 obtain ⟨f0, f1, f2, f3, f4, f5, ff⟩ := blk6 (show wa.heap[W.heap.size]? = some (.cells #[.int .i64 x.op, .string x.name, .slice aw nw cw, .int .i64 x.lo, .int .i64 x.hi, .slice aa na ca] 45 (0, 0)) by rw [hwa]; exact alloc_new W _)
 have HUA := hI (HUS.out.extd hxa)
 have HEA := hI (HE.out.ext hxa)
 clear hxa HUS HE
 go_enter Tryz.func117, Tryz.ntmps117
 go_upto_region 1 with fail
 rw [<- hwa]
 clear hwa
 go_wp2_with fail
 refine (synNamesF_calls x _ wa (by have := HSX.out.1; omega) HSX.out.2 HEA.out).mono ?_
 obtain ⟨ns, hns⟩ : ∃ ns, ns = refNames (namesE x) := ⟨_, rfl⟩
 have HNM := hI (show ∀ s, s ∈ ns ↔ s ∈ namesE x by intro s; rw [hns, refNames_mem])
 rw [<- hns] at HRP ⊢
 have HNS := hI (show ∀ s ∈ ns, s.size <= 1000000000000000 from fun s hs => names_fit x HSX.out.2 s ((HNM.out s).1 hs))
 have hnl : ns.length <= 100000 := by rw [hns]; exact Nat.le_trans (refNames_len2 _) (Nat.le_trans (namesE_len _) HSX.out.1)
 clear hns
 rintro r w5 ⟨sa, sc, rfl, hst, hx5, hfr⟩
 have HST := hI hst
 have HU5 := hI (HUA.out.extd hx5)
 have HFR := hI (show ∀ b off, sa = some ⟨b, off, none⟩ -> b ≠ w.heap.size + 3 /\ b ≠ w.heap.size + 2 /\ some b ≠ lv.ownBlock from fun b' off' e' => by
  have h1 := hfr b' off' e'
  have h2 := blk_lt HUA.out.bq
  refine ⟨by omega, by omega, fun e2 => ?_⟩
  have := (HUA.out.own.lt b' e2.symm).2; omega)
 clear hst hx5 hfr f0 f1 f2 f3 f4 f5 ff HUA
 go_wp2_with fail
 go_loopw [12] (fun i wr => ∃ t lv' vs' j, i = .int .i64 (j : Nat) /\ j <= ns.length /\ UsS w lo lv' (u ++ t) vs' wr /\ RPi l e (u ++ t) (xs ++ t.map (·.cond)) x ns j /\ (∀ c ∈ t, c ∈ l) /\ IsStrs wr ns sa ns.length sc /\ (∀ b off, sa = some ⟨b, off, none⟩ -> b ≠ w.heap.size + 3 /\ b ≠ w.heap.size + 2 /\ some b ≠ lv'.ownBlock)) (fun i _ => ns.length - (intOf i).toNat)
 case atStart => exact ⟨[], lv, vs, 0, rfl, by omega, by simpa using HU5.out, by simpa using HRP.out, by simp, HST.out, HFR.out⟩
 case round =>
  obtain ⟨t, lv2, vs2, j, rfl, hj, hu2, hp2, htl, hst2, hfr2⟩ := hrel
  obtain ⟨la2, lc2, hlv2⟩ := owns_form hu2.own
  subst hlv2
  have HR2 := hI hu2
  have HP2 := hI hp2
  have HTL := hI htl
  have HS2 := hI hst2
  have HF2 := hI hfr2
  have hul := defs_len hp2.defs hp2.names
  clear hu2 hp2 htl hst2 hfr2 HU5 HRP HST HFR
  obtain ⟨u2, hu2⟩ : ∃ u2, u2 = u ++ t := ⟨_, rfl⟩
  rw [<- hu2] at HR2 HP2 hul HF2
  have HU2 := hI hu2
  clear hu2
  by_cases hjl : j < ns.length
  ·have tj : decide ((j : Int) < (ns.length : Int)) = true := decide_eq_true (by omega)
   obtain ⟨bn, offn, rfl, cn0⟩ := HS2.out.2.2.2 j hjl
   have hsz1 := HNS.out _ (List.getElem_mem hjl)
   obtain ⟨x0, x1, x2, xf⟩ := blk3 HR2.out.bx
   obtain ⟨q0, qf⟩ := blk1 HR2.out.bq
   obtain ⟨l0, lf⟩ := blk1 HR2.out.bl
   cases hda : defAt l ns[j] with
   | none =>
    have HF := hI (show strF g (.string ns[j].data.toList) = none by rw [strF_at]; exact (HDG.out _).1 hda)
    have HSK := hI (HP2.out.skip hjl (Or.inl hda))
    clear hda
    go_wp2_with (at_lookup; refine wpList_map_ok _ rfl _ _ 72 rfl 9 48 keyedStr uMapSC (zeroCl _) lo.bm n _ rfl (HMP.out.ext HR2.out.ext) _ _ rfl (keyStr hsz1) trivial ?_; rw [HF.out])
    go_roundw
    case rel => exact ⟨t, _, vs2, j + 1, by go_num, by omega, HU2.out ▸ HR2.out.extd ((Ext.refl wr).alloc _), HU2.out ▸ HSK.out, HTL.out, HS2.out.ext ((Ext.refl wr).alloc _), HF2.out⟩
    case measure => simp [intOf]; omega
   | some d =>
    obtain ⟨v, hu, hux⟩ := (HDG.out ns[j]).2 d hda
    have HF := hI (show strF g (.string ns[j].data.toList) = some _ by rw [strF_at]; exact hu)
    unfold clvV at HF
    have HUX := hI hux
    have hdl := defAt_lt hda
    obtain ⟨wx, hwx⟩ : ∃ wx, wx = wr.alloc (.cells #[.int .i64 v.kind, .string v.name, .int .i64 v.x.op, .string v.x.name, .slice v.x.aw v.x.nw v.x.cw, .int .i64 v.x.lo, .int .i64 v.x.hi, .slice v.x.aa v.x.na v.x.ca, .slice v.au v.nu v.cu, .int .i64 v.amount] 48) := ⟨_, rfl⟩
    have HXA := hI (show Ext wr wx by rw [hwx]; exact (Ext.refl _).alloc _)
    have HNB := hI (show wx.heap[wr.heap.size]? = some (.cells #[.int .i64 v.kind, .string v.name, .int .i64 v.x.op, .string v.x.name, .slice v.x.aw v.x.nw v.x.cw, .int .i64 v.x.lo, .int .i64 v.x.hi, .slice v.x.aa v.x.na v.x.ca, .slice v.au v.nu v.cu, .int .i64 v.amount] 48 (0, 0)) by rw [hwx]; exact alloc_new wr _)
    have hsx : wx.heap.size = wr.heap.size + 1 := by rw [hwx]; simp
    have HSZX := hI hsx
    clear hsx
    go_upto_region 5 with (at_lookup; refine wpList_map_ok _ rfl _ _ 72 rfl 9 48 keyedStr uMapSC (zeroCl _) lo.bm n _ rfl (HMP.out.ext HR2.out.ext) _ _ rfl (keyStr hsz1) trivial ?_; rw [HF.out])
    rw [<- hwx]
    clear hwx x0 x1 x2 xf q0 qf l0 lf cn0
    obtain ⟨q0, qf⟩ := blk1 (HXA.out.blk HR2.out.bq)
    obtain ⟨l0, lf⟩ := blk1 (HXA.out.blk HR2.out.bl)
    obtain ⟨f0, f1, f2, f3, f4, f5, f6, f7, f8, f9, ff⟩ := blk10 HNB.out
    by_cases hmem : ns[j] ∈ nmsOf u2
    ·have HSN := hI (show strF (memT fun s => s ∈ nmsOf u2) (.string ns[j].data.toList) = some (.bool true) by rw [strF_at]; simp [memT, hmem])
     have HSK := hI (HP2.out.skip hjl (Or.inr hmem))
     clear hda hmem hu hux
     go_wp2_with (first
      | (at_lookup; refine wpList_map_getW _ (by rfl) _ _ 186 rfl 9 4 keyedStr uMapSB (zeroBo _) (w.heap.size + 3) u2.length _ rfl (HR2.out.seen.ext HXA.out) _ _ rfl (keyStr hsz1) trivial ?_; rw [HSN.out]))
     go_roundw
     case rel => exact ⟨t, _, vs2, j + 1, by go_num, by omega, HU2.out ▸ HR2.out.extd HXA.out, HU2.out ▸ HSK.out, HTL.out, HS2.out.ext HXA.out, HF2.out⟩
     case measure => simp [intOf]; omega
    have HSN := hI (show strF (memT fun s => s ∈ nmsOf u2) (.string ns[j].data.toList) = none by rw [strF_at]; simp [memT, hmem])
    have hdn := defAt_name hda
    have HST := hI (HP2.out.step hjl HNM.out hda hmem (c := l.getD d cla0) hdn.2 hdn.1 rfl)
    have HDN := hI hdn.1
    have HCM := hI (show l.getD d cla0 ∈ l by rw [getD_cla hdl]; exact List.getElem_mem _)
    clear hda hmem hu hux hdn
    go_wp2_with (first
     | (at_lookup; refine wpList_map_getW _ (by rfl) _ _ 186 rfl 9 4 keyedStr uMapSB (zeroBo _) (w.heap.size + 3) u2.length _ rfl (HR2.out.seen.ext HXA.out) _ _ rfl (keyStr hsz1) trivial ?_; rw [HSN.out])
     | (at_mapUpdate; refine wpList_map_put _ rfl _ _ _ 186 rfl 9 4 keyedStr uMapSB (w.heap.size + 3) u2.length _ rfl (HR2.out.seen.ext HXA.out) ?c3 _ _ _ rfl rfl (keyStr hsz1) trivial ?_))
    case c3 => unfold maxLen; omega
    intro w3 hm3 hc3
    have HRW := hI (HR2.out.extd HXA.out)
    have hwr : w.heap.size + 4 < wr.heap.size := blk_lt HR2.out.bq
    have hbx := hc3.blk HNB.out (by simp; omega)
    clear f0 f1 f2 f3 f4 f5 f6 f7 f8 f9 ff q0 qf l0 lf
    obtain ⟨f0, f1, f2, f3, f4, f5, f6, f7, f8, f9, ff⟩ := blk10 hbx
    obtain ⟨k0, kf⟩ := blk1 (hc3.blk HRW.out.bl (by simp))
    have HW3 := hI hc3
    have HM3 := hI hm3
    have HO3 := hI (owns_chg HRW.out.own hc3 fun q hq hm => by have := (HRW.out.own.lt q hq).1; simp only [List.mem_singleton] at hm; omega)
    have h3s := hc3.size
    have h3s2 : wr.heap.size <= w3.heap.size := Nat.le_trans HXA.out.size hc3.size
    clear hm3 hc3 HF HSN hbx
    go_wp2_with (at_builtin; refine wpList_append_at elemCla rfl _ _ rfl (w.heap.size + 5) _ u2.length _ rfl HO3.out _ 1 1 rfl ?f0 rfl ?f1 ?f2 ?f3 ?f4 ?_)
    case f0 => simp
    case f1 => simp [Value.oneCell']
    case f2 => unfold maxLen; omega
    case f3 => omega
    case f4 => omega
    intro v8 w8 hown8 hc8 hw8
    obtain ⟨a8, c8, hv8⟩ := owns_form hown8
    subst hv8
    obtain ⟨m0, mf⟩ := blk1 (hc8.blk (HW3.out.blk HRW.out.bl (by simp)) fun hm => by have := (HRW.out.own.lt _ (mem_rowOf.1 hm)).1; omega)
    have HR9 := hI (HRW.out.step (c := l.getD d cla0) (cv := v) HUX.out (by rw [HDN.out]; exact HM3.out) HW3.out hown8 hc8).1
    have HS9 := hI (((HS2.out.ext HXA.out).chg HW3.out (fun b' off' e' hm => (HF2.out b' off' e').1 (by simpa using hm))).chg hc8 (fun b' off' e' hm => (HF2.out b' off' e').2.2 (mem_rowOf.1 hm).symm))
    have HF9 := hI (show ∀ b off, some (⟨bn, offn, none⟩ : Addr) = some ⟨b, off, none⟩ -> b ≠ w.heap.size + 3 /\ b ≠ w.heap.size + 2 /\ some b ≠ (Value.slice a8 (u2.length + 1) c8).ownBlock from fun b' off' e' => by
     obtain ⟨p1, p2, p3⟩ := HF2.out b' off' e'
     have hbl : b' < wr.heap.size := by
      obtain ⟨bb, oo, ee, cc⟩ := HS2.out.2.2.2 j hjl
      rw [ee] at e'
      simp only [Option.some.injEq, Addr.mk.injEq, and_true] at e'
      have := block_lt cc
      simp only at this; omega
     refine ⟨p1, p2, fun e2 => ?_⟩
     rcases hw8 b' e2.symm with h | h
     ·exact p3 h.symm
     omega)
    have HS10 := hI (HS9.out.chg (show Chg [w.heap.size + 2] w8 (w8.setCell ⟨w.heap.size + 2, 0, none⟩ (.slice a8 (u2.length + 1) c8)) from (Chg.refl _ _).setCell (Or.inl (by simp)) _) (fun b' off' e' hm => (HF2.out b' off' e').2.1 (by simpa using hm)))
    clear hown8 hc8 hw8 HS9 f0 f1 f2 f3 f4 f5 f6 f7 f8 f9 ff k0 kf
    go_wp2_with fail
    go_roundw
    case rel =>
     have e1 : u ++ (t ++ [l.getD d cla0]) = u2 ++ [l.getD d cla0] := by rw [HU2.out]; simp
     refine ⟨t ++ [l.getD d cla0], _, _, j + 1, by go_num, by omega, by rw [e1]; exact HR9.out, by rw [e1]; have := HST.out; simpa using this, ?_, HS10.out, HF9.out⟩
     intro c hc
     rcases List.mem_append.1 hc with h | h
     ·exact HTL.out c h
     rw [List.mem_singleton.1 h]; exact HCM.out
    case measure => simp [intOf]; omega
  have tj : decide ((j : Int) < (ns.length : Int)) = false := decide_eq_false (by omega)
  have HPE := hI (HP2.out.end (by omega) HNM.out)
  go_wp2_with fail
  go_end0
  exact ⟨rfl, t, _, vs2, HU2.out ▸ HR2.out, HU2.out ▸ HPE.out, HTL.out⟩
def UsedQ (l : List Cla) (e : Ex) (w : World) (r : Ending) (w' : World) : Prop := ∃ u a c, r = .returned (.slice a u.length c) /\ IsClas w' u a u.length c /\ UsedC l e u /\ Ext w w'
theorem used_calls (s : List Attr) (l : List Cla) (f : ZI) (e : Ex) (ev : Value) (lo : LossV) (n : Nat) (w : World) (hlo : IsDLoss w s l f lo n) (hl : l.length <= 100000) (he : IsEx w e ev) (hes : e.size <= 100000 /\ e.fits) (hsz : ∀ x ∈ l, x.cond.size <= 100000 /\ x.cond.fits) :
  Calls Tryz.prog 87 #[lo.val, ev] w (UsedQ l e w) := by
 obtain ⟨g, hmp, hdg⟩ := hlo.defs
 obtain ⟨aw, nw, cw, aa, na, ca, rfl, -⟩ := he.parts
 have HAD := hI (fun (W : World) (x : Ex) (xv lv : Value) (u : List Cla) (vs : List ClV) (xs : List Ex) (h1 : IsEx W x xv) (h2 : x.size <= 100000 /\ x.fits) (h3 : UsS w lo lv u vs W) (h4 : RPi l e u xs x (refNames (namesE x)) 0) => used1_calls l e x xv lo n w W g lv u vs xs hmp hdg hl h1 h2 h3 h4)
 have HE := hI he
 have HSZ := hI hsz
 have HES := hI hes
 clear hmp hdg he hsz hes hlo
 obtain ⟨EV, hEV⟩ : ∃ EV, EV = exV e.op e.name aw nw cw e.lo e.hi aa na ca := ⟨_, rfl⟩
 have hEV2 := hEV
 unfold exV at hEV
 unfold LossV.val
 have hmm := @run_makeMap Tryz.prog
 have hmf : ∀ (fn : Fn) (first cap : Array Value) (w : World), (Instr.makeFunc fn first cap).run Tryz.prog w = .ok (.func fn first cap) w := fun _ _ _ _ => rfl
 obtain ⟨wa, hwa⟩ : ∃ wa, wa = (((((w.alloc (.cells #[.slice lo.sa lo.sn lo.sc, .map (some lo.bm), .slice lo.fa lo.fn lo.fc] 74)).alloc (.cells #[.int .i64 e.op, .string e.name, .slice aw nw cw, .int .i64 e.lo, .int .i64 e.hi, .slice aa na ca] 45)).alloc (.cells #[.slice none 0 0] 25)).alloc (.map #[] 0)).alloc (.cells #[.map (some (w.heap.size + 3))] 186)) := ⟨_, rfl⟩
 have HE0 := hI (show wa.heap[w.heap.size + 1]? = some (.cells #[.int .i64 e.op, .string e.name, .slice aw nw cw, .int .i64 e.lo, .int .i64 e.hi, .slice aa na ca] 45 (0, 0)) by rw [hwa]; exact blk_alloc (blk_alloc (blk_alloc (alloc_atR (by simp)))))
 have HUS := hI (show UsS w lo (.slice none 0 0) [] [] wa from {
  ext := by rw [hwa]; exact (((((Ext.refl _).alloc _).alloc _).alloc _).alloc _).alloc _
  cla := ⟨rfl, fun i h => by simp at h⟩
  own := World.ownsRow_nil _ _ _ _
  seen := by
   have h0 := MapAt.made (((w.alloc (.cells #[.slice lo.sa lo.sn lo.sc, .map (some lo.bm), .slice lo.fa lo.fn lo.fc] 74)).alloc (.cells #[.int .i64 e.op, .string e.name, .slice aw nw cw, .int .i64 e.lo, .int .i64 e.hi, .slice aa na ca] 45)).alloc (.cells #[.slice none 0 0] 25)) 9
   rw [hwa]
   refine ((by simpa using h0 : MapAt _ _ (w.heap.size + 3) 0 _).ext ((Ext.refl _).alloc _)).congr fun x => ?_
   cases x <;> simp [strF, memT, nmsOf]
  bx := by rw [hwa]; exact blk_alloc (blk_alloc (blk_alloc (blk_alloc (alloc_new w _))))
  bl := by rw [hwa]; exact blk_alloc (blk_alloc (alloc_atR (by simp)))
  bq := by rw [hwa]; exact alloc_atR (by simp) })
 obtain ⟨f0, f1, f2, f3, f4, f5, ff⟩ := blk6 HE0.out
 rw [<- hEV2, hEV]
 go_enter Tryz.func87, Tryz.ntmps87
 go_upto_region 3 with fail
 rw [<- hwa]
 clear hwa
 go_wp2_with fail
 rw [<- hEV]
 refine (HAD.out wa e _ _ [] [] [] (by rw [hEV2]; exact HE.out.ext HUS.out.ext) HES.out HUS.out (RPi.first e _)).mono ?_
 rintro r w1 ⟨rfl, t0, lv0, vs0, hu0, hp0, ht0⟩
 have HU0 := hI hu0
 have HP0 := hI hp0
 have HT0 := hI ht0
 clear hu0 hp0 ht0 f0 f1 f2 f3 f4 f5 ff HE0 HUS
 go_wp2_with fail
 go_loopw [8] (fun i wr => ∃ u lv vs k, i = .int .i64 (k : Nat) /\ k <= u.length /\ UsS w lo lv u vs wr /\ RP l e u ((u.drop k).map (·.cond)) /\ ∀ c ∈ u, c ∈ l) (fun i _ => l.length - (intOf i).toNat)
 case atStart => exact ⟨t0, lv0, vs0, 0, rfl, by omega, by simpa using HU0.out, by simpa using HP0.out, HT0.out⟩
 case round =>
  obtain ⟨u, lv, vs, k, rfl, hk, hu, hp, hm⟩ := hrel
  obtain ⟨la, lc, hlv⟩ := owns_form hu.own
  subst hlv
  have HU := hI hu
  have HP := hI hp
  have HM := hI hm
  have hul := defs_len hp.defs hp.names
  obtain ⟨a', c', hv, hcl⟩ := clas_owns (M := []) hu.own (by simp) (hu.cla.mono (hu.ext.sub.trans (to_mask_nil _)))
  simp only [Value.slice.injEq, true_and] at hv
  obtain ⟨rfl, rfl⟩ := hv
  have HCL := hI (hcl.mono (mask_sub _ _))
  obtain ⟨l0, lf⟩ := blk1 hu.bl
  clear hu hp hm hcl HU0 HP0 HT0
  by_cases hlt : k < u.length
  ·have t1 : decide ((k : Int) < (u.length : Int)) = true := decide_eq_true (by omega)
   obtain ⟨cb, coff, v, rfl, hcla, hrow⟩ := HCL.out.at hlt
   obtain ⟨c0, c1, c2, c3, c4, c5, c6, c7, c8, c9⟩ := hrow.ten
   have HEX := hI hcla.2.2.1
   have hsx : u[k].cond.size <= 100000 /\ u[k].cond.fits := HSZ.out _ (HM.out _ (List.getElem_mem hlt))
   have HPF := hI (show RP l e u (u[k].cond :: (u.drop (k + 1)).map (·.cond)) by have := HP.out; rw [List.drop_eq_getElem_cons hlt, List.map_cons] at this; exact this)
   have HCA := hI (HAD.out wr u[k].cond _ _ u vs _ HEX.out hsx HU.out (HPF.out.popF _))
   unfold ExV.val exV at HCA
   clear hcla hrow hsx
   go_wp2_with fail
   refine HCA.out.mono ?_
   rintro r w1 ⟨rfl, t1, lv1, vs1, hu1, hp1, ht1⟩
   have HU1 := hI hu1
   have HP1 := hI hp1
   have HT1 := hI ht1
   have hl1 := defs_len hp1.defs hp1.names
   clear hu1 hp1 ht1 c0 c1 c2 c3 c4 c5 c6 c7 c8 c9 l0 lf
   go_wp2_with fail
   go_roundw
   case rel =>
    refine ⟨u ++ t1, lv1, vs1, k + 1, by go_num, by simp; omega, HU1.out, ?_, ?_⟩
    ·rw [List.drop_append_of_le_length (by omega), List.map_append]
     exact HP1.out
    intro c hc
    rcases List.mem_append.1 hc with h | h
    ·exact HM.out c h
    exact HT1.out c h
   case measure => simp at hl1; simp [intOf]; omega
  have t1 : decide ((k : Int) < (u.length : Int)) = false := decide_eq_false (by omega)
  go_wp2_with fail
  go_ret
  refine ⟨u, _, _, rfl, HCL.out, ⟨?_, HM.out⟩, HU.out.ext⟩
  have := HP.out
  rw [List.drop_eq_nil_of_le (by omega)] at this
  exact this.used
def fvV (lv : Value) : Value := .func (.func 116) #[lv] #[]
def idxI (o : Option Nat) : Int := match o with | some k => k | none => -1
theorem indexF_calls (lv : Value) (args : List Ex) (aa : OA) (na ca : Nat) (P : Ex -> Bool) (w : World) (hna : na = args.length) (hn2 : na <= 1000000) (hx : ExsD w args aa)
  (hc : ∀ (j : Nat) (hj : j < args.length) (xv : Value) (W : World), Ext w W -> IsEx W args[j] xv -> Calls Tryz.prog 116 #[lv, xv] W (GivesE (.bool (P args[j])) W)) :
  Calls Tryz.prog 174 #[.slice aa na ca, fvV lv] w (GivesE (.int .i64 (idxI (args.findIdx? P))) w) := by
 have HX := hI hx
 have HNA := hI hna
 have HC := hI hc
 obtain ⟨R, hR⟩ : ∃ R, R = idxI (args.findIdx? P) := ⟨_, rfl⟩
 rw [<- hR]
 have HR := hI hR
 clear hx hna hc hR
 unfold fvV
 go_enter Tryz.func174, Tryz.ntmps174
 go_wp2_with fail
 go_loopw [8] (fun i wr => ∃ k : Nat, i = .int .i64 k /\ k <= na /\ (∀ j (h : j < args.length), j < k -> P args[j] = false) /\ Ext w wr) (fun i _ => na - (intOf i).toNat)
 case atStart => exact ⟨0, rfl, by omega, fun j _ h => by omega, Ext.refl _⟩
 case round =>
  obtain ⟨k, rfl, hk, hno, hxr⟩ := hrel
  have HNO := hI hno
  have HXR := hI hxr
  clear hno hxr
  by_cases hkn : k < na
  ·have hka : k < args.length := by have := HNA.out; omega
   have t1 : decide ((k : Int) < (na : Int)) = true := decide_eq_true (by omega)
   obtain ⟨b, off, rfl, aw1, nw1, cw1, aa1, na1, ca1, h0, h1, h2, h3, h4, h5, h6⟩ := ExsD.at args _ (ExsD.ext HXR.out args _ HX.out) k hka
   have HAK := hI (HC.out k hka _ wr HXR.out h6)
   obtain ⟨B, hB⟩ : ∃ B, B = P args[k] := ⟨_, rfl⟩
   rw [<- hB] at HAK
   have HBB := hI hB
   unfold exV at HAK
   clear h6 hB
   go_wp2_with fail
   refine HAK.out.mono ?_
   rintro r w3 ⟨rfl, hx3⟩
   have HX3 := hI (HXR.out.trans hx3)
   clear hx3
   cases B
   ·go_wp2_with fail
    go_roundw
    case rel =>
     refine ⟨k + 1, by go_num, by omega, fun j hj hjk => ?_, HX3.out⟩
     by_cases e : j = k
     ·subst e; exact HBB.out.symm
     exact HNO.out j hj (by omega)
    case measure => simp [intOf]; omega
   have HF := hI (show R = (k : Int) by rw [HR.out, find_hit hka HBB.out.symm fun j hj hjk => HNO.out j hj hjk]; rfl)
   go_wp2_with fail
   go_ret
   exact givesE_of (by rw [HF.out]) HX3.out
  have t1 : decide ((k : Int) < (na : Int)) = false := decide_eq_false (by omega)
  have HF := hI (show R = -1 by rw [HR.out, find_miss fun j hj => HNO.out j hj (by have := HNA.out; omega)]; rfl)
  go_wp2_with fail
  go_ret
  exact givesE_of (by rw [HF.out]) HXR.out
theorem containsF_calls (lv : Value) (args : List Ex) (aa : OA) (na ca : Nat) (P : Ex -> Bool) (w : World) (hna : na = args.length) (hn2 : na <= 1000000) (hx : ExsD w args aa)
  (hc : ∀ (j : Nat) (hj : j < args.length) (xv : Value) (W : World), Ext w W -> IsEx W args[j] xv -> Calls Tryz.prog 116 #[lv, xv] W (GivesE (.bool (P args[j])) W)) :
  Calls Tryz.prog 147 #[.slice aa na ca, fvV lv] w (GivesE (.bool (args.any P)) w) := by
 have HI := hI (indexF_calls lv args aa na ca P w hna hn2 hx hc)
 obtain ⟨R, hR⟩ : ∃ R, R = args.any P := ⟨_, rfl⟩
 rw [<- hR]
 have HR := hI hR
 clear hx hna hc hR
 unfold fvV at *
 cases hf : args.findIdx? P with
 | none =>
  rw [hf] at HI
  have HF := hI (show R = false by
   rw [HR.out, List.any_eq_false]
   intro x hx
   rw [List.findIdx?_eq_none_iff] at hf
   simp [hf x hx])
  unfold idxI at HI
  go_enter Tryz.func147, Tryz.ntmps147
  go_wp2_with fail
  refine HI.out.mono ?_
  rintro r w3 ⟨rfl, hx3⟩
  have HX3 := hI hx3
  clear hx3
  go_wp2_with fail
  go_ret
  exact givesE_bool (by rw [HF.out]) HX3.out
 | some k =>
  rw [hf] at HI
  have HF := hI (show R = true by
   rw [HR.out, List.any_eq_true]
   rw [List.findIdx?_eq_some_iff_getElem] at hf
   obtain ⟨hk, h1, _⟩ := hf
   exact ⟨_, List.getElem_mem hk, h1⟩)
  have t1 : decide ((0 : Int) <= (k : Int)) = true := decide_eq_true (by omega)
  unfold idxI at HI
  go_enter Tryz.func147, Tryz.ntmps147
  go_wp2_with fail
  refine HI.out.mono ?_
  rintro r w3 ⟨rfl, hx3⟩
  have HX3 := hI hx3
  clear hx3
  go_wp2_with fail
  go_ret
  exact givesE_bool (by rw [HF.out]) HX3.out
theorem node_kinds {s : List Attr} {l : List Cla} (hc : Chk s l) {e : Ex} (ht : okTree e) (h : nodesErr s l e = 0) : ((e.op ≠ 6 /\ e.op ≠ 7 /\ e.op ≠ 8) /\ (e.op = 3 -> defAt l e.name = none)) \/ (e.op = 3 /\ attrAt s e.name = none /\ ∃ d, defAt l e.name = some d) \/ (e.op = 6 /\ e.args.length = 1) \/ e.op = 7 \/ e.op = 8 := by
 rcases node_ways ht h with h1 | h1 | ⟨h1, i, h2, -⟩ | ⟨h1, h3, d, h2⟩ | ⟨h1, i, h2, h3⟩ | ⟨h1, i, h2, -⟩ | ⟨h1, h2⟩ | h1 | h1
 ·exact Or.inl ⟨by omega, fun h => by omega⟩
 ·exact Or.inl ⟨by omega, fun h => by omega⟩
 ·refine Or.inl ⟨by omega, fun _ => ?_⟩
  cases hd : defAt l e.name with
  | none => rfl
  | some d => rw [hc.apart hd] at h2; cases h2
 ·exact Or.inr (Or.inl ⟨h1, h3, d, h2⟩)
 ·exact Or.inl ⟨by omega, fun h => by omega⟩
 ·exact Or.inl ⟨by omega, fun h => by omega⟩
 ·exact Or.inr (Or.inr (Or.inl ⟨h1, h2⟩))
 ·exact Or.inr (Or.inr (Or.inr (Or.inl h1)))
 exact Or.inr (Or.inr (Or.inr (Or.inr h1)))
def ValA (s : List Attr) (f : ZI) (V : BA -> Option Bool) (args : List Ex) (na : Nat) (w : World) (i : Value) (wr : World) : Prop := ∃ k : Nat, i = .int .i64 k /\ k <= na /\ (∀ j (h : j < args.length), j < k -> valE s f V args[j] = true) /\ Ext w wr
theorem value_calls (s : List Attr) (l : List Cla) (f : ZI) (hc : Chk s l) (hfa : factsAll s f = true) (lv : LossV) (nm : Nat) : ∀ (g m : Nat) (e : Ex) (ev : Value) (w : World), e.size <= m -> m <= 1000000 -> okTree e -> nodesErr s l e = 0 -> expF l g e <= 2000 -> IsLoss w s l f lv nm -> IsEx w e ev ->
  Calls Tryz.prog 116 #[lv.val, ev] w (GivesE (.bool (valF s l f g e)) w) := by
 intro g
 induction g with
 | zero => intro m e ev w _ _ _ _ h; simp [expF] at h
 | succ g ihg =>
  intro m
  induction m with
  | zero => intro e ev w h; have := size_pos e; omega
  | succ m ihm =>
   intro e ev w hm hMM hok hnd hex hl he
   have hways := node_kinds hc hok hnd
   have hfw := fact_ways hok hnd
   obtain ⟨-, hnda⟩ := nodes_parts hnd
   obtain ⟨hokn, hoka⟩ := okTree_parts hok
   have hexa := expE_arg (D := dOf l g) (e := e) (by rw [<- expF_succ]; exact hex)
   have hexh := expE_hd (D := dOf l g) (e := e) (by rw [<- expF_succ]; exact hex)
   have HFC := hI (fun h5 W (hW : Ext w W) => fact_calls s l f lv nm hc.sch hfa e ev W (hl.ext hW) (he.ext hW) hok h5)
   have HDC := hI (fun W (hW : Ext w W) => definition_calls s l f lv nm e ev W (hl.ext hW) (he.ext hW) (by have := (okTree_words hok).2; omega))
   obtain ⟨aw, nw, cw, aa, na, ca, rfl, hw, hna, hca, ha, hx⟩ := he.parts
   have hS : e.size = 1 + sizes e.args := e.size_eq
   have hla := length_le_sizes e.args
   obtain ⟨op, name, words, lo, hi, args⟩ := e
   simp only [Ex.op, Ex.name, Ex.words, Ex.lo, Ex.hi, Ex.args] at *
   have hna2 : na <= 1000000 := by omega
   have hszm : sizes args <= m := by omega
   obtain ⟨R, hR⟩ : ∃ R, R = valF s l f (g + 1) (.mk op name words lo hi args) := ⟨_, rfl⟩
   rw [<- hR]
   obtain ⟨V, hV⟩ : ∃ V, V = (fun x => (defAt l x).map fun d => valF s l f g (l.getD d cla0).cond) := ⟨_, rfl⟩
   have hvf : ∀ e, valF s l f (g + 1) e = valE s f V e := fun e => by rw [hV]; rfl
   rw [hvf, valE] at hR
   have HR := hI hR
   have HX := hI hx
   have HNA := hI hna
   have HARG := hI (fun (j : Nat) (hj : j < args.length) (xv : Value) (W : World) (hW : Ext w W) (hxv : IsEx W args[j] xv) => show Calls Tryz.prog 116 #[lv.val, xv] W (GivesE (.bool (valE s f V args[j])) W) from by
    rw [<- hvf]
    exact ihm args[j] xv W (by have h1 := sizes_take_succ args j hj; have h2 := sizes_take_le args (j + 1); omega) (by omega) (hoka _ (List.getElem_mem hj)) (hnda j hj) (by rw [expF_succ]; exact hexa j hj) (hl.ext hW) hxv)
   have HDEF := hI (fun (h3 : op = 3) (d : Nat) (hd : defAt l name = some d) (xv : Value) (W : World) (hW : Ext w W) (hxv : IsEx W (l.getD d cla0).cond xv) => ihg 300 (l.getD d cla0).cond xv W (hc.cond (defAt_atK hd).1).2.2 (by omega) (hc.cond (defAt_atK hd).1).1 (hc.cond (defAt_atK hd).1).2.1 (hexh h3 (by unfold dOf; rw [hd]; rfl)) (hl.ext hW) hxv)
   have HVV := hI (show ∀ d, defAt l name = some d -> V name = some (valF s l f g (l.getD d cla0).cond) from fun d hd => by rw [hV]; simp only [hd]; rfl)
   have HVN := hI (show defAt l name = none -> V name = none from fun hd => by rw [hV]; simp only [hd]; rfl)
   have HFW := hI hfw
   clear hc hfa hl hx hw hna hca ha hS hla ihg ihm hm hnda hoka hexa hexh hokn hok hnd hex he hR hvf hV hfw
   obtain ⟨sa, sn, sc, bm, fa, fn, fc⟩ := lv
   unfold exV LossV.val at *
   simp only at *
   obtain ⟨wa, hwa⟩ : ∃ wa, wa = (w.alloc (.cells #[.slice sa sn sc, .map (some bm), .slice fa fn fc] 183)).alloc (.cells #[.int .i64 op, .string name, .slice aw nw cw, .int .i64 lo, .int .i64 hi, .slice aa na ca] 45) := ⟨_, rfl⟩
   have hxa : Ext w wa := by rw [hwa]; exact ((Ext.refl _).alloc _).alloc _
   have hb0 : wa.heap[w.heap.size]? = some (.cells #[.slice sa sn sc, .map (some bm), .slice fa fn fc] 183 (0, 0)) := by rw [hwa]; exact blk_alloc (alloc_new w _)
   have hb1 : wa.heap[w.heap.size + 1]? = some (.cells #[.int .i64 op, .string name, .slice aw nw cw, .int .i64 lo, .int .i64 hi, .slice aa na ca] 45 (0, 0)) := by rw [hwa]; exact alloc_atR (by simp)
   have HXA := hI hxa
   have HB0 := hI hb0
   have HB1 := hI hb1
   obtain ⟨f0, f1, f2, f3, f4, f5, ff⟩ := blk6 hb1
   obtain ⟨e0, e1, e2, ef⟩ := blk3 hb0
   have hltw := blk_lt hb1
   clear hxa hb0 hb1
   have hmf : ∀ (fn : Fn) (first cap : Array Value) (w : World), (Instr.makeFunc fn first cap).run Tryz.prog w = .ok (.func fn first cap) w := fun _ _ _ _ => rfl
   rcases hways with ⟨h6, hdn⟩ | ⟨rfl, hat, d, hdf⟩ | ⟨rfl, hl1⟩ | rfl | rfl
   case inr.inr.inl =>
    have hj : 0 < args.length := by omega
    have HQ := hI (show R = !(valE s f V args[0]) by
     rw [HR.out, if_pos rfl, valHd_at, List.getElem?_eq_getElem hj]; rfl)
    have hnp : 0 < na := by have := HNA.out; omega
    obtain ⟨b, off, rfl, aw1, nw1, cw1, aa1, na1, ca1, h0, h1, h2, h3, h4, h5, h6⟩ := ExsD.at args _ (ExsD.ext HXA.out args _ HX.out) 0 hj
    have HA0 := hI (HARG.out 0 hj _ wa HXA.out h6)
    simp only [Nat.zero_mul, Nat.add_zero] at h0 h1 h2 h3 h4 h5
    obtain ⟨B, hB⟩ : ∃ B, B = valE s f V args[0] := ⟨_, rfl⟩
    rw [<- hB] at HQ HA0
    unfold exV at HA0
    clear hl1 hB HARG HDEF h6
    go_enter Tryz.func116, Tryz.ntmps116
    go_upto_region 1 with fail
    rw [<- hwa]
    clear hwa
    go_wp2_with fail
    refine HA0.out.mono ?_
    rintro r w3 ⟨rfl, hx3⟩
    have HX3 := hI (HXA.out.trans hx3)
    clear hx3
    go_wp2_with fail
    go_ret
    exact givesE_bool (by rw [HQ.out]) HX3.out
   -- a fact
   ·have t6 : (op == 6) = false := by simp [h6.1]
    have t7 : (op == 7) = false := by simp [h6.2.1]
    have t8 : (op == 8) = false := by simp [h6.2.2]
    have HQ := hI (show R = factV s f op name words lo hi by
     rw [HR.out, if_neg h6.1, if_neg h6.2.1, if_neg h6.2.2]
     by_cases h3 : op = 3
     ·rw [if_pos h3, HVN.out (hdn h3)]; rfl
     rw [if_neg h3])
    have HFC2 := hI (HFC.out (HFW.out h6 hdn))
    obtain ⟨B, hB⟩ : ∃ B, B = factV s f op name words lo hi := ⟨_, rfl⟩
    rw [<- hB] at HQ HFC2
    have HDN := hI hdn
    clear h6 hdn hB HARG HDEF HFC HFW
    go_enter Tryz.func116, Tryz.ntmps116
    go_upto_region 1 with fail
    rw [<- hwa]
    clear hwa
    go_wp2_with fail
    refine (HDC.out wa HXA.out).mono ?_
    rintro r w3 ⟨hx3, hq⟩
    rcases hq with ⟨h3, d, v, hd, -⟩ | ⟨-, rfl⟩
    ·rw [HDN.out h3] at hd; cases hd
    have HX3 := hI (HXA.out.trans hx3)
    have HB03 := hI (hx3.blk HB0.out)
    have HB13 := hI (hx3.blk HB1.out)
    clear f0 f1 f2 f3 f4 f5 ff e0 e1 e2 ef hltw hx3
    obtain ⟨f0, f1, f2, f3, f4, f5, ff⟩ := blk6 HB13.out
    obtain ⟨e0, e1, e2, ef⟩ := blk3 HB03.out
    have hltw := blk_lt HB13.out
    have hlt0 := blk_lt HB03.out
    unfold exZero
    go_wp2_with fail
    refine (HFC2.out _ (HX3.out.alloc _)).mono ?_
    rintro r w5 ⟨rfl, hx5⟩
    have HX5 := hI ((HX3.out.alloc _).trans hx5)
    clear hx5
    go_wp2_with fail
    go_ret
    exact givesE_bool (by rw [HQ.out]) HX5.out
   -- a definition
   ·have HQ := hI (show R = valF s l f g (l.getD d cla0).cond by
     rw [HR.out, if_neg (by decide), if_neg (by decide), if_neg (by decide), if_pos rfl, HVV.out d hdf]; rfl)
    have HDF := hI (HDEF.out rfl d hdf)
    obtain ⟨B, hB⟩ : ∃ B, B = valF s l f g (l.getD d cla0).cond := ⟨_, rfl⟩
    rw [<- hB] at HQ HDF
    have HDA := hI hdf
    clear hat hdf hB HARG HDEF HFC HFW
    go_enter Tryz.func116, Tryz.ntmps116
    go_upto_region 1 with fail
    rw [<- hwa]
    clear hwa
    go_wp2_with fail
    refine (HDC.out wa HXA.out).mono ?_
    rintro r w3 ⟨hx3, hq⟩
    rcases hq with ⟨-, d', v, hd, rfl, hv⟩ | ⟨hd, -⟩
    case inr =>
     rcases hd with hd | hd
     ·exact absurd rfl hd
     rw [HDA.out] at hd; cases hd
    rw [HDA.out] at hd
    obtain rfl : d = d' := by simpa using hd
    have HX3 := hI (HXA.out.trans hx3)
    have HEX := hI hv
    clear f0 f1 f2 f3 f4 f5 ff e0 e1 e2 ef hltw hx3 hv hd
    have HDG := hI (fun W (hW : Ext w3 W) => HDF.out v.val W (HX3.out.trans hW) (HEX.out.ext hW))
    unfold ExV.val exV at *
    go_wp2_with fail
    refine (HDG.out _ ((Ext.refl w3).alloc _)).mono ?_
    rintro r w5 ⟨rfl, hx5⟩
    have HX5 := hI ((HX3.out.alloc _).trans hx5)
    clear hx5
    go_wp2_with fail
    go_ret
    exact givesE_bool (by rw [HQ.out]) HX5.out
   -- and
   ·have HQ := hI (show R = args.all (valE s f V) by rw [HR.out, if_neg (by decide), if_pos rfl, valAll_iff])
    clear HDEF HFC HFW
    go_enter Tryz.func116, Tryz.ntmps116
    go_upto_region 1 with fail
    rw [<- hwa]
    clear hwa
    go_wp2_with fail
    clear f0 f1 f2 f3 f4 f5 ff e0 e1 e2 ef hltw
    go_loopw [34] (ValA s f V args na w) (fun i _ => na - (intOf i).toNat)
    case atStart => exact ⟨0, rfl, by omega, fun j _ h => by omega, HXA.out⟩
    case round =>
     obtain ⟨k, rfl, hk, hall, hxr⟩ := hrel
     have HALL := hI hall
     have HXR := hI hxr
     clear hall hxr
     by_cases hkn : k < na
     ·have hka : k < args.length := by have := HNA.out; omega
      have t1 : decide ((k : Int) < (na : Int)) = true := decide_eq_true (by omega)
      obtain ⟨b, off, rfl, aw1, nw1, cw1, aa1, na1, ca1, h0, h1, h2, h3, h4, h5, h6⟩ := ExsD.at args _ (ExsD.ext HXR.out args _ HX.out) k hka
      have H6 := hI h6
      have HAK := hI (fun W (hW : Ext wr W) => HARG.out k hka _ W (HXR.out.trans hW) (H6.out.ext hW))
      obtain ⟨B, hB⟩ : ∃ B, B = valE s f V args[k] := ⟨_, rfl⟩
      rw [<- hB] at HAK
      have HBB := hI hB
      unfold exV at HAK
      clear h6 hB
      go_wp2_with fail
      refine (HAK.out _ ((Ext.refl wr).alloc _)).mono ?_
      rintro r w3 ⟨rfl, hx3⟩
      have HX3 := hI ((HXR.out.alloc _).trans hx3)
      clear hx3 h0 h1 h2 h3 h4 h5
      cases B
      ·have HF := hI (show R = false by rw [HQ.out, List.all_eq_false]; exact ⟨_, List.getElem_mem hka, by rw [<- HBB.out]; simp⟩)
       go_wp2_with fail
       go_ret
       exact givesE_bool (by rw [HF.out]) HX3.out
      go_wp2_with fail
      go_roundw
      case rel =>
       refine ⟨k + 1, by go_num, by omega, fun j hj hjk => ?_, HX3.out⟩
       by_cases e : j = k
       ·subst e; exact HBB.out.symm
       exact HALL.out j hj (by omega)
      case measure => simp [intOf]; omega
     have t1 : decide ((k : Int) < (na : Int)) = false := decide_eq_false (by omega)
     have HF := hI (show R = true by
      rw [HQ.out, List.all_eq_true]
      intro x hx
      obtain ⟨j, hj, rfl⟩ := List.getElem_of_mem hx
      exact HALL.out j hj (by have := HNA.out; omega))
     go_wp2_with fail
     go_ret
     exact givesE_bool (by rw [HF.out]) HXR.out
   -- or
   have HQ := hI (show R = args.any (valE s f V) by rw [HR.out, if_neg (by decide), if_neg (by decide), if_pos rfl, valAny_iff])
   have HCF := hI (containsF_calls (.agg #[.slice sa sn sc, .map (some bm), .slice fa fn fc]) args aa na ca (valE s f V) wa HNA.out hna2 (ExsD.ext HXA.out args _ HX.out) fun j hj xv W hW hxv => HARG.out j hj xv W (HXA.out.trans hW) hxv)
   obtain ⟨B, hB⟩ : ∃ B, B = args.any (valE s f V) := ⟨_, rfl⟩
   rw [<- hB] at HQ HCF
   unfold fvV at HCF
   clear HDEF HFC HFW hB
   go_enter Tryz.func116, Tryz.ntmps116
   go_upto_region 1 with fail
   rw [<- hwa]
   clear hwa
   go_wp2_with fail
   refine HCF.out.mono ?_
   rintro r w3 ⟨rfl, hx3⟩
   have HX3 := hI (HXA.out.trans hx3)
   clear hx3
   go_wp2_with fail
   go_ret
   exact givesE_bool (by rw [HQ.out]) HX3.out
structure In11 (w : World) (s : List Attr) (l : List Cla) (e : Ex) (f : ZI) (sv ev : Value) (a : OA) (n c : Nat) (fa : OA) (fn : Nat) : Prop where
 sch : IsSchema w s sv
 sfit : ∀ x ∈ s, x.fits
 slen : s.length <= 1000000000000000
 clas : IsClas w l a n c
 cn : n <= 1000000
 cfit : ∀ x ∈ l, x.fit
 ex : IsEx w e ev
 few : e.few
 fit : e.fits
 slim : e.slim
 ints : IsIntF w f fa fn
 fnl : fn <= 1000000000000000
 ops : HasOps w
theorem In11.ext {w w' : World} {s : List Attr} {l : List Cla} {e : Ex} {f : ZI} {sv ev : Value} {a : OA} {n c : Nat} {fa : OA} {fn : Nat} (h : In11 w s l e f sv ev a n c fa fn) (hx : Ext w w') : In11 w' s l e f sv ev a n c fa fn :=
 ⟨h.sch.ext hx, h.sfit, h.slen, h.clas.ext hx, h.cn, h.cfit, h.ex.ext hx, h.few, h.fit, h.slim, h.ints.ext hx, h.fnl, h.ops.ext hx⟩
theorem In11.checked {w : World} {s : List Attr} {l : List Cla} {e : Ex} {f : ZI} {sv ev : Value} {a : OA} {n c : Nat} {fa : OA} {fn : Nat} (h : In11 w s l e f sv ev a n c fa fn) (fc : Nat) : Calls Tryz.prog 115 #[sv, .slice a n c, ev, .slice fa fn fc] w (CheckedQ s l e f n w) :=
 checked_calls s l e f ev sv a n c fa fn fc w h.sch h.sfit h.slen h.clas h.cn h.cfit h.ex h.few h.fit h.ints h.fnl h.ops
theorem In11.truth {w : World} {s : List Attr} {l : List Cla} {e : Ex} {f : ZI} {sv ev : Value} {a : OA} {n c : Nat} {fa : OA} {fn : Nat} (h : In11 w s l e f sv ev a n c fa fn) (ho : Ok11 s l e f) (fc : Nat) : Calls Tryz.prog 127 #[sv, .slice a n c, ev, .slice fa fn fc] w (GivesE (.bool (val s l f e)) w) :=
 rTruth_calls s l f ho.chk ho.facts h.sfit a n c fa fn fc (l.length + 1) 300 e ev sv w ho.size (by omega) ho.tree ho.node ho.exp h.sch h.clas h.ex h.ints
theorem In11.value {w : World} {s : List Attr} {l : List Cla} {e : Ex} {f : ZI} (ho : Ok11 s l e f) {lv : LossV} {nm : Nat} {ev : Value} (hl : IsLoss w s l f lv nm) (he : IsEx w e ev) : Calls Tryz.prog 116 #[lv.val, ev] w (GivesE (.bool (val s l f e)) w) :=
 value_calls s l f ho.chk ho.facts lv nm (l.length + 1) 300 e ev w ho.size (by omega) ho.tree ho.node ho.exp hl he
open Classical in
noncomputable def evalB (s : List Attr) (l : List Cla) (e : Ex) (f : ZI) : Bool := if evalErr s l e f = 0 then val s l f e else false
noncomputable def evalV (s : List Attr) (l : List Cla) (e : Ex) (f : ZI) : Value := .tuple #[.bool (evalB s l e f), .int .i64 (evalErr s l e f)]
theorem eval_calls (s : List Attr) (l : List Cla) (e : Ex) (f : ZI) (sv ev : Value) (a : OA) (n c : Nat) (fa : OA) (fn fc : Nat) (w : World) (hi : In11 w s l e f sv ev a n c fa fn) :
  Calls Tryz.prog 86 #[sv, .slice a n c, ev, .slice fa fn fc] w (GivesE (evalV s l e f) w) := by
 obtain ⟨sa, sn, sc, rfl, -⟩ := hi.sch.slice
 have HCK := hI (fun W (hW : Ext w W) => (hi.ext hW).checked fc)
 have HEX := hI hi.ex
 obtain ⟨aw, nw, cw, aa, na, ca, rfl, -⟩ := hi.ex.parts
 have HVA := hI (fun (h0 : evalErr s l e f = 0) (lv : LossV) W (hW : Ext w W) (hl : IsLoss W s l f lv n) => In11.value (evalErr_ok h0) hl (hi.ex.ext hW))
 unfold CheckedQ at HCK
 obtain ⟨EV, hEV⟩ : ∃ EV, EV = evalV s l e f := ⟨_, rfl⟩
 rw [<- hEV]
 unfold evalV evalB at hEV
 obtain ⟨E, hE⟩ : ∃ E, E = evalErr s l e f := ⟨_, rfl⟩
 rw [<- hE] at HCK HVA hEV
 obtain ⟨V, hV⟩ : ∃ V, V = val s l f e := ⟨_, rfl⟩
 rw [<- hV] at HVA hEV
 have HE1 := hI (show E ≠ 0 -> EV = .tuple #[.bool false, .int .i64 E] from fun h => by rw [hEV, if_neg h])
 have HE2 := hI (show E = 0 -> EV = .tuple #[.bool V, .int .i64 E] from fun h => by rw [hEV, if_pos h])
 clear hi hE hV hEV
 unfold exV at *
 obtain ⟨wa, hwa⟩ : ∃ wa, wa = (w.alloc (.cells #[.slice sa sn sc] 24)).alloc (.cells #[.int .i64 e.op, .string e.name, .slice aw nw cw, .int .i64 e.lo, .int .i64 e.hi, .slice aa na ca] 45) := ⟨_, rfl⟩
 have hxa : Ext w wa := by rw [hwa]; exact ((Ext.refl _).alloc _).alloc _
 have hb0 : wa.heap[w.heap.size]? = some (.cells #[.slice sa sn sc] 24 (0, 0)) := by rw [hwa]; exact blk_alloc (alloc_new w _)
 have hb1 : wa.heap[w.heap.size + 1]? = some (.cells #[.int .i64 e.op, .string e.name, .slice aw nw cw, .int .i64 e.lo, .int .i64 e.hi, .slice aa na ca] 45 (0, 0)) := by rw [hwa]; exact alloc_atR (by simp)
 have HXA := hI hxa
 have HB1 := hI hb1
 obtain ⟨e0, ef⟩ := blk1 hb0
 obtain ⟨f0, f1, f2, f3, f4, f5, ff⟩ := blk6 hb1
 clear hxa hb0 hb1
 go_enter Tryz.func86, Tryz.ntmps86
 go_upto_region 1 with fail
 rw [<- hwa]
 clear hwa
 go_wp2_with fail
 refine (HCK.out wa HXA.out).mono ?_
 rintro r w1 ⟨hx1, ⟨hz, rfl⟩ | ⟨hz, lv, rfl, hls⟩⟩
 ·have HX1 := hI (HXA.out.trans hx1)
  have t1 : (E != 0) = true := by simp [hz]
  have HZ := hI hz
  clear hx1 hz e0 ef f0 f1 f2 f3 f4 f5 ff HCK HVA
  unfold lossZero
  go_wp2_with fail
  go_ret2
  exact ⟨by rw [HE1.out HZ.out]; rfl, HX1.out.alloc _⟩
 have HX1 := hI (HXA.out.trans hx1)
 have HB11 := hI (hx1.blk HB1.out)
 have HVV := hI (fun W (hW : Ext w1 W) => HVA.out hz lv W (HX1.out.trans hW) (hls.ext hW))
 subst hz
 obtain ⟨la, ln, lc, bm, fa', fn', fc'⟩ := lv
 clear hx1 hls e0 ef f0 f1 f2 f3 f4 f5 ff HCK HVA
 obtain ⟨f0, f1, f2, f3, f4, f5, ff⟩ := blk6 HB11.out
 have hlt1 := blk_lt HB11.out
 unfold LossV.val at *
 go_wp2_with fail
 refine (HVV.out _ ((Ext.refl w1).alloc _)).mono ?_
 rintro r w3 ⟨rfl, hx3⟩
 have HX3 := hI ((HX1.out.alloc _).trans hx3)
 clear hx3
 go_wp2_with fail
 go_ret2
 exact ⟨by rw [HE2.out trivial]; rfl, HX3.out⟩
def Pd (s : List Attr) (l : List Cla) (e : Ex) : Prop := refExprB e = true /\ nodesErr s l e = 0 /\ expanded l e <= 2000 /\ e.few /\ e.fits /\ e.slim
structure DIn (w : World) (s : List Attr) (l : List Cla) (f : ZI) (lo : LossV) (n : Nat) : Prop where
 loss : IsDLoss w s l f lo n
 ok : (clausesErr s l).2 = 0
 facts : factsB s f = true
 sfit : ∀ x ∈ s, x.fits
 cfit : ∀ x ∈ l, x.fit
 fnl : lo.fn <= 1000000000000000
 ops : HasOps w
theorem DIn.ext {w w' : World} {s : List Attr} {l : List Cla} {f : ZI} {lo : LossV} {n : Nat} (h : DIn w s l f lo n) (hx : Ext w w') : DIn w' s l f lo n := ⟨h.loss.ext hx, h.ok, h.facts, h.sfit, h.cfit, h.fnl, h.ops.ext hx⟩
theorem DIn.slen {w : World} {s : List Attr} {l : List Cla} {f : ZI} {lo : LossV} {n : Nat} (h : DIn w s l f lo n) : s.length <= 1000000000000000 := by
 have hs := h.loss.sch.parts
 obtain ⟨_, _, _, e, h1, _⟩ := hs
 have := (schema_attrs (chk_of h.ok).sch).2.1
 omega
theorem DIn.eval {w : World} {s : List Attr} {l : List Cla} {f : ZI} {lo : LossV} {n : Nat} (h : DIn w s l f lo n) {e : Ex} {ev : Value} (he : IsEx w e ev) (hp : Pd s l e) {u : List Cla} {a : OA} {c : Nat} (hu : UsedC l e u) (hc : IsClas w u a u.length c) :
  Calls Tryz.prog 86 #[.agg #[.slice lo.sa lo.sn lo.sc], .slice a u.length c, ev, .slice lo.fa lo.fn lo.fc] w (GivesE (.tuple #[.bool (val s l f e), .int .i64 0]) w) := by
 obtain ⟨p1, p2, p3, p4, p5, p6⟩ := hp
 obtain ⟨q1, q2⟩ := hu.eval h.ok p1 p2 p3 h.facts
 have h1 := eval_calls s u e f _ ev a u.length c lo.fa lo.fn lo.fc w ⟨h.loss.sch, h.sfit, h.slen, hc, by have := hu.1.len; have := (chk_of h.ok).len; omega, fun x hx => h.cfit x (hu.2 x hx), he, p4, p5, p6, h.loss.ints, h.fnl, h.ops⟩
 unfold evalV evalB at h1
 rw [if_pos q1, q1, q2] at h1
 exact h1
theorem holds_calls {s : List Attr} {l : List Cla} {f : ZI} {lo : LossV} {n : Nat} {e : Ex} {ev : Value} (w : World) (h : DIn w s l f lo n) (he : IsEx w e ev) (hp : Pd s l e) :
  Calls Tryz.prog 59 #[lo.val, ev] w (GivesE (.bool (val s l f e)) w) := by
 have hck := chk_of h.ok
 have hsz := (ref_tree hp.1).2
 have HU := hI (fun W (hW : Ext w W) => used_calls s l f e ev lo n W (h.loss.ext hW) (by have := hck.len; omega) (he.ext hW) ⟨by omega, hp.2.2.2.2.1⟩ (fun x hx => ⟨by have := (ref_tree (hck.good x hx).2.2.1).2; omega, (h.cfit x hx).2.1⟩))
 have HE := hI (fun W (hW : Ext w W) (u : List Cla) (a : OA) (c : Nat) (hu : UsedC l e u) (hc : IsClas W u a u.length c) => (h.ext hW).eval (he.ext hW) hp hu hc)
 obtain ⟨aw, nw, cw, aa, na, ca, rfl, -⟩ := he.parts
 obtain ⟨V, hV⟩ : ∃ V, V = val s l f e := ⟨_, rfl⟩
 rw [<- hV] at HE ⊢
 obtain ⟨U, hU⟩ : ∃ U : List Cla -> Prop, U = UsedC l e := ⟨_, rfl⟩
 unfold UsedQ at HU
 have HU2 := hI (fun W (hW : Ext w W) => (HU.out W hW).mono (fun r w' (hq : ∃ u a c, r = .returned (.slice a u.length c) /\ IsClas w' u a u.length c /\ UsedC l e u /\ Ext W w') => by rw [<- hU] at hq; exact hq))
 rw [<- hU] at HE
 clear h he hp hV hck hsz hU HU
 unfold exV LossV.val at *
 obtain ⟨wa, hwa⟩ : ∃ wa, wa = (w.alloc (.cells #[.slice lo.sa lo.sn lo.sc, .map (some lo.bm), .slice lo.fa lo.fn lo.fc] 74)).alloc (.cells #[.int .i64 e.op, .string e.name, .slice aw nw cw, .int .i64 e.lo, .int .i64 e.hi, .slice aa na ca] 45) := ⟨_, rfl⟩
 have HXA := hI (show Ext w wa by rw [hwa]; exact ((Ext.refl _).alloc _).alloc _)
 obtain ⟨x0, x1, x2, xf⟩ := blk3 (show wa.heap[w.heap.size]? = some (.cells #[.slice lo.sa lo.sn lo.sc, .map (some lo.bm), .slice lo.fa lo.fn lo.fc] 74 (0, 0)) by rw [hwa]; exact blk_alloc (alloc_new w _))
 obtain ⟨f0, f1, f2, f3, f4, f5, ff⟩ := blk6 (show wa.heap[w.heap.size + 1]? = some (.cells #[.int .i64 e.op, .string e.name, .slice aw nw cw, .int .i64 e.lo, .int .i64 e.hi, .slice aa na ca] 45 (0, 0)) by rw [hwa]; exact alloc_atR (by simp))
 have C0 := win_cell x0
 have C1 := win_cell x1
 have C2 := win_cell x2
 have D0 := win_cell f0
 have D1 := win_cell f1
 have D2 := win_cell f2
 have D3 := win_cell f3
 have D4 := win_cell f4
 have D5 := win_cell f5
 go_enter Tryz.func59, Tryz.ntmps59
 go_upto_region 1 with fail
 rw [<- hwa]
 clear hwa
 refine chn_ext 14 ?_
 repeat (refine chn_plain ?_; intro K hK; go_big_quiet_op; go_big_quiet_on)
 refine chn_call (γ := List Cla × OA × Nat) (fun x => .slice x.2.1 x.1.length x.2.2) (fun x W => U x.1 /\ IsClas W x.1 x.2.1 x.1.length x.2.2) (fun W hW _ _ => ?_) (fun x W W' hx h => ⟨h.1, h.2.ext hx⟩) ?_ ⟨([], none, 0)⟩
 ·unfold GivesOp
  go_simp
  refine (HU2.out W (HXA.out.trans hW)).mono ?_
  rintro r w1 ⟨u, a, c, rfl, h1, h2, h3⟩
  exact ⟨_, rfl, h3, (u, a, c), rfl, h2, h1⟩
 rintro ⟨u, a, c⟩ K hK
 go_simp; go_big_quiet_on
 repeat (refine chn_plain ?_; intro K hK; go_big_quiet_op; go_big_quiet_on)
 refine chn_known (.tuple #[.bool V, .int .i64 0]) (fun _ => True) (fun W hW hu _ => ?_) (fun _ _ _ h => h) ?_
 ·unfold GivesOp
  go_simp
  refine (HE.out W (HXA.out.trans hW) u a c hu.1 hu.2).mono ?_
  rintro r w1 ⟨rfl, hx1⟩
  exact ⟨_, rfl, hx1, rfl, trivial⟩
 intro K hK
 go_simp; go_big_quiet_on
 repeat (refine chn_plain ?_; intro K hK; go_big_quiet_op; go_big_quiet_on)
 refine chn_nil fun w2 hx2 _ _ => ?_
 have HX2 := hI (HXA.out.trans hx2)
 clear hx2
 go_wp2_with fail
 go_ret
 exact givesE_bool (by simp) HX2.out
end Go.Proofs.YtefjomofjejklaaGreatDoor
