/-
  Texts of the claim, joined: DApp, DOf, DIns.
-/
import Derived.Test.YtefjomofjejklaaGreatDoorDt22
namespace Go.Proofs.YtefjomofjejklaaGreatDoor
set_option maxRecDepth 100000
set_option maxHeartbeats 32000000
open Go.RowKit Go.Maps
theorem writeBackWhen_calls (nm : BA) (x : ExV) (au : OA) (nu cu : Nat) (w : World) : Calls Tryz.prog 230 #[.agg #[.string nm, .int .i64 x.op, .string x.name, .slice x.aw x.nw x.cw, .int .i64 x.lo, .int .i64 x.hi, .slice x.aa x.na x.ca, .slice au nu cu]] w (GivesE (.agg #[.int .i64 x.op, .string x.name, .slice x.aw x.nw x.cw, .int .i64 x.lo, .int .i64 x.hi, .slice x.aa x.na x.ca]) w) := by
 obtain ⟨wa, hwa⟩ : ∃ wa, wa = (w.alloc (.cells #[.string nm, .int .i64 x.op, .string x.name, .slice x.aw x.nw x.cw, .int .i64 x.lo, .int .i64 x.hi, .slice x.aa x.na x.ca, .slice au nu cu] 113)).alloc (.cells #[.int .i64 0, .string ⟨#[]⟩, .slice none 0 0, .int .i64 0, .int .i64 0, .slice none 0 0] 45) := ⟨_, rfl⟩
 have HXA := hI (show Ext w wa by rw [hwa]; exact ((Ext.refl _).alloc _).alloc _)
 obtain ⟨f0, f1, f2, f3, f4, f5, f6, f7, ff⟩ := blk8 (show wa.heap[w.heap.size]? = some (.cells #[.string nm, .int .i64 x.op, .string x.name, .slice x.aw x.nw x.cw, .int .i64 x.lo, .int .i64 x.hi, .slice x.aa x.na x.ca, .slice au nu cu] 113 (0, 0)) by rw [hwa]; exact blk_alloc (alloc_new w _))
 have HR := hI (show wa.heap[w.heap.size + 1]? = some (.cells #[.int .i64 0, .string ⟨#[]⟩, .slice none 0 0, .int .i64 0, .int .i64 0, .slice none 0 0] 45 (0, 0)) by rw [hwa]; exact alloc_atR (by simp))
 obtain ⟨g0, g1, g2, g3, g4, g5, gf⟩ := blk6 HR.out
 go_enter Tryz.func230, Tryz.ntmps230
 go_upto_region 1 with fail
 rw [<- hwa]
 clear hwa
 go_wp2_with fail
 obtain ⟨w8, hw8⟩ : ∃ w8, w8 = put6d wa (w.heap.size + 1) (.int .i64 x.op) (.string x.name) (.slice x.aw x.nw x.cw) (.int .i64 x.lo) (.int .i64 x.hi) (.slice x.aa x.na x.ca) := ⟨_, rfl⟩
 have HX8 := hI (show Ext w w8 by rw [hw8]; exact (put6d_chg _ _).ext HXA.out (by simp))
 have h8 : w8.heap[w.heap.size + 1]? = some (.cells #[.int .i64 x.op, .string x.name, .slice x.aw x.nw x.cw, .int .i64 x.lo, .int .i64 x.hi, .slice x.aa x.na x.ca] 45 (0, 0)) := by rw [hw8]; exact put6d_blk HR.out
 unfold put6d at hw8
 rw [<- hw8]
 clear hw8 g0 g1 g2 g3 g4 g5 gf
 obtain ⟨g0, g1, g2, g3, g4, g5, gf⟩ := blk6 h8
 refine bodyPost_ret (v := .agg #[.int .i64 x.op, .string x.name, .slice x.aw x.nw x.cw, .int .i64 x.lo, .int .i64 x.hi, .slice x.aa x.na x.ca]) (by simp [results, Tryz.results230, go_sem, g0, g1, g2, g3, g4, g5]) rfl ?_
 exact ⟨rfl, HX8.out⟩
theorem writeBackUnless_calls (nm : BA) (x : ExV) (au : OA) (nu cu : Nat) (w : World) : Calls Tryz.prog 229 #[.agg #[.string nm, .int .i64 x.op, .string x.name, .slice x.aw x.nw x.cw, .int .i64 x.lo, .int .i64 x.hi, .slice x.aa x.na x.ca, .slice au nu cu]] w (GivesE (.slice au nu cu) w) := by
 obtain ⟨wa, hwa⟩ : ∃ wa, wa = w.alloc (.cells #[.string nm, .int .i64 x.op, .string x.name, .slice x.aw x.nw x.cw, .int .i64 x.lo, .int .i64 x.hi, .slice x.aa x.na x.ca, .slice au nu cu] 113) := ⟨_, rfl⟩
 have HXA := hI (show Ext w wa by rw [hwa]; exact (Ext.refl _).alloc _)
 obtain ⟨f0, f1, f2, f3, f4, f5, f6, f7, ff⟩ := blk8 (show wa.heap[w.heap.size]? = some (.cells #[.string nm, .int .i64 x.op, .string x.name, .slice x.aw x.nw x.cw, .int .i64 x.lo, .int .i64 x.hi, .slice x.aa x.na x.ca, .slice au nu cu] 113 (0, 0)) by rw [hwa]; exact alloc_new w _)
 go_enter Tryz.func229, Tryz.ntmps229
 go_upto_region 1 with fail
 rw [<- hwa]
 clear hwa
 go_wp2_with fail
 go_ret
 exact ⟨rfl, HXA.out⟩
theorem writeBackWhen_m (n : Nat) (nm : BA) (x : ExV) (au : OA) (nu cu : Nat) (W : World) : (method (n + 1) 113 (.agg #[.string nm, .int .i64 x.op, .string x.name, .slice x.aw x.nw x.cw, .int .i64 x.lo, .int .i64 x.hi, .slice x.aa x.na x.ca, .slice au nu cu]) "treaty/decide.when").run Tryz.prog W = .ok (230, .agg #[.string nm, .int .i64 x.op, .string x.name, .slice x.aw x.nw x.cw, .int .i64 x.lo, .int .i64 x.hi, .slice x.aa x.na x.ca, .slice au nu cu]) W := by kernel_rfl
theorem writeBackUnless_m (n : Nat) (nm : BA) (x : ExV) (au : OA) (nu cu : Nat) (W : World) : (method (n + 1) 113 (.agg #[.string nm, .int .i64 x.op, .string x.name, .slice x.aw x.nw x.cw, .int .i64 x.lo, .int .i64 x.hi, .slice x.aa x.na x.ca, .slice au nu cu]) "treaty/decide.unless").run Tryz.prog W = .ok (229, .agg #[.string nm, .int .i64 x.op, .string x.name, .slice x.aw x.nw x.cw, .int .i64 x.lo, .int .i64 x.hi, .slice x.aa x.na x.ca, .slice au nu cu]) W := by kernel_rfl
theorem clauseWhen_calls (kd : Int) (nm : BA) (x : ExV) (au : OA) (nu cu : Nat) (am : Int) (w : World) : Calls Tryz.prog 227 #[.agg #[.int .i64 kd, .string nm, .int .i64 x.op, .string x.name, .slice x.aw x.nw x.cw, .int .i64 x.lo, .int .i64 x.hi, .slice x.aa x.na x.ca, .slice au nu cu, .int .i64 am]] w (GivesE (.agg #[.int .i64 x.op, .string x.name, .slice x.aw x.nw x.cw, .int .i64 x.lo, .int .i64 x.hi, .slice x.aa x.na x.ca]) w) := by
 obtain ⟨wa, hwa⟩ : ∃ wa, wa = (w.alloc (.cells #[.int .i64 kd, .string nm, .int .i64 x.op, .string x.name, .slice x.aw x.nw x.cw, .int .i64 x.lo, .int .i64 x.hi, .slice x.aa x.na x.ca, .slice au nu cu, .int .i64 am] 81)).alloc (.cells #[.int .i64 0, .string ⟨#[]⟩, .slice none 0 0, .int .i64 0, .int .i64 0, .slice none 0 0] 45) := ⟨_, rfl⟩
 have HXA := hI (show Ext w wa by rw [hwa]; exact ((Ext.refl _).alloc _).alloc _)
 obtain ⟨f0, f1, f2, f3, f4, f5, f6, f7, f8, f9, ff⟩ := blk10r (show wa.heap[w.heap.size]? = some (.cells #[.int .i64 kd, .string nm, .int .i64 x.op, .string x.name, .slice x.aw x.nw x.cw, .int .i64 x.lo, .int .i64 x.hi, .slice x.aa x.na x.ca, .slice au nu cu, .int .i64 am] 81 (0, 0)) by rw [hwa]; exact blk_alloc (alloc_new w _))
 have HR := hI (show wa.heap[w.heap.size + 1]? = some (.cells #[.int .i64 0, .string ⟨#[]⟩, .slice none 0 0, .int .i64 0, .int .i64 0, .slice none 0 0] 45 (0, 0)) by rw [hwa]; exact alloc_atR (by simp))
 obtain ⟨g0, g1, g2, g3, g4, g5, gf⟩ := blk6 HR.out
 go_enter Tryz.func227, Tryz.ntmps227
 go_upto_region 1 with fail
 rw [<- hwa]
 clear hwa
 go_wp2_with fail
 obtain ⟨w8, hw8⟩ : ∃ w8, w8 = put6d wa (w.heap.size + 1) (.int .i64 x.op) (.string x.name) (.slice x.aw x.nw x.cw) (.int .i64 x.lo) (.int .i64 x.hi) (.slice x.aa x.na x.ca) := ⟨_, rfl⟩
 have HX8 := hI (show Ext w w8 by rw [hw8]; exact (put6d_chg _ _).ext HXA.out (by simp))
 have h8 : w8.heap[w.heap.size + 1]? = some (.cells #[.int .i64 x.op, .string x.name, .slice x.aw x.nw x.cw, .int .i64 x.lo, .int .i64 x.hi, .slice x.aa x.na x.ca] 45 (0, 0)) := by rw [hw8]; exact put6d_blk HR.out
 unfold put6d at hw8
 rw [<- hw8]
 clear hw8 g0 g1 g2 g3 g4 g5 gf
 obtain ⟨g0, g1, g2, g3, g4, g5, gf⟩ := blk6 h8
 refine bodyPost_ret (v := .agg #[.int .i64 x.op, .string x.name, .slice x.aw x.nw x.cw, .int .i64 x.lo, .int .i64 x.hi, .slice x.aa x.na x.ca]) (by simp [results, Tryz.results227, go_sem, g0, g1, g2, g3, g4, g5]) rfl ?_
 exact ⟨rfl, HX8.out⟩
theorem clauseUnless_calls (kd : Int) (nm : BA) (x : ExV) (au : OA) (nu cu : Nat) (am : Int) (w : World) : Calls Tryz.prog 226 #[.agg #[.int .i64 kd, .string nm, .int .i64 x.op, .string x.name, .slice x.aw x.nw x.cw, .int .i64 x.lo, .int .i64 x.hi, .slice x.aa x.na x.ca, .slice au nu cu, .int .i64 am]] w (GivesE (.slice au nu cu) w) := by
 obtain ⟨wa, hwa⟩ : ∃ wa, wa = w.alloc (.cells #[.int .i64 kd, .string nm, .int .i64 x.op, .string x.name, .slice x.aw x.nw x.cw, .int .i64 x.lo, .int .i64 x.hi, .slice x.aa x.na x.ca, .slice au nu cu, .int .i64 am] 81) := ⟨_, rfl⟩
 have HXA := hI (show Ext w wa by rw [hwa]; exact (Ext.refl _).alloc _)
 obtain ⟨f0, f1, f2, f3, f4, f5, f6, f7, f8, f9, ff⟩ := blk10r (show wa.heap[w.heap.size]? = some (.cells #[.int .i64 kd, .string nm, .int .i64 x.op, .string x.name, .slice x.aw x.nw x.cw, .int .i64 x.lo, .int .i64 x.hi, .slice x.aa x.na x.ca, .slice au nu cu, .int .i64 am] 81 (0, 0)) by rw [hwa]; exact alloc_new w _)
 go_enter Tryz.func226, Tryz.ntmps226
 go_upto_region 1 with fail
 rw [<- hwa]
 clear hwa
 go_wp2_with fail
 go_ret
 exact ⟨rfl, HXA.out⟩
theorem clauseWhen_m (n : Nat) (kd : Int) (nm : BA) (x : ExV) (au : OA) (nu cu : Nat) (am : Int) (W : World) : (method (n + 1) 81 (.agg #[.int .i64 kd, .string nm, .int .i64 x.op, .string x.name, .slice x.aw x.nw x.cw, .int .i64 x.lo, .int .i64 x.hi, .slice x.aa x.na x.ca, .slice au nu cu, .int .i64 am]) "treaty/decide.when").run Tryz.prog W = .ok (227, .agg #[.int .i64 kd, .string nm, .int .i64 x.op, .string x.name, .slice x.aw x.nw x.cw, .int .i64 x.lo, .int .i64 x.hi, .slice x.aa x.na x.ca, .slice au nu cu, .int .i64 am]) W := by kernel_rfl
theorem clauseUnless_m (n : Nat) (kd : Int) (nm : BA) (x : ExV) (au : OA) (nu cu : Nat) (am : Int) (W : World) : (method (n + 1) 81 (.agg #[.int .i64 kd, .string nm, .int .i64 x.op, .string x.name, .slice x.aw x.nw x.cw, .int .i64 x.lo, .int .i64 x.hi, .slice x.aa x.na x.ca, .slice au nu cu, .int .i64 am]) "treaty/decide.unless").run Tryz.prog W = .ok (226, .agg #[.int .i64 kd, .string nm, .int .i64 x.op, .string x.name, .slice x.aw x.nw x.cw, .int .i64 x.lo, .int .i64 x.hi, .slice x.aa x.na x.ca, .slice au nu cu, .int .i64 am]) W := by kernel_rfl
theorem dback_calls {s : List Attr} {l : List Cla} {f : ZI} {lo : LossV} {n : Nat} : ∀ (m : Nat) (cond : Ex) (u : List Wb) (nm : BA) (x : ExV) (au : OA) (nu cu : Nat) (w : World), wbN u <= m -> DIn w s l f lo n -> Pd s l cond -> wbsOkT (Pd s l) u -> nu <= 1000000000000000 -> nu = u.length -> IsEx w cond x.val -> WbsD w u au ->
  Calls Tryz.prog 33 #[lo.val, .iface 113 (.agg #[.string nm, .int .i64 x.op, .string x.name, .slice x.aw x.nw x.cw, .int .i64 x.lo, .int .i64 x.hi, .slice x.aa x.na x.ca, .slice au nu cu])] w (GivesE (.bool (val s l f cond && !wbsV (val s l f) u)) w) := by
 intro m
 induction m using Nat.strongRecOn with
 | _ m ih =>
  intro cond u nm x au nu cu w hm h hp hok hnu hlen hex hd
  have HH := hI (fun (W : World) (hW : Ext w W) => holds_calls W (h.ext hW) (hex.ext hW) hp)
  have HIH := hI (fun (k : Nat) (hk : k < u.length) (v : WbV) (W : World) (hW : Ext w W) (hvx : IsEx W u[k].cond v.x.val) (hvn : v.nu = u[k].unl.length) (hvd : WbsD W u[k].unl v.au) => ih (wbN u[k].unl) (by have := wbN_at u k hk; omega) u[k].cond u[k].unl v.name v.x v.au v.nu v.cu W (Nat.le_refl _) (h.ext hW) (wbsOkT_at u hok k hk).1 (wbsOkT_at u hok k hk).2.1 (by have := (wbsOkT_at u hok k hk).2.2; omega) hvn hvx hvd)
  have HD := hI hd
  have HLEN := hI hlen
  obtain ⟨T, hT⟩ : ∃ T, T = val s l f cond := ⟨_, rfl⟩
  rw [<- hT] at HH ⊢
  clear ih hm h hp hok hlen hex hd hT
  have HW := hI (fun W => writeBackWhen_calls nm x au nu cu W)
  have HUN := hI (fun W => writeBackUnless_calls nm x au nu cu W)
  have hm1 := fun (n : Nat) (W : World) => writeBackWhen_m n nm x au nu cu W
  have hm2 := fun (n : Nat) (W : World) => writeBackUnless_m n nm x au nu cu W
  unfold ExV.val exV LossV.val at HH
  unfold LossV.val at HIH ⊢
  obtain ⟨wa, hwa⟩ : ∃ wa, wa = w.alloc (.cells #[.slice lo.sa lo.sn lo.sc, .map (some lo.bm), .slice lo.fa lo.fn lo.fc] 74) := ⟨_, rfl⟩
  have HXA := hI (show Ext w wa by rw [hwa]; exact (Ext.refl _).alloc _)
  have HA := hI (show wa.heap[w.heap.size]? = some (.cells #[.slice lo.sa lo.sn lo.sc, .map (some lo.bm), .slice lo.fa lo.fn lo.fc] 74 (0, 0)) by rw [hwa]; exact alloc_new w _)
  obtain ⟨x0, x1, x2, xf⟩ := blk3 HA.out
  have C0 := win_cell x0
  have C1 := win_cell x1
  have C2 := win_cell x2
  go_enter Tryz.func33, Tryz.ntmps33
  go_upto_region 1 with fail
  rw [<- hwa]
  clear hwa
  refine chn_ext 5 ?_
  repeat (refine chn_plain ?_; intro K hK; go_big_quiet_op; go_big_quiet_on)
  refine chn_ge (fun W hW => HW.out W) ?_
  intro K hK; go_simp; go_big_quiet_on
  refine chn_ge (fun W hW => HH.out W (HXA.out.trans hW)) ?_
  intro K hK; go_simp; go_big_quiet_on
  repeat (refine chn_plain ?_; intro K hK; go_big_quiet_op; go_big_quiet_on)
  refine chn_nil fun w1 hx1 _ _ => ?_
  have HX1 := hI (HXA.out.trans hx1)
  have HB := hI (hx1.blk HA.out)
  clear hx1 x0 x1 x2 xf C0 C1 C2 HA HXA HH HW
  cases T
  ·go_wp2_with fail
   go_ret
   exact givesE_bool (by simp) HX1.out
  go_wp2_with fail
  refine (HUN.out w1).mono ?_
  rintro r w2 ⟨rfl, hx2⟩
  have HX2 := hI (HX1.out.trans hx2)
  have HB2 := hI (hx2.blk HB.out)
  clear hx2 HB HX1 HUN hm1 hm2
  go_wp2_with fail
  go_loopw [15] (BkI (val s l f) u nu w2) (fun i _ => nu - (intOf i).toNat)
  case atStart => exact ⟨0, rfl, Nat.zero_le _, rfl, Ext.refl _⟩
  case round =>
   obtain ⟨k, rfl, hk, hv, hx⟩ := hrel
   have HV := hI hv
   have HX := hI (HX2.out.trans hx)
   have HX0 := hI hx
   have HB3 := hI (hx.blk HB2.out)
   clear hv hx
   by_cases hkn : k < nu
   ·have hkl : k < u.length := by have := HLEN.out; omega
    have t1 : decide ((k : Int) < (nu : Int)) = true := decide_eq_true (by omega)
    obtain ⟨b, off, rfl, v, hvn, hrow, hvx, hvu, -, -, hvd⟩ := WbsD.at u _ (WbsD.mono HX.out.sub u _ HD.out) k hkl
    obtain ⟨c0, c1, c2, c3, c4, c5, c6, c7⟩ := hrow.eight
    have HREC := hI (fun W (hW : Ext wr W) => HIH.out k hkl v W (HX.out.trans hW) (hvx.ext hW) hvu (WbsD.mono hW.sub _ _ hvd))
    have HST := hI (wbsV_drop (val s l f) hkl)
    obtain ⟨Q, hQ⟩ : ∃ Q, Q = (val s l f u[k].cond && !wbsV (val s l f) u[k].unl) := ⟨_, rfl⟩
    rw [<- hQ] at HREC HST
    clear hvn hrow hvx hvu hvd hQ HIH
    obtain ⟨x0, x1, x2, xf⟩ := blk3 HB3.out
    obtain ⟨wb, hwb⟩ : ∃ wb, wb = wr.alloc (.cells #[.string v.name, .int .i64 v.x.op, .string v.x.name, .slice v.x.aw v.x.nw v.x.cw, .int .i64 v.x.lo, .int .i64 v.x.hi, .slice v.x.aa v.x.na v.x.ca, .slice v.au v.nu v.cu] 53) := ⟨_, rfl⟩
    have HXB := hI (show Ext wr wb by rw [hwb]; exact (Ext.refl _).alloc _)
    have hb8 : wb.heap[wr.heap.size]? = some (.cells #[.string v.name, .int .i64 v.x.op, .string v.x.name, .slice v.x.aw v.x.nw v.x.cw, .int .i64 v.x.lo, .int .i64 v.x.hi, .slice v.x.aa v.x.na v.x.ca, .slice v.au v.nu v.cu] 53 (0, 0)) := by rw [hwb]; exact alloc_new wr _
    go_upto_region 6 with fail
    rw [<- hwb]
    clear hwb x0 x1 x2 xf
    obtain ⟨x0, x1, x2, xf⟩ := blk3 (HXB.out.blk HB3.out)
    obtain ⟨f0, f1, f2, f3, f4, f5, f6, f7, ff⟩ := blk8 hb8
    clear hb8
    go_wp2_with fail
    refine (HREC.out wb HXB.out).mono ?_
    rintro r w5 ⟨rfl, hx5⟩
    have HX5 := hI (HXB.out.trans hx5)
    clear hx5 f0 f1 f2 f3 f4 f5 f6 f7 ff x0 x1 x2 xf c0 c1 c2 c3 c4 c5 c6 c7
    cases Q
    ·go_wp2_with fail
     go_roundw
     case rel => exact ⟨k + 1, by go_num, by omega, by rw [HV.out, HST.out]; rfl, HX0.out.trans HX5.out⟩
     case measure => simp [intOf]; omega
    have HQ := hI (show wbsV (val s l f) u = true by rw [HV.out, HST.out]; rfl)
    go_wp2_with fail
    go_ret
    exact givesE_bool (by rw [HQ.out]; rfl) (HX.out.trans HX5.out)
   have t1 : decide ((k : Int) < (nu : Int)) = false := decide_eq_false (by omega)
   have HQ := hI (show wbsV (val s l f) u = false by
    rw [HV.out, show k = u.length by have := HLEN.out; omega, List.drop_length, wbsV])
   go_wp2_with fail
   go_ret
   exact givesE_bool (by rw [HQ.out]; rfl) HX.out
theorem dclause_calls {s : List Attr} {l : List Cla} {f : ZI} {lo : LossV} {n : Nat} (cond : Ex) (u : List Wb) (kd : Int) (nm : BA) (x : ExV) (au : OA) (nu cu : Nat) (am : Int) (w : World) (h : DIn w s l f lo n) (hp : Pd s l cond) (hok : wbsOkT (Pd s l) u) (hnu : nu <= 1000000000000000) (hlen : nu = u.length) (hex : IsEx w cond x.val) (hd : WbsD w u au) :
  Calls Tryz.prog 33 #[lo.val, .iface 81 (.agg #[.int .i64 kd, .string nm, .int .i64 x.op, .string x.name, .slice x.aw x.nw x.cw, .int .i64 x.lo, .int .i64 x.hi, .slice x.aa x.na x.ca, .slice au nu cu, .int .i64 am])] w (GivesE (.bool (val s l f cond && !wbsV (val s l f) u)) w) := by
 have HH := hI (fun (W : World) (hW : Ext w W) => holds_calls W (h.ext hW) (hex.ext hW) hp)
 have HIH := hI (fun (k : Nat) (hk : k < u.length) (v : WbV) (W : World) (hW : Ext w W) (hvx : IsEx W u[k].cond v.x.val) (hvn : v.nu = u[k].unl.length) (hvd : WbsD W u[k].unl v.au) => dback_calls (wbN u[k].unl) u[k].cond u[k].unl v.name v.x v.au v.nu v.cu W (Nat.le_refl _) (h.ext hW) (wbsOkT_at u hok k hk).1 (wbsOkT_at u hok k hk).2.1 (by have := (wbsOkT_at u hok k hk).2.2; omega) hvn hvx hvd)
 have HD := hI hd
 have HLEN := hI hlen
 obtain ⟨T, hT⟩ : ∃ T, T = val s l f cond := ⟨_, rfl⟩
 rw [<- hT] at HH ⊢
 clear h hp hok hlen hex hd hT
 have HW := hI (fun W => clauseWhen_calls kd nm x au nu cu am W)
 have HUN := hI (fun W => clauseUnless_calls kd nm x au nu cu am W)
 have hm1 := fun (n : Nat) (W : World) => clauseWhen_m n kd nm x au nu cu am W
 have hm2 := fun (n : Nat) (W : World) => clauseUnless_m n kd nm x au nu cu am W
 unfold ExV.val exV LossV.val at HH
 unfold LossV.val at HIH ⊢
 obtain ⟨wa, hwa⟩ : ∃ wa, wa = w.alloc (.cells #[.slice lo.sa lo.sn lo.sc, .map (some lo.bm), .slice lo.fa lo.fn lo.fc] 74) := ⟨_, rfl⟩
 have HXA := hI (show Ext w wa by rw [hwa]; exact (Ext.refl _).alloc _)
 have HA := hI (show wa.heap[w.heap.size]? = some (.cells #[.slice lo.sa lo.sn lo.sc, .map (some lo.bm), .slice lo.fa lo.fn lo.fc] 74 (0, 0)) by rw [hwa]; exact alloc_new w _)
 obtain ⟨x0, x1, x2, xf⟩ := blk3 HA.out
 have C0 := win_cell x0
 have C1 := win_cell x1
 have C2 := win_cell x2
 go_enter Tryz.func33, Tryz.ntmps33
 go_upto_region 1 with fail
 rw [<- hwa]
 clear hwa
 refine chn_ext 5 ?_
 repeat (refine chn_plain ?_; intro K hK; go_big_quiet_op; go_big_quiet_on)
 refine chn_ge (fun W hW => HW.out W) ?_
 intro K hK; go_simp; go_big_quiet_on
 refine chn_ge (fun W hW => HH.out W (HXA.out.trans hW)) ?_
 intro K hK; go_simp; go_big_quiet_on
 repeat (refine chn_plain ?_; intro K hK; go_big_quiet_op; go_big_quiet_on)
 refine chn_nil fun w1 hx1 _ _ => ?_
 have HX1 := hI (HXA.out.trans hx1)
 have HB := hI (hx1.blk HA.out)
 clear hx1 x0 x1 x2 xf C0 C1 C2 HA HXA HH HW
 cases T
 ·go_wp2_with fail
  go_ret
  exact givesE_bool (by simp) HX1.out
 go_wp2_with fail
 refine (HUN.out w1).mono ?_
 rintro r w2 ⟨rfl, hx2⟩
 have HX2 := hI (HX1.out.trans hx2)
 have HB2 := hI (hx2.blk HB.out)
 clear hx2 HB HX1 HUN hm1 hm2
 go_wp2_with fail
 go_loopw [15] (BkI (val s l f) u nu w2) (fun i _ => nu - (intOf i).toNat)
 case atStart => exact ⟨0, rfl, Nat.zero_le _, rfl, Ext.refl _⟩
 case round =>
  obtain ⟨k, rfl, hk, hv, hx⟩ := hrel
  have HV := hI hv
  have HX := hI (HX2.out.trans hx)
  have HX0 := hI hx
  have HB3 := hI (hx.blk HB2.out)
  clear hv hx
  by_cases hkn : k < nu
  ·have hkl : k < u.length := by have := HLEN.out; omega
   have t1 : decide ((k : Int) < (nu : Int)) = true := decide_eq_true (by omega)
   obtain ⟨b, off, rfl, v, hvn, hrow, hvx, hvu, -, -, hvd⟩ := WbsD.at u _ (WbsD.mono HX.out.sub u _ HD.out) k hkl
   obtain ⟨c0, c1, c2, c3, c4, c5, c6, c7⟩ := hrow.eight
   have HREC := hI (fun W (hW : Ext wr W) => HIH.out k hkl v W (HX.out.trans hW) (hvx.ext hW) hvu (WbsD.mono hW.sub _ _ hvd))
   have HST := hI (wbsV_drop (val s l f) hkl)
   obtain ⟨Q, hQ⟩ : ∃ Q, Q = (val s l f u[k].cond && !wbsV (val s l f) u[k].unl) := ⟨_, rfl⟩
   rw [<- hQ] at HREC HST
   clear hvn hrow hvx hvu hvd hQ HIH
   obtain ⟨x0, x1, x2, xf⟩ := blk3 HB3.out
   obtain ⟨wb, hwb⟩ : ∃ wb, wb = wr.alloc (.cells #[.string v.name, .int .i64 v.x.op, .string v.x.name, .slice v.x.aw v.x.nw v.x.cw, .int .i64 v.x.lo, .int .i64 v.x.hi, .slice v.x.aa v.x.na v.x.ca, .slice v.au v.nu v.cu] 53) := ⟨_, rfl⟩
   have HXB := hI (show Ext wr wb by rw [hwb]; exact (Ext.refl _).alloc _)
   have hb8 : wb.heap[wr.heap.size]? = some (.cells #[.string v.name, .int .i64 v.x.op, .string v.x.name, .slice v.x.aw v.x.nw v.x.cw, .int .i64 v.x.lo, .int .i64 v.x.hi, .slice v.x.aa v.x.na v.x.ca, .slice v.au v.nu v.cu] 53 (0, 0)) := by rw [hwb]; exact alloc_new wr _
   go_upto_region 6 with fail
   rw [<- hwb]
   clear hwb x0 x1 x2 xf
   obtain ⟨x0, x1, x2, xf⟩ := blk3 (HXB.out.blk HB3.out)
   obtain ⟨f0, f1, f2, f3, f4, f5, f6, f7, ff⟩ := blk8 hb8
   clear hb8
   go_wp2_with fail
   refine (HREC.out wb HXB.out).mono ?_
   rintro r w5 ⟨rfl, hx5⟩
   have HX5 := hI (HXB.out.trans hx5)
   clear hx5 f0 f1 f2 f3 f4 f5 f6 f7 ff x0 x1 x2 xf c0 c1 c2 c3 c4 c5 c6 c7
   cases Q
   ·go_wp2_with fail
    go_roundw
    case rel => exact ⟨k + 1, by go_num, by omega, by rw [HV.out, HST.out]; rfl, HX0.out.trans HX5.out⟩
    case measure => simp [intOf]; omega
   have HQ := hI (show wbsV (val s l f) u = true by rw [HV.out, HST.out]; rfl)
   go_wp2_with fail
   go_ret
   exact givesE_bool (by rw [HQ.out]; rfl) (HX.out.trans HX5.out)
  have t1 : decide ((k : Int) < (nu : Int)) = false := decide_eq_false (by omega)
  have HQ := hI (show wbsV (val s l f) u = false by
   rw [HV.out, show k = u.length by have := HLEN.out; omega, List.drop_length, wbsV])
  go_wp2_with fail
  go_ret
  exact givesE_bool (by rw [HQ.out]; rfl) HX.out
def posI (l : ZI) (x : Int) : Int := match l.findIdx? (fun y => y == x) with | some i => i | none => -1
theorem posI_hit {l : ZI} {x : Int} {k : Nat} (hk : k < l.length) (h1 : ∀ j (hj : j < l.length), j < k -> (l[j] == x) = false) (h2 : (l[k] == x) = true) : posI l x = k := by
 unfold posI
 rw [show l.findIdx? (fun y => y == x) = some k from by
  rw [List.findIdx?_eq_some_iff_getElem]
  exact ⟨hk, h2, fun j hj => by simpa using h1 j (by omega) hj⟩]
theorem posI_miss {l : ZI} {x : Int} (h1 : ∀ j (hj : j < l.length), (l[j] == x) = false) : posI l x = -1 := by
 unfold posI
 rw [show l.findIdx? (fun y => y == x) = none from by
  rw [List.findIdx?_eq_none_iff]
  intro y hy
  obtain ⟨j, hj, rfl⟩ := List.getElem_of_mem hy
  exact h1 j hj]
theorem posI_any (l : ZI) (x : Int) : decide (0 <= posI l x) = l.any (· == x) := by
 unfold posI
 cases h : l.findIdx? (fun y => y == x) with
 | none =>
  rw [List.findIdx?_eq_none_iff] at h
  have : l.any (· == x) = false := by
   rw [List.any_eq_false]
   intro y hy
   simpa using h y hy
  rw [this]
  rfl
 | some i =>
  rw [List.findIdx?_eq_some_iff_getElem] at h
  obtain ⟨hi, h2, _⟩ := h
  have : l.any (· == x) = true := List.any_eq_true.2 ⟨_, List.getElem_mem hi, h2⟩
  rw [this]
  simp
theorem indexI_calls (l : ZI) (x : Int) (a : OA) (n c : Nat) (w : World) (hn : n <= 1000000000000000) (hl : IsIntF w l a n) :
  Calls Tryz.prog 114 #[.slice a n c, .int .i64 x] w (Gives (.int .i64 (posI l x)) w) := by
 have HL := hI hl
 have HNL := hI hl.1
 obtain ⟨R, hR⟩ : ∃ R, R = posI l x := ⟨_, rfl⟩
 rw [<- hR]
 have HR := hI hR
 clear hl hR
 go_enter Tryz.func114, Tryz.ntmps114
 go_wp2_with fail
 go_loop [8] (fun t => ∃ k : Nat, t = .int .i64 k /\ k <= n /\ ∀ j (hj : j < l.length), j < k -> (l[j] == x) = false) (fun t => n - (intOf t).toNat)
 case atStart => exact ⟨0, rfl, by omega, fun _ _ h => by omega⟩
 case round =>
  obtain ⟨k, rfl, hk, hne⟩ := hrel
  have HE := hI hne
  clear hne
  by_cases hlt : k < n
  ·have hlt' : k < l.length := by have := HNL.out; omega
   have t1 : decide ((k : Int) < (n : Int)) = true := decide_eq_true (by omega)
   obtain ⟨b, off, rfl, hcell⟩ := HL.out.2 k hlt'
   obtain ⟨q, hq⟩ : ∃ q, q = l[k] := ⟨_, rfl⟩
   rw [<- hq] at hcell
   have HQ := hI hq
   clear hq
   cases hx : (x == q)
   ·go_wp2_with fail
    go_round
    case rel =>
     refine ⟨k + 1, by go_num, by omega, ?_⟩
     intro j hj hj2
     by_cases hjk : j < k
     ·exact HE.out j hj hjk
     obtain rfl : j = k := by omega
     rw [<- HQ.out]
     rw [beq_eq_false_iff_ne] at hx ⊢
     exact fun e => hx e.symm
    case measure => simp [intOf]; omega
   have HH := hI (show R = (k : Int) by rw [HR.out]; exact posI_hit hlt' HE.out (by rw [<- HQ.out]; rw [beq_iff_eq] at hx ⊢; exact hx.symm))
   go_wp2_with fail
   go_ret
   exact gives_int HH.out.symm
  have t1 : decide ((k : Int) < (n : Int)) = false := decide_eq_false (by omega)
  have HH := hI (show R = -1 by rw [HR.out]; exact posI_miss (fun j hj => HE.out j hj (by have := HNL.out; omega)))
  go_wp2_with fail
  go_ret
  exact gives_int HH.out.symm
theorem containsI_calls (l : ZI) (x : Int) (a : OA) (n c : Nat) (w : World) (hn : n <= 1000000000000000) (hl : IsIntF w l a n) :
  Calls Tryz.prog 85 #[.slice a n c, .int .i64 x] w (Gives (.bool (l.any (· == x))) w) := by
 have HC := hI (indexI_calls l x a n c w hn hl)
 rw [<- posI_any]
 obtain ⟨R, hR⟩ : ∃ R, R = posI l x := ⟨_, rfl⟩
 rw [<- hR] at HC ⊢
 clear hR hl
 go_enter Tryz.func85, Tryz.ntmps85
 go_wp2_with fail
 refine HC.out.mono ?_
 rintro e w' ⟨rfl, rfl⟩
 go_wp2_with fail
 go_ret
 exact gives_bool rfl
def ofB (ks : ZI) (l : List Cla) : List Cla := l.filter fun x => ks.any (· == x.kind)
theorem ofB_take (ks : ZI) {l : List Cla} {k : Nat} (hk : k < l.length) : ofB ks (l.take (k + 1)) = if ks.any (· == l[k].kind) = true then ofB ks (l.take k) ++ [l[k]] else ofB ks (l.take k) := by
 unfold ofB
 rw [List.take_succ_eq_append_getElem hk, List.filter_append, List.filter_cons]
 cases ks.any (· == l[k].kind) <;> simp
theorem ofB_len (ks : ZI) (l : List Cla) : (ofB ks l).length <= l.length := List.length_filter_le _ _
def OfQ (ks : ZI) (l : List Cla) (w : World) (r : Ending) (w' : World) : Prop := ∃ u a c, u = ofB ks l /\ r = .returned (.slice a u.length c) /\ IsClas w' u a u.length c /\ Ext w w'
theorem of_calls (l : List Cla) (ks : ZI) (a : OA) (n c : Nat) (ka : OA) (kn kc : Nat) (w : World) (hl : IsClas w l a n c) (hn : n <= 1000000) (hk : IsIntF w ks ka kn) (hkn : kn <= 100) :
  Calls Tryz.prog 58 #[.slice a n c, .slice ka kn kc] w (OfQ ks l w) := by
 have HCT := hI (fun (x : Int) W (hW : Ext w W) => containsI_calls ks x ka kn kc W (by omega) (hk.ext hW))
 have HL := hI hl
 have HN := hI hl.len
 clear hl hk
 go_enter Tryz.func58, Tryz.ntmps58
 go_wp2_with fail
 go_loopw [5, 10] (fun lv i wr => ∃ (k : Nat) (vs : List ClV) (u : List Cla), i = .int .i64 k /\ k <= n /\ u = ofB ks (l.take k) /\ u.length <= k /\ ClasR w u vs /\ wr.ownsRow w.heap.size 48 10 lv u.length (vs.flatMap ClV.cells) /\ Ext w wr) (fun _ i _ => n - (intOf i).toNat)
 case atStart => exact ⟨0, [], [], rfl, by omega, rfl, by simp, ⟨rfl, fun i h => by simp at h⟩, World.ownsRow_nil _ _ _ _, Ext.refl _⟩
 case round =>
  obtain ⟨k, vs, u, rfl, hkn2, hu, hul, hcr, hown, hx⟩ := hrel
  obtain ⟨la, lc, hlv⟩ := owns_form hown
  subst hlv
  have HU := hI hu
  have HCR := hI hcr
  have HOWN := hI hown
  have HX := hI hx
  clear hu hcr hown hx
  by_cases hlt : k < n
  ·have hkl : k < l.length := by have := HN.out; omega
   have t1 : decide ((k : Int) < (n : Int)) = true := decide_eq_true (by omega)
   obtain ⟨cb, coff, v, rfl, hcla, hrow⟩ := HL.out.at hkl
   obtain ⟨c0, c1, c2, c3, c4, c5, c6, c7, c8, c9⟩ := (hrow.mono HX.out.sub).ten
   have HCL := hI hcla
   obtain ⟨B, hB⟩ : ∃ B, B = ks.any (· == v.kind) := ⟨_, rfl⟩
   have HST := hI (show ofB ks (l.take (k + 1)) = if B = true then u ++ [l[k]] else u by rw [ofB_take ks hkl, hB, hcla.1, HU.out])
   have HCX := hI (fun W (hW : Ext w W) => HCT.out v.kind W hW)
   rw [<- hB] at HCX
   clear hcla hrow hB
   obtain ⟨wb, hwb⟩ : ∃ wb, wb = wr.alloc (.cells #[.int .i64 v.kind, .string v.name, .int .i64 v.x.op, .string v.x.name, .slice v.x.aw v.x.nw v.x.cw, .int .i64 v.x.lo, .int .i64 v.x.hi, .slice v.x.aa v.x.na v.x.ca, .slice v.au v.nu v.cu, .int .i64 v.amount] 48) := ⟨_, rfl⟩
   have HXB := hI (show Ext wr wb by rw [hwb]; exact (Ext.refl _).alloc _)
   have hb := (show wb.heap[wr.heap.size]? = some (.cells #[.int .i64 v.kind, .string v.name, .int .i64 v.x.op, .string v.x.name, .slice v.x.aw v.x.nw v.x.cw, .int .i64 v.x.lo, .int .i64 v.x.hi, .slice v.x.aa v.x.na v.x.ca, .slice v.au v.nu v.cu, .int .i64 v.amount] 48 (0, 0)) by rw [hwb]; exact alloc_new wr _)
   have hsb : w.heap.size <= wb.heap.size := Nat.le_trans HX.out.size HXB.out.size
   obtain ⟨f0, f1, f2, f3, f4, f5, f6, f7, f8, f9, ff⟩ := blk10 hb
   go_upto_region 5 with fail
   rw [<- hwb]
   clear hwb hb c0 c1 c2 c3 c4 c5 c6 c7 c8 c9
   go_wp2_with fail
   refine (HCX.out wb (HX.out.trans HXB.out)).mono ?_
   rintro e w' ⟨rfl, rfl⟩
   cases B
   case false =>
    go_wp2_with fail
    go_roundw
    case rel => exact ⟨k + 1, vs, u, by go_num, by omega, by rw [HST.out]; rfl, by omega, HCR.out, owns_chg HOWN.out (HXB.out.chg []) (by simp), HX.out.trans HXB.out⟩
    case measure => simp [intOf]; omega
   case true =>
    have HO3 := hI (owns_chg HOWN.out (HXB.out.chg []) (by simp))
    go_wp2_with (at_builtin; refine wpList_append_at elemCla rfl _ _ rfl w.heap.size _ u.length _ rfl HO3.out _ 1 1 rfl ?f0 rfl ?f1 ?f2 ?f3 ?f4 ?_)
    case f0 => simp
    case f1 => simp [Value.oneCell']
    case f2 => unfold maxLen; omega
    case f3 => omega
    case f4 => omega
    intro v8 w8 hown8 hc8 hw8
    have HO8 := hI hown8
    have HX8 := hI (hc8.ext (HX.out.trans HXB.out) fun q hq => (HO3.out.lt q (mem_rowOf.1 hq)).1)
    clear hown8 hc8 hw8 f0 f1 f2 f3 f4 f5 f6 f7 f8 f9 ff
    go_wp2_with fail
    go_roundw
    case rel => exact ⟨k + 1, vs ++ [v], u ++ [l[k]], by go_num, by omega, by rw [HST.out]; rfl, by simp; omega, HCR.out.snoc HCL.out, by simpa [ClV.cells] using HO8.out, HX8.out⟩
    case measure => simp [intOf]; omega
  have t1 : decide ((k : Int) < (n : Int)) = false := decide_eq_false (by omega)
  have HQ := hI (show u = ofB ks l by rw [HU.out, List.take_of_length_le (by have := HN.out; omega)])
  have hcl := clas_owns (M := []) HOWN.out (by simp) (HCR.out.mono (HX.out.sub.trans (to_mask_nil _)))
  obtain ⟨a', c', hv, hcl⟩ := hcl
  simp only [Value.slice.injEq, true_and] at hv
  obtain ⟨rfl, rfl⟩ := hv
  have HCL := hI (hcl.mono (mask_sub _ _))
  clear hcl
  go_wp2_with fail
  go_ret
  exact ⟨u, _, _, HQ.out, rfl, HCL.out, HX.out⟩
theorem isIntF_new {W : World} {ks : ZI} {vs : Array Value} {t : TypeId} (hv : vs.toList = ks.map (fun x => Value.int .i64 x)) : IsIntF (W.alloc (.cells vs t)) ks (some ⟨W.heap.size, 0, none⟩) ks.length := by
 refine ⟨rfl, fun i hi => ⟨W.heap.size, 0, rfl, ?_⟩⟩
 rw [Nat.zero_add, blk_cell (alloc_new W (.cells vs t)) i]
 have : vs[i]? = vs.toList[i]? := by simp
 rw [this, hv]
 simp [hi]
theorem dCovers_calls (l : List Cla) (a : OA) (n c : Nat) (w : World) (hl : IsClas w l a n c) (hn : n <= 1000000) :
  Calls Tryz.prog 29 #[.slice a n c] w (OfQ [2] l w) := by
 have HX := hI ((Ext.refl w).alloc (.cells #[.int .i64 2] 3))
 have HOF := hI (of_calls l [2] a n c (some ⟨w.heap.size, 0, none⟩) 1 1 (w.alloc (.cells #[.int .i64 2] 3)) (hl.ext HX.out) hn (isIntF_new rfl) (by omega))
 clear hl
 go_enter Tryz.func29, Tryz.ntmps29
 go_wp2_with fail
 refine HOF.out.mono ?_
 rintro r w1 ⟨u, a', c', hu, rfl, h1, h2⟩
 have HQ := hI (show OfQ [2] l w (.returned (.slice a' u.length c')) w1 from ⟨u, a', c', hu, rfl, h1, HX.out.trans h2⟩)
 clear hu h1 h2
 go_wp2_with fail
 go_ret
 exact HQ.out
theorem dConditions_calls (l : List Cla) (a : OA) (n c : Nat) (w : World) (hl : IsClas w l a n c) (hn : n <= 1000000) :
  Calls Tryz.prog 30 #[.slice a n c] w (OfQ [4] l w) := by
 have HX := hI ((Ext.refl w).alloc (.cells #[.int .i64 4] 3))
 have HOF := hI (of_calls l [4] a n c (some ⟨w.heap.size, 0, none⟩) 1 1 (w.alloc (.cells #[.int .i64 4] 3)) (hl.ext HX.out) hn (isIntF_new rfl) (by omega))
 clear hl
 go_enter Tryz.func30, Tryz.ntmps30
 go_wp2_with fail
 refine HOF.out.mono ?_
 rintro r w1 ⟨u, a', c', hu, rfl, h1, h2⟩
 have HQ := hI (show OfQ [4] l w (.returned (.slice a' u.length c')) w1 from ⟨u, a', c', hu, rfl, h1, HX.out.trans h2⟩)
 clear hu h1 h2
 go_wp2_with fail
 go_ret
 exact HQ.out
theorem dExclusions_calls (l : List Cla) (a : OA) (n c : Nat) (w : World) (hl : IsClas w l a n c) (hn : n <= 1000000) :
  Calls Tryz.prog 31 #[.slice a n c] w (OfQ [3] l w) := by
 have HX := hI ((Ext.refl w).alloc (.cells #[.int .i64 3] 3))
 have HOF := hI (of_calls l [3] a n c (some ⟨w.heap.size, 0, none⟩) 1 1 (w.alloc (.cells #[.int .i64 3] 3)) (hl.ext HX.out) hn (isIntF_new rfl) (by omega))
 clear hl
 go_enter Tryz.func31, Tryz.ntmps31
 go_wp2_with fail
 refine HOF.out.mono ?_
 rintro r w1 ⟨u, a', c', hu, rfl, h1, h2⟩
 have HQ := hI (show OfQ [3] l w (.returned (.slice a' u.length c')) w1 from ⟨u, a', c', hu, rfl, h1, HX.out.trans h2⟩)
 clear hu h1 h2
 go_wp2_with fail
 go_ret
 exact HQ.out
theorem dTerms_calls (l : List Cla) (a : OA) (n c : Nat) (w : World) (hl : IsClas w l a n c) (hn : n <= 1000000) :
  Calls Tryz.prog 32 #[.slice a n c] w (OfQ [5, 6, 7, 8, 9] l w) := by
 have HX := hI ((Ext.refl w).alloc (.cells #[.int .i64 5, .int .i64 6, .int .i64 7, .int .i64 8, .int .i64 9] 3))
 have HOF := hI (of_calls l [5, 6, 7, 8, 9] a n c (some ⟨w.heap.size, 0, none⟩) 5 5 (w.alloc (.cells #[.int .i64 5, .int .i64 6, .int .i64 7, .int .i64 8, .int .i64 9] 3)) (hl.ext HX.out) hn (isIntF_new rfl) (by omega))
 clear hl
 go_enter Tryz.func32, Tryz.ntmps32
 go_wp2_with fail
 refine HOF.out.mono ?_
 rintro r w1 ⟨u, a', c', hu, rfl, h1, h2⟩
 have HQ := hI (show OfQ [5, 6, 7, 8, 9] l w (.returned (.slice a' u.length c')) w1 from ⟨u, a', c', hu, rfl, h1, HX.out.trans h2⟩)
 clear hu h1 h2
 go_wp2_with fail
 go_ret
 exact HQ.out
def PdC (s : List Attr) (l : List Cla) (x : Cla) : Prop := Pd s l x.cond /\ wbsOkT (Pd s l) x.unl /\ x.unl.length <= 1000000000000000
theorem dany_calls {s : List Attr} {l : List Cla} {f : ZI} {lo : LossV} {m : Nat} (L : List Cla) (a : OA) (n c : Nat) (B : Bool) (w : World) (h : DIn w s l f lo m) (hl : IsClas w L a n c) (hn : n <= 1000000) (hp : ∀ x ∈ L, PdC s l x) :
  Calls Tryz.prog 28 #[lo.val, .slice a n c, .bool B] w (GivesE (.bool (L.any fun x => claV (val s l f) x == B)) w) := by
 have HAP := hI (fun (k : Nat) (hk : k < L.length) (v : ClV) (W : World) (hW : Ext w W) (hc : IsCla W L[k] v) => dclause_calls L[k].cond L[k].unl v.kind v.name v.x v.au v.nu v.cu v.amount W (h.ext hW) (hp _ (List.getElem_mem hk)).1 (hp _ (List.getElem_mem hk)).2.1 (by rw [hc.2.2.2.1]; exact (hp _ (List.getElem_mem hk)).2.2) hc.2.2.2.1 hc.2.2.1 hc.2.2.2.2.2.2.1)
 have HL := hI hl
 have HN := hI hl.len
 clear h hl hp
 obtain ⟨R, hR⟩ : ∃ R, R = L.any fun x => claV (val s l f) x == B := ⟨_, rfl⟩
 rw [<- hR]
 have HR := hI hR
 clear hR
 unfold LossV.val at *
 obtain ⟨wa, hwa⟩ : ∃ wa, wa = w.alloc (.cells #[.slice lo.sa lo.sn lo.sc, .map (some lo.bm), .slice lo.fa lo.fn lo.fc] 74) := ⟨_, rfl⟩
 have HXA := hI (show Ext w wa by rw [hwa]; exact (Ext.refl _).alloc _)
 have HA := hI (show wa.heap[w.heap.size]? = some (.cells #[.slice lo.sa lo.sn lo.sc, .map (some lo.bm), .slice lo.fa lo.fn lo.fc] 74 (0, 0)) by rw [hwa]; exact alloc_new w _)
 go_enter Tryz.func28, Tryz.ntmps28
 go_upto_region 1 with fail
 rw [<- hwa]
 clear hwa
 go_wp2_with fail
 go_loopw [11] (fun i wr => ∃ k : Nat, i = .int .i64 k /\ k <= n /\ (∀ j (hj : j < L.length), j < k -> (claV (val s l f) L[j] == B) = false) /\ Ext wa wr) (fun i _ => n - (intOf i).toNat)
 case atStart => exact ⟨0, rfl, Nat.zero_le _, fun _ _ h => by omega, Ext.refl _⟩
 case round =>
  obtain ⟨k, rfl, hk, hne, hx⟩ := hrel
  have HE := hI hne
  have HX := hI hx
  clear hne hx
  by_cases hlt : k < n
  ·have hkl : k < L.length := by have := HN.out; omega
   have t1 : decide ((k : Int) < (n : Int)) = true := decide_eq_true (by omega)
   obtain ⟨cb, coff, v, rfl, hcla, hrow⟩ := HL.out.at hkl
   obtain ⟨c0, c1, c2, c3, c4, c5, c6, c7, c8, c9⟩ := (hrow.mono (HXA.out.trans HX.out).sub).ten
   have HREC := hI (fun W (hW : Ext w W) => HAP.out k hkl v W hW (hcla.mono hW.sub))
   obtain ⟨Q, hQ⟩ : ∃ Q, Q = claV (val s l f) L[k] := ⟨_, rfl⟩
   rw [show (val s l f L[k].cond && !wbsV (val s l f) L[k].unl) = Q from hQ.symm] at HREC
   have HQ := hI hQ
   obtain ⟨wb, hwb⟩ : ∃ wb, wb = wr.alloc (.cells #[.int .i64 v.kind, .string v.name, .int .i64 v.x.op, .string v.x.name, .slice v.x.aw v.x.nw v.x.cw, .int .i64 v.x.lo, .int .i64 v.x.hi, .slice v.x.aa v.x.na v.x.ca, .slice v.au v.nu v.cu, .int .i64 v.amount] 48) := ⟨_, rfl⟩
   have HXB := hI (show Ext wr wb by rw [hwb]; exact (Ext.refl _).alloc _)
   have hb := (show wb.heap[wr.heap.size]? = some (.cells #[.int .i64 v.kind, .string v.name, .int .i64 v.x.op, .string v.x.name, .slice v.x.aw v.x.nw v.x.cw, .int .i64 v.x.lo, .int .i64 v.x.hi, .slice v.x.aa v.x.na v.x.ca, .slice v.au v.nu v.cu, .int .i64 v.amount] 48 (0, 0)) by rw [hwb]; exact alloc_new wr _)
   obtain ⟨x0, x1, x2, xf⟩ := blk3 (HXB.out.blk (HX.out.blk HA.out))
   obtain ⟨f0, f1, f2, f3, f4, f5, f6, f7, f8, f9, ff⟩ := blk10 hb
   go_upto_region 4 with fail
   rw [<- hwb]
   clear hwb hb c0 c1 c2 c3 c4 c5 c6 c7 c8 c9 hcla hrow hQ
   go_wp2_with fail
   refine (HREC.out wb ((HXA.out.trans HX.out).trans HXB.out)).mono ?_
   rintro e w5 ⟨rfl, hx5⟩
   have HX5 := hI ((HX.out.trans HXB.out).trans hx5)
   clear hx5 f0 f1 f2 f3 f4 f5 f6 f7 f8 f9 ff x0 x1 x2 xf
   cases hqb : (Q == B)
   ·go_wp2_with fail
    go_roundw
    case rel =>
     refine ⟨k + 1, by go_num, by omega, ?_, HX5.out⟩
     intro j hj hj2
     by_cases hjk : j < k
     ·exact HE.out j hj hjk
     obtain rfl : j = k := by omega
     rw [<- HQ.out]; exact hqb
    case measure => simp [intOf]; omega
   have HH := hI (show R = true by rw [HR.out]; exact List.any_eq_true.2 ⟨_, List.getElem_mem hkl, by rw [<- HQ.out]; exact hqb⟩)
   go_wp2_with fail
   go_ret
   exact givesE_bool HH.out.symm (HXA.out.trans HX5.out)
  have t1 : decide ((k : Int) < (n : Int)) = false := decide_eq_false (by omega)
  have HH := hI (show R = false by
   rw [HR.out, List.any_eq_false]
   intro x hx
   obtain ⟨j, hj, rfl⟩ := List.getElem_of_mem hx
   rw [HE.out j hj (by have := HN.out; omega)]; simp)
  go_wp2_with fail
  go_ret
  exact givesE_bool HH.out.symm (HXA.out.trans HX.out)
def insS (d : Dec) (c : Cla) : Dec :=
 if c.kind = 5 then (if d.lim < 0 \/ c.amount < d.lim then { d with lim := c.amount } else d)
 else if c.kind = 6 then { d with ded := max d.ded c.amount }
 else if c.kind = 7 then { d with fra := max d.fra c.amount }
 else if c.kind = 8 then { d with coi := max d.coi c.amount }
 else if c.kind = 9 then { d with avg := true } else d
def insB (d : Dec) (L : List Cla) : Dec := L.foldl insS d
theorem insB_take (d : Dec) {L : List Cla} {k : Nat} (hk : k < L.length) : insB d (L.take (k + 1)) = insS (insB d (L.take k)) L[k] := by
 unfold insB
 rw [List.take_succ_eq_append_getElem hk, List.foldl_append]
 rfl
def kindsT : ZI := [5, 6, 7, 8, 9]
theorem insS_if (V : Ex -> Bool) (d : Dec) (x : Cla) : (if (kindsT.any (· == x.kind) && claV V x) = true then insS d x else d) = ⟨d.ver, limS V d.lim x, greatS V 6 d.ded x, greatS V 7 d.fra x, greatS V 8 d.coi x, d.avg || (x.kind == 9 && (claV V x != false))⟩ := by
 unfold limS greatS insS kindsT
 obtain ⟨kd, nm, c, u, am⟩ := x
 obtain ⟨a, b, d6, d7, d8, d9⟩ := d
 simp only [List.any_cons, List.any_nil, Bool.or_false]
 generalize claV V ⟨kd, nm, c, u, am⟩ = Q
 by_cases h5 : kd = 5
 ·subst h5; cases Q <;> simp <;> (split <;> rfl)
 by_cases h6 : kd = 6
 ·subst h6; cases Q <;> simp
 by_cases h7 : kd = 7
 ·subst h7; cases Q <;> simp
 by_cases h8 : kd = 8
 ·subst h8; cases Q <;> simp
 by_cases h9 : kd = 9
 ·subst h9; cases Q <;> simp
 have e5 : ((5 : Int) == kd) = false := by simp; omega
 have e6 : ((6 : Int) == kd) = false := by simp; omega
 have e7 : ((7 : Int) == kd) = false := by simp; omega
 have e8 : ((8 : Int) == kd) = false := by simp; omega
 have e9 : ((9 : Int) == kd) = false := by simp; omega
 have f5 : (kd == 5) = false := by simp; omega
 have f6 : (kd == 6) = false := by simp; omega
 have f7 : (kd == 7) = false := by simp; omega
 have f8 : (kd == 8) = false := by simp; omega
 have f9 : (kd == 9) = false := by simp; omega
 simp [e5, e6, e7, e8, e9, f5, f6, f7, f8, f9]
theorem insB_terms (V : Ex -> Bool) : (l : List Cla) -> (d : Dec) -> insB d ((ofB kindsT l).filter (claV V)) = ⟨d.ver, l.foldl (limS V) d.lim, l.foldl (greatS V 6) d.ded, l.foldl (greatS V 7) d.fra, l.foldl (greatS V 8) d.coi, d.avg || someB V 9 false l⟩
 | [], d => by cases d; simp [insB, ofB, someB]
 | x :: r, d => by
  have ih := insB_terms V r (if (kindsT.any (· == x.kind) && claV V x) = true then insS d x else d)
  have e : insB d ((ofB kindsT (x :: r)).filter (claV V)) = insB (if (kindsT.any (· == x.kind) && claV V x) = true then insS d x else d) ((ofB kindsT r).filter (claV V)) := by
   unfold ofB
   rw [List.filter_cons]
   cases kindsT.any (· == x.kind)
   ·simp
   cases hq : claV V x
   ·simp [hq]
   simp [hq, insB]
  rw [e, ih, insS_if]
  simp only [List.foldl_cons, someB, Bool.or_assoc]
theorem someB_of (V : Ex -> Bool) (k : Int) (neg B : Bool) (hB : B = !neg) : (l : List Cla) -> ((ofB [k] l).any fun x => claV V x == B) = someB V k neg l
 | [] => rfl
 | x :: r => by
  have ih := someB_of V k neg B hB r
  rw [someB, <- ih]
  unfold ofB
  rw [List.filter_cons]
  have e : ([k].any (· == x.kind)) = (x.kind == k) := by
   simp only [List.any_cons, List.any_nil, Bool.or_false]
   by_cases h : x.kind = k
   ·rw [h]
   rw [beq_eq_false_iff_ne.2 h, beq_eq_false_iff_ne.2 (fun e => h e.symm)]
  rw [e]
  cases x.kind == k
  ·simp
  subst hB
  rw [if_pos rfl, List.any_cons]
  congr 1
  cases claV V x <;> cases neg <;> rfl
theorem decO_set {w : World} {B : Nat} {d d' : Dec} (i : Nat) (v : Value) (h : w.heap[B]? = some (DecO d)) (e : d.cells.setIfInBounds i v = d'.cells) : (w.setCell ⟨B, i, none⟩ v).heap[B]? = some (DecO d') := by
 have := heap_setCell_same w B i _ _ v h
 rw [e] at this
 exact this
theorem insured_calls (L : List Cla) (a : OA) (n c : Nat) (w : World) (hl : IsClas w L a n c) (hn : n <= 1000000) :
  Calls Tryz.prog 34 #[.slice a n c] w (GivesE (.agg (insB ⟨4, -1, 0, 0, 0, false⟩ L).cells) w) := by
 have HL := hI hl
 have HN := hI hl.len
 obtain ⟨D0, hD0⟩ : ∃ D0 : Dec, D0 = ⟨4, -1, 0, 0, 0, false⟩ := ⟨_, rfl⟩
 rw [<- hD0]
 obtain ⟨R, hR⟩ : ∃ R, R = insB D0 L := ⟨_, rfl⟩
 rw [<- hR]
 have HR := hI hR
 have HD0 := hI hD0
 clear hl hR hD0
 obtain ⟨wa, hwa⟩ : ∃ wa, wa = (w.alloc (.cells #[.int .i64 0, .int .i64 0, .int .i64 0, .int .i64 0, .int .i64 0, .bool false] 29)).alloc (.cells #[.int .i64 4, .int .i64 (-1), .int .i64 0, .int .i64 0, .int .i64 0, .bool false] 29) := ⟨_, rfl⟩
 have HXA := hI (show Ext w wa by rw [hwa]; exact ((Ext.refl _).alloc _).alloc _)
 have HA := hI (show wa.heap[w.heap.size]? = some (DecO ⟨0, 0, 0, 0, 0, false⟩) by rw [hwa]; exact blk_alloc (alloc_new w _))
 have HB := hI (show wa.heap[w.heap.size + 1]? = some (DecO D0) by rw [hwa, HD0.out]; exact alloc_atR (by simp))
 go_enter Tryz.func34, Tryz.ntmps34
 go_upto_region 2 with fail
 rw [<- hwa]
 clear hwa
 obtain ⟨b0, hb0⟩ : ∃ b0, b0 = w.heap.size := ⟨_, rfl⟩
 rw [<- hb0] at HA HB ⊢
 have hlo : w.heap.size <= b0 := by omega
 clear hb0
 go_wp2_with fail
 go_loopw [9] (fun i wr => ∃ (k : Nat) (d : Dec), i = .int .i64 k /\ k <= n /\ d = insB D0 (L.take k) /\ wr.heap[b0]? = some (DecO ⟨0, 0, 0, 0, 0, false⟩) /\ wr.heap[b0 + 1]? = some (DecO d) /\ Ext w wr) (fun i _ => n - (intOf i).toNat)
 case atStart => exact ⟨0, D0, rfl, Nat.zero_le _, rfl, HA.out, HB.out, HXA.out⟩
 case round =>
  obtain ⟨k, d, rfl, hk, hd, h0, h1, hx⟩ := hrel
  have HD := hI hd
  have H0 := hI h0
  have H1 := hI h1
  have HX := hI hx
  have hlt1 := blk_lt h1
  clear hd h0 h1 hx HA HB HXA
  by_cases hlt : k < n
  ·have hkl : k < L.length := by have := HN.out; omega
   have t1 : decide ((k : Int) < (n : Int)) = true := decide_eq_true (by omega)
   obtain ⟨cb, coff, v, rfl, hcla, hrow⟩ := HL.out.at hkl
   obtain ⟨c0, c1, c2, c3, c4, c5, c6, c7, c8, c9⟩ := (hrow.mono HX.out.sub).ten
   have HST := hI (show insB D0 (L.take (k + 1)) = insS d L[k] by rw [insB_take D0 hkl, HD.out])
   have hvk : v.kind = L[k].kind := hcla.1
   have hva : v.amount = L[k].amount := hcla.2.2.2.2.2.2.2
   unfold insS at HST
   rw [<- hvk, <- hva] at HST
   clear hcla hrow hvk hva
   obtain ⟨wb, hwb⟩ : ∃ wb, wb = wr.alloc (.cells #[.int .i64 v.kind, .string v.name, .int .i64 v.x.op, .string v.x.name, .slice v.x.aw v.x.nw v.x.cw, .int .i64 v.x.lo, .int .i64 v.x.hi, .slice v.x.aa v.x.na v.x.ca, .slice v.au v.nu v.cu, .int .i64 v.amount] 48) := ⟨_, rfl⟩
   have HXB := hI (show Ext wr wb by rw [hwb]; exact (Ext.refl _).alloc _)
   have hb := (show wb.heap[wr.heap.size]? = some (.cells #[.int .i64 v.kind, .string v.name, .int .i64 v.x.op, .string v.x.name, .slice v.x.aw v.x.nw v.x.cw, .int .i64 v.x.lo, .int .i64 v.x.hi, .slice v.x.aa v.x.na v.x.ca, .slice v.au v.nu v.cu, .int .i64 v.amount] 48 (0, 0)) by rw [hwb]; exact alloc_new wr _)
   obtain ⟨f0, f1, f2, f3, f4, f5, f6, f7, f8, f9, ff⟩ := blk10 hb
   have G0 := hI (HXB.out.blk H0.out)
   have G1 := hI (HXB.out.blk H1.out)
   have HXX := hI (HX.out.trans HXB.out)
   have g1 := G1.out
   unfold DecO Dec.cells at g1
   obtain ⟨d0, d1, d2, d3, d4, d5, df⟩ := blk6d g1
   go_upto_region 5 with fail
   rw [<- hwb]
   clear hwb hb c0 c1 c2 c3 c4 c5 c6 c7 c8 c9 g1 H0 H1 HX HXB
   by_cases k5 : v.kind = 5
   ·have q5 : (v.kind == 5) = true := by simp [k5]
    rw [if_pos k5] at HST
    clear k5
    cases t2 : decide (d.lim < 0)
    ·cases t3 : decide (v.amount < d.lim)
     ·have HQ := hI (show insB D0 (L.take (k + 1)) = d by rw [HST.out, if_neg]; simp only [decide_eq_false_iff_not] at t2 t3; omega)
      go_wp2_with fail
      go_roundw
      case rel => exact ⟨k + 1, d, by go_num, by omega, HQ.out.symm, G0.out, G1.out, HXX.out⟩
      case measure => simp [intOf]; omega
     have HQ := hI (show insB D0 (L.take (k + 1)) = { d with lim := v.amount } by rw [HST.out, if_pos (Or.inr (of_decide_eq_true t3))])
     go_wp2_with fail
     go_roundw
     case rel => exact ⟨k + 1, { d with lim := v.amount }, by go_num, by omega, HQ.out.symm, (show Chg [b0 + 1] wb (wb.setCell ⟨b0 + 1, 1, none⟩ (.int .i64 v.amount)) from (Chg.refl _ _).setCell (Or.inl (by simp)) _).blk G0.out (by simp), decO_set 1 (.int .i64 v.amount) G1.out rfl, (show Chg [b0 + 1] wb (wb.setCell ⟨b0 + 1, 1, none⟩ (.int .i64 v.amount)) from (Chg.refl _ _).setCell (Or.inl (by simp)) _).ext HXX.out (by simp; omega)⟩
     case measure => simp [intOf]; omega
    have HQ := hI (show insB D0 (L.take (k + 1)) = { d with lim := v.amount } by rw [HST.out, if_pos (Or.inl (of_decide_eq_true t2))])
    go_wp2_with fail
    go_roundw
    case rel => exact ⟨k + 1, { d with lim := v.amount }, by go_num, by omega, HQ.out.symm, (show Chg [b0 + 1] wb (wb.setCell ⟨b0 + 1, 1, none⟩ (.int .i64 v.amount)) from (Chg.refl _ _).setCell (Or.inl (by simp)) _).blk G0.out (by simp), decO_set 1 (.int .i64 v.amount) G1.out rfl, (show Chg [b0 + 1] wb (wb.setCell ⟨b0 + 1, 1, none⟩ (.int .i64 v.amount)) from (Chg.refl _ _).setCell (Or.inl (by simp)) _).ext HXX.out (by simp; omega)⟩
    case measure => simp [intOf]; omega
   have q5 : (v.kind == 5) = false := by simp [k5]
   rw [if_neg k5] at HST
   clear k5
   by_cases k6 : v.kind = 6
   ·have q6 : (v.kind == 6) = true := by simp [k6]
    rw [if_pos k6] at HST
    have HQ := hI (show insB D0 (L.take (k + 1)) = { d with ded := max d.ded v.amount } from HST.out)
    clear k6
    go_wp2_with fail
    go_roundw
    case rel => exact ⟨k + 1, { d with ded := max d.ded v.amount }, by go_num, by omega, HQ.out.symm, (show Chg [b0 + 1] wb (wb.setCell ⟨b0 + 1, 2, none⟩ (.int .i64 (max d.ded v.amount))) from (Chg.refl _ _).setCell (Or.inl (by simp)) _).blk G0.out (by simp), decO_set 2 (.int .i64 (max d.ded v.amount)) G1.out rfl, (show Chg [b0 + 1] wb (wb.setCell ⟨b0 + 1, 2, none⟩ (.int .i64 (max d.ded v.amount))) from (Chg.refl _ _).setCell (Or.inl (by simp)) _).ext HXX.out (by simp; omega)⟩
    case measure => simp [intOf]; omega
   have q6 : (v.kind == 6) = false := by simp [k6]
   rw [if_neg k6] at HST
   clear k6
   by_cases k7 : v.kind = 7
   ·have q7 : (v.kind == 7) = true := by simp [k7]
    rw [if_pos k7] at HST
    have HQ := hI (show insB D0 (L.take (k + 1)) = { d with fra := max d.fra v.amount } from HST.out)
    clear k7
    go_wp2_with fail
    go_roundw
    case rel => exact ⟨k + 1, { d with fra := max d.fra v.amount }, by go_num, by omega, HQ.out.symm, (show Chg [b0 + 1] wb (wb.setCell ⟨b0 + 1, 3, none⟩ (.int .i64 (max d.fra v.amount))) from (Chg.refl _ _).setCell (Or.inl (by simp)) _).blk G0.out (by simp), decO_set 3 (.int .i64 (max d.fra v.amount)) G1.out rfl, (show Chg [b0 + 1] wb (wb.setCell ⟨b0 + 1, 3, none⟩ (.int .i64 (max d.fra v.amount))) from (Chg.refl _ _).setCell (Or.inl (by simp)) _).ext HXX.out (by simp; omega)⟩
    case measure => simp [intOf]; omega
   have q7 : (v.kind == 7) = false := by simp [k7]
   rw [if_neg k7] at HST
   clear k7
   by_cases k8 : v.kind = 8
   ·have q8 : (v.kind == 8) = true := by simp [k8]
    rw [if_pos k8] at HST
    have HQ := hI (show insB D0 (L.take (k + 1)) = { d with coi := max d.coi v.amount } from HST.out)
    clear k8
    go_wp2_with fail
    go_roundw
    case rel => exact ⟨k + 1, { d with coi := max d.coi v.amount }, by go_num, by omega, HQ.out.symm, (show Chg [b0 + 1] wb (wb.setCell ⟨b0 + 1, 4, none⟩ (.int .i64 (max d.coi v.amount))) from (Chg.refl _ _).setCell (Or.inl (by simp)) _).blk G0.out (by simp), decO_set 4 (.int .i64 (max d.coi v.amount)) G1.out rfl, (show Chg [b0 + 1] wb (wb.setCell ⟨b0 + 1, 4, none⟩ (.int .i64 (max d.coi v.amount))) from (Chg.refl _ _).setCell (Or.inl (by simp)) _).ext HXX.out (by simp; omega)⟩
    case measure => simp [intOf]; omega
   have q8 : (v.kind == 8) = false := by simp [k8]
   rw [if_neg k8] at HST
   clear k8
   by_cases k9 : v.kind = 9
   ·have q9 : (v.kind == 9) = true := by simp [k9]
    rw [if_pos k9] at HST
    clear k9
    go_wp2_with fail
    go_roundw
    case rel => exact ⟨k + 1, { d with avg := true }, by go_num, by omega, HST.out.symm, (show Chg [b0 + 1] wb (wb.setCell ⟨b0 + 1, 5, none⟩ (.bool true)) from (Chg.refl _ _).setCell (Or.inl (by simp)) _).blk G0.out (by simp), decO_set 5 (.bool true) G1.out rfl, (show Chg [b0 + 1] wb (wb.setCell ⟨b0 + 1, 5, none⟩ (.bool true)) from (Chg.refl _ _).setCell (Or.inl (by simp)) _).ext HXX.out (by simp; omega)⟩
    case measure => simp [intOf]; omega
   have q9 : (v.kind == 9) = false := by simp [k9]
   rw [if_neg k9] at HST
   clear k9
   go_wp2_with fail
   go_roundw
   case rel => exact ⟨k + 1, d, by go_num, by omega, HST.out.symm, G0.out, G1.out, HXX.out⟩
   case measure => simp [intOf]; omega
  have t1 : decide ((k : Int) < (n : Int)) = false := decide_eq_false (by omega)
  have HQ := hI (show R = d by rw [HR.out, HD.out, List.take_of_length_le (by have := HN.out; omega)])
  have h1 := H1.out
  have h0 := H0.out
  unfold DecO Dec.cells at h0 h1
  obtain ⟨d0, d1, d2, d3, d4, d5, df⟩ := blk6d h1
  obtain ⟨z0, z1, z2, z3, z4, z5, zf⟩ := blk6d h0
  go_wp2_with fail
  obtain ⟨w8, hw8⟩ : ∃ w8, w8 = put6d wr b0 (.int .i64 d.ver) (.int .i64 d.lim) (.int .i64 d.ded) (.int .i64 d.fra) (.int .i64 d.coi) (.bool d.avg) := ⟨_, rfl⟩
  have HX8 := hI (show Ext w w8 by rw [hw8]; exact (put6d_chg _ _).ext HX.out (by simp; omega))
  have h8 : w8.heap[b0]? = some (.cells #[.int .i64 d.ver, .int .i64 d.lim, .int .i64 d.ded, .int .i64 d.fra, .int .i64 d.coi, .bool d.avg] 29 (0, 0)) := by rw [hw8]; exact put6d_blk h0
  unfold put6d at hw8
  rw [<- hw8]
  clear hw8 z0 z1 z2 z3 z4 z5 zf h0 h1
  obtain ⟨z0, z1, z2, z3, z4, z5, zf⟩ := blk6d h8
  refine bodyPost_ret (v := .agg R.cells) (by rw [HQ.out]; simp [results, Tryz.results34, go_sem, Dec.cells, z0, z1, z2, z3, z4, z5]) rfl ?_
  exact ⟨rfl, HX8.out⟩
end Go.Proofs.YtefjomofjejklaaGreatDoor
