/-
  Texts of the claim, joined: PPrv.
-/
import Derived.Test.YtpkljcgihobaiaaGreatDoorPv04
namespace Go.Proofs.YtpkljcgihobaiaaGreatDoor
set_option maxRecDepth 100000
set_option maxHeartbeats 32000000
open Go.RowKit
def prv10R (v : WorldV) (e0 : Ex) (aw : OA) (nw cw : Nat) (aa : OA) (na ca : Nat) (_b3 b5 _b7 _b9 : Nat) (P : Pr) (qb : Bool) (qk : Int) (qa : OA) (qn qc : Nat) : Nat -> Value -> World -> Prop
 | 0, u, _ => u = .agg #[.bool qb, .int .i64 qk, .slice qa qn qc]
 | 1, u, _ => u = .pointer (some ⟨b5, 0, none⟩)
 | 2, u, _ => u = .agg #[.slice v.sa v.sn v.sc]
 | 3, u, _ => u = .pointer (some ⟨b5, 1, none⟩)
 | 4, u, _ => u = .slice v.la v.ln v.lc
 | 5, u, _ => u = .agg #[.int .i64 e0.op, .string e0.name, .slice aw nw cw, .int .i64 e0.lo, .int .i64 e0.hi, .slice aa na ca]
 | 6, u, _ => u = .pointer (some ⟨b5, 8, none⟩)
 | 7, u, _ => u = .slice v.fa v.fn v.fc
 | 8, u, W => ∃ (qv : PrV), u = .agg #[.bool qv.value, .int .i64 qv.pick, .slice qv.a qv.n qv.c] /\ IsPr W P qv
 | 9, u, _ => u = .bool true
 | 10, u, _ => u = .bool true
 | 11, u, _ => u = .bool true
 | 12, u, _ => u = .bool true
 | _, u, _ => u = .bool true
def prv11R (v : WorldV) (_e0 : Ex) (_aw : OA) (_nw _cw : Nat) (_aa : OA) (_na _ca : Nat) (_b3 b5 _b7 b9 : Nat) (PX : Pr) (pb : Bool) (pk : Int) (pa : OA) (pn pc : Nat) (_qb : Bool) (_qk : Int) : Nat -> Value -> World -> Prop
 | 0, u, _ => u = .int .i64 0
 | 1, u, _ => u = .bool true
 | 2, u, _ => u = .bool true
 | 3, u, _ => u = .agg #[.bool pb, .int .i64 pk, .slice pa pn pc]
 | 4, u, _ => u = .pointer (some ⟨b5, 0, none⟩)
 | 5, u, _ => u = .agg #[.slice v.sa v.sn v.sc]
 | 6, u, _ => u = .pointer (some ⟨b5, 1, none⟩)
 | 7, u, _ => u = .slice v.la v.ln v.lc
 | 8, u, _ => u = .pointer (some ⟨b5, 2, none⟩)
 | 9, u, _ => u = .agg #[.int .i64 v.x.op, .string v.x.name, .slice v.x.aw v.x.nw v.x.cw, .int .i64 v.x.lo, .int .i64 v.x.hi, .slice v.x.aa v.x.na v.x.ca]
 | 10, u, _ => u = .pointer (some ⟨b5, 8, none⟩)
 | 11, u, _ => u = .slice v.fa v.fn v.fc
 | 12, u, W => ∃ (qv : PrV), u = .agg #[.bool qv.value, .int .i64 qv.pick, .slice qv.a qv.n qv.c] /\ IsPr W PX qv
 | 13, u, _ => u = .bool true
 | 14, u, _ => u = .bool true
 | 15, u, _ => u = .bool true
 | 16, u, _ => u = .pointer (some ⟨b9, 2, none⟩)
 | 17, u, _ => u = .slice none 0 0
 | 18, u, _ => u = .int .i64 0
 | 19, u, _ => u = .bool true
 | 20, u, _ => u = .bool true
 | 21, u, _ => u = .bool true
 | 22, u, _ => u = .bool true
 | 23, u, _ => u = .bool true
 | _, u, _ => u = .bool true
theorem pprove_calls (da : OA) (dn dc : Nat) (e0 : Ex) (ev : Value) (w : World) (h1 : IntsAt w da dn) (hd1 : dn <= 1000000000000000) (he : IsEx w e0 ev) (hef : e0.fits) (hew : e0.few) (hes : e0.slim) (ho : HasOps w) :
  Calls Tryz.prog 3 #[.slice da dn dc, ev] w (GivesE (.bool true) w) := by
 have HO := hI ho
 have HAW := hI (fun W (hW : Ext w W) => awake11_calls W (ho.ext hW))
 have HSIZ := hI (fun W (hW : Ext w W) => rsize_calls e0.size e0 ev W (Nat.le_refl _) (he.ext hW))
 have HMA := hI (fun W (hW : Ext w W) => made11_calls da dn dc W (fun i hi => by obtain ⟨b, off, q, e, hc⟩ := h1 i hi; exact ⟨b, off, q, e, hW.cell hc⟩) hd1)
 have HE := hI (And.intro he (And.intro hef (And.intro hew hes)))
 obtain ⟨aw, nw, cw, aa, na, ca, rfl, -⟩ := he.parts
 clear he hef hew hes h1 ho
 unfold exV at *
 obtain ⟨wa, hwa⟩ : ∃ wa, wa = w.alloc (.cells #[.int .i64 e0.op, .string e0.name, .slice aw nw cw, .int .i64 e0.lo, .int .i64 e0.hi, .slice aa na ca] 26) := ⟨_, rfl⟩
 obtain ⟨b3, hb3⟩ : ∃ b3 : Nat, b3 = w.heap.size := ⟨_, rfl⟩
 have hxa : Ext w wa := by rw [hwa]; exact (Ext.refl _).alloc _
 have hb1 : wa.heap[b3]? = some (.cells #[.int .i64 e0.op, .string e0.name, .slice aw nw cw, .int .i64 e0.lo, .int .i64 e0.hi, .slice aa na ca] 26 (0, 0)) := by rw [hwa, hb3]; exact alloc_new w _
 have HXA := hI hxa
 have HB1 := hI hb1
 obtain ⟨x0, x1, x2, x3, x4, x5, xf⟩ := blk6 hb1
 clear hxa hb1
 go_enter Tryz.func3, Tryz.ntmps3
 go_upto_region 1 with fail
 rw [<- hwa, <- hb3]
 clear hwa hb3
 go_wp2_with fail
 refine (HSIZ.out wa HXA.out).mono ?_
 rintro r w1 ⟨rfl, hx1⟩
 have HX1 := hI (HXA.out.trans hx1)
 have HB11 := hI (hx1.blk HB1.out)
 clear hx1 HSIZ x0 x1 x2 x3 x4 x5 xf HB1 HXA
 by_cases g3 : 300 < refSize e0
 ·have t3 : decide ((300 : Int) < (refSize e0 : Int)) = true := decide_eq_true (by omega)
  go_wp2_with fail
  refine (HAW.out w1 HX1.out).mono ?_
  rintro r wz ⟨rfl, hxz⟩
  have HXZ := hI (HX1.out.trans hxz)
  clear hxz
  go_wp2_with fail
  go_ret
  exact ⟨rfl, HXZ.out⟩
 have t3 : decide ((300 : Int) < (refSize e0 : Int)) = false := decide_eq_false (by omega)
 go_wp2_with fail
 refine (HMA.out w1 HX1.out).mono ?_
 rintro r w2 ⟨s, l, x, f, v, bd, rfl, hiw, -, hx2⟩
 have HIW := hI (hiw.mono (mask_sub _ _))
 have HX2 := hI (HX1.out.trans hx2)
 have HB12 := hI (hx2.blk HB11.out)
 clear hiw hx2 HMA HX1 HB11
 unfold WorldV.val
 go_upto_region 4 with fail
 obtain ⟨b5, hb5⟩ : ∃ b5 : Nat, b5 = w2.heap.size := ⟨_, rfl⟩
 obtain ⟨w3, hw3⟩ : ∃ w3, w3 = w2.alloc (.cells #[.slice v.sa v.sn v.sc, .slice v.la v.ln v.lc, .int .i64 v.x.op, .string v.x.name, .slice v.x.aw v.x.nw v.x.cw, .int .i64 v.x.lo, .int .i64 v.x.hi, .slice v.x.aa v.x.na v.x.ca, .slice v.fa v.fn v.fc] 34) := ⟨_, rfl⟩
 have hx3 : Ext w2 w3 := by rw [hw3]; exact (Ext.refl _).alloc _
 have HBW := hI (show w3.heap[b5]? = some (.cells #[.slice v.sa v.sn v.sc, .slice v.la v.ln v.lc, .int .i64 v.x.op, .string v.x.name, .slice v.x.aw v.x.nw v.x.cw, .int .i64 v.x.lo, .int .i64 v.x.hi, .slice v.x.aa v.x.na v.x.ca, .slice v.fa v.fn v.fc] 34 (0, 0)) by rw [hw3, hb5]; exact alloc_new w2 _)
 rw [<- hw3, <- hb5]
 clear hw3 hb5
 have HIW3 := hI (HIW.out.mono hx3.sub)
 have HX3 := hI (HX2.out.trans hx3)
 have HB13 := hI (hx3.blk HB12.out)
 clear hx3 HIW HX2 HB12
 obtain ⟨c0, c1, c2, c3, c4, c5, c6, c7, c8, cf⟩ := blk9 HBW.out
 have HP1 := hI (proved_calls s l x f _ _ _ _ v.lc _ _ v.fc [] w3 (HIW3.out.own11 (HO.out.ext HX3.out)) (by simp))
 unfold ExV.val exV at HP1
 go_wp2_with fail
 refine HP1.out.mono ?_
 rintro r w4 ⟨hx4, ⟨hz, -⟩ | ⟨-, pv, rfl, hpv⟩⟩
 ·exact absurd HIW3.out.ok.err hz
 have HPV := hI (show IsPr w4 (pf s l f x) pv from hpv.mono (mask_sub _ _))
 have HIW4 := hI (HIW3.out.mono hx4.sub)
 have HX4 := hI (HX3.out.trans hx4)
 have HB14 := hI (hx4.blk HB13.out)
 have HBW4 := hI (hx4.blk HBW.out)
 clear hx4 hpv c0 c1 c2 c3 c4 c5 c6 c7 c8 cf HP1 HIW3 HX3 HB13 HBW
 obtain ⟨pb, pk, pa, pn, pc⟩ := pv
 unfold PrV.val
 go_upto_region 5 with fail
 obtain ⟨b7, hb7⟩ : ∃ b7 : Nat, b7 = w4.heap.size := ⟨_, rfl⟩
 obtain ⟨w5, hw5⟩ : ∃ w5, w5 = w4.alloc (.cells #[.bool pb, .int .i64 pk, .slice pa pn pc] 40) := ⟨_, rfl⟩
 have hx5 : Ext w4 w5 := by rw [hw5]; exact (Ext.refl _).alloc _
 have HBP := hI (show w5.heap[b7]? = some (.cells #[.bool pb, .int .i64 pk, .slice pa pn pc] 40 (0, 0)) by rw [hw5, hb7]; exact alloc_new w4 _)
 rw [<- hw5, <- hb7]
 clear hw5 hb7
 have HIW5 := hI (HIW4.out.mono hx5.sub)
 have HX5 := hI (HX4.out.trans hx5)
 have HB15 := hI (hx5.blk HB14.out)
 have HBW5 := hI (hx5.blk HBW4.out)
 have HPV5 := hI (HPV.out.ext hx5)
 clear hx5 HIW4 HX4 HB14 HBW4 HPV
 obtain ⟨c0, c1, c2, c3, c4, c5, c6, c7, c8, cf⟩ := blk9 HBW5.out
 obtain ⟨x0, x1, x2, x3, x4, x5, xf⟩ := blk6 HB15.out
 have HIN := hI (fun W (hW : Ext w5 W) => (HIW5.out.mono hW.sub).in11 (HO.out.ext (HX5.out.trans hW)) (HE.out.1.ext (HX5.out.trans hW)) HE.out.2.2.1 HE.out.2.1 HE.out.2.2.2 (HIW5.out.ints.mono hW.sub) (by have := HIW5.out.fnl; omega))
 have HP2 := hI (proved_calls s l e0 f _ _ _ _ v.lc _ _ v.fc [] w5 (HIN.out w5 (Ext.refl _)) (by simp))
 have HEV := hI (fun W (hW : Ext w5 W) => (HIN.out W hW).evalError (c := v.lc) v.fc)
 have HROK := hI (show ∀ W, Ext w5 W -> evalErr s l e0 f = 0 -> Calls Tryz.prog 16 #[.agg #[.slice v.sa v.sn v.sc], .slice v.la v.ln v.lc, exV e0.op e0.name aw nw cw e0.lo e0.hi aa na ca, .slice v.fa v.fn v.fc] W (ProveQ (pf s l f e0) [] W) from fun W hW h0 => (evalErr_ok h0).rproof (attrs_fits HIW5.out.mem) v.fc (HIW5.out.sch.mono hW.sub) (HIW5.out.clas.mono hW.sub) (HIW5.out.ints.mono hW.sub) (HE.out.1.ext (HX5.out.trans hW)))
 have HRW := hI (fun W (hW : Ext w5 W) => HIW5.out.ok.rproof (attrs_fits HIW5.out.mem) v.fc (HIW5.out.sch.mono hW.sub) (HIW5.out.clas.mono hW.sub) (HIW5.out.ints.mono hW.sub) (HIW5.out.ex.mono hW.sub))
 have HFIX := hI (show (pf s l f x).fit from pfF_fit HIW5.out.ok.chk _ x (Nat.le_trans HIW5.out.ok.size (by omega)))
 have HFIE := hI (show evalErr s l e0 f = 0 -> (pf s l f e0).fit from fun h0 => pfF_fit (evalErr_ok h0).chk _ e0 (Nat.le_trans (evalErr_ok h0).size (by omega)))
 unfold ProvedQ at HP2
 obtain ⟨E, hE⟩ : ∃ E, E = evalErr s l e0 f := ⟨_, rfl⟩
 rw [<- hE] at HP2 HROK HEV HFIE
 obtain ⟨P, hP⟩ : ∃ P, P = pf s l f e0 := ⟨_, rfl⟩
 rw [<- hP] at HP2 HROK HFIE
 obtain ⟨PX, hPX⟩ : ∃ P, P = pf s l f x := ⟨_, rfl⟩
 rw [<- hPX] at HRW HFIX HPV5
 have HEE := hI hE
 unfold ExV.val exV at *
 clear hE hP hPX HIN
 go_wp2_with fail
 refine HP2.out.mono ?_
 rintro r w6 ⟨hx6, hq⟩
 have HX6 := hI (HX5.out.trans hx6)
 have HB16 := hI (hx6.blk HB15.out)
 have HBW6 := hI (hx6.blk HBW5.out)
 have HBP6 := hI (hx6.blk HBP.out)
 have H56 := hI hx6
 clear hx6 c0 c1 c2 c3 c4 c5 c6 c7 c8 cf x0 x1 x2 x3 x4 x5 xf HP2 HB15 HBW5 HBP HX5
 obtain ⟨qb, qk, qa, qn, qc, hr, hqq⟩ : ∃ qb qk qa qn qc, r = .returned (.tuple #[.agg #[.bool qb, .int .i64 qk, .slice qa qn qc], .int .i64 E]) /\ ((E ≠ 0 /\ qa = none /\ qn = 0 /\ qc = 0) \/ (E = 0 /\ IsPr w6 P ⟨qb, qk, qa, qn, qc⟩)) := by
  rcases hq with ⟨hz, rfl⟩ | ⟨hz, qv, rfl, hqv⟩
  ·exact ⟨false, 0, none, 0, 0, rfl, Or.inl ⟨hz, rfl, rfl, rfl⟩⟩
  exact ⟨qv.value, qv.pick, qv.a, qv.n, qv.c, by rw [hz]; rfl, Or.inr ⟨hz, hqv.mono (mask_sub _ _)⟩⟩
 subst hr
 have HQQ := hI hqq
 clear hq hqq
 go_upto_region 6 with fail
 obtain ⟨b9, hb9⟩ : ∃ b9 : Nat, b9 = w6.heap.size := ⟨_, rfl⟩
 obtain ⟨w7, hw7⟩ : ∃ w7, w7 = w6.alloc (.cells #[.bool qb, .int .i64 qk, .slice qa qn qc] 40) := ⟨_, rfl⟩
 have hx7 : Ext w6 w7 := by rw [hw7]; exact (Ext.refl _).alloc _
 have HBQ := hI (show w7.heap[b9]? = some (.cells #[.bool qb, .int .i64 qk, .slice qa qn qc] 40 (0, 0)) by rw [hw7, hb9]; exact alloc_new w6 _)
 rw [<- hw7, <- hb9]
 clear hw7 hb9
 have H57 := hI (H56.out.trans hx7)
 have HX7 := hI (HX6.out.trans hx7)
 have HB17 := hI (hx7.blk HB16.out)
 have HBW7 := hI (hx7.blk HBW6.out)
 have HBP7 := hI (hx7.blk HBP6.out)
 have H67 := hI hx7
 clear hx7 HB16 HBW6 HBP6 H56 HX6
 obtain ⟨c0, c1, c2, c3, c4, c5, c6, c7, c8, cf⟩ := blk9 HBW7.out
 obtain ⟨x0, x1, x2, x3, x4, x5, xf⟩ := blk6 HB17.out
 go_wp2_with fail
 refine (HEV.out w7 H57.out).mono ?_
 rintro r w8 ⟨rfl, hx8⟩
 have H58 := hI (H57.out.trans hx8)
 have HX8 := hI (HX7.out.trans hx8)
 have HB18 := hI (hx8.blk HB17.out)
 have HBW8 := hI (hx8.blk HBW7.out)
 have HBP8 := hI (hx8.blk HBP7.out)
 have HBQ8 := hI (hx8.blk HBQ.out)
 have H68 := hI (H67.out.trans hx8)
 have HPV8 := hI (HPV5.out.ext H58.out)
 have HAW8 := hI (fun W (hW : Ext w8 W) => HAW.out W (HX8.out.trans hW))
 have HRW8 := hI (fun W (hW : Ext w8 W) => HRW.out W (H58.out.trans hW))
 clear hx8 c0 c1 c2 c3 c4 c5 c6 c7 c8 cf x0 x1 x2 x3 x4 x5 xf HB17 HBW7 HBP7 HBQ H57 HX7 H67 HEV HAW HRW HPV5
 obtain ⟨c0, c1, c2, c3, c4, c5, c6, c7, c8, cf⟩ := blk9 HBW8.out
 obtain ⟨x0, x1, x2, x3, x4, x5, xf⟩ := blk6 HB18.out
 obtain ⟨q0, q1, q2, qf⟩ := blk3 HBQ8.out
 obtain ⟨p0, p1, p2, pf'⟩ := blk3 HBP8.out
 have hee : (E != E) = false := by simp
 rcases HQQ.out with ⟨hz, rfl, rfl, rfl⟩ | ⟨hz, hiq⟩
 ·have t5 : (E == 0) = false := by simp [hz]
  clear hz HROK HFIE HQQ
  go_upto_region 11 with fail
  refine wp_region_growLG (n := 94) (m := 25) [24] (GrGD w8) GrE (GrP (prv11R v e0 aw nw cw aa na ca b3 b5 b7 b9 PX pb pk pa pn pc qb qk)) (by kernel_rfl) (by kernel_rfl) (Nat.le_of_ble_eq_true rfl) ?gd ((Ext.refl w8).drew) ?_ ?_ ?_
  case gd =>
   intro i o j b hi ho hg
   have hi' : i = 0 \/ i = 1 \/ i = 2 \/ i = 3 \/ i = 4 \/ i = 5 \/ i = 6 \/ i = 7 \/ i = 8 \/ i = 9 \/ i = 10 \/ i = 11 \/ i = 12 \/ i = 13 \/ i = 14 \/ i = 15 \/ i = 16 \/ i = 17 \/ i = 18 \/ i = 19 \/ i = 20 \/ i = 21 \/ i = 22 \/ i = 23 \/ i = 24 := by omega
   rcases hi' with rfl | rfl | rfl | rfl | rfl | rfl | rfl | rfl | rfl | rfl | rfl | rfl | rfl | rfl | rfl | rfl | rfl | rfl | rfl | rfl | rfl | rfl | rfl | rfl | rfl <;> (cases ho; first | (cases hg; done) | (cases hg; intro v W h; exact h))
  ·intro i k v W W' hi hk hne hout h hE
   have hE : Ext W W' := hE
   have hi' : i = 0 \/ i = 1 \/ i = 2 \/ i = 3 \/ i = 4 \/ i = 5 \/ i = 6 \/ i = 7 \/ i = 8 \/ i = 9 \/ i = 10 \/ i = 11 \/ i = 12 \/ i = 13 \/ i = 14 \/ i = 15 \/ i = 16 \/ i = 17 \/ i = 18 \/ i = 19 \/ i = 20 \/ i = 21 \/ i = 22 \/ i = 23 \/ i = 24 := by omega
   clear hi hk hne hout
   rcases hi' with rfl | rfl | rfl | rfl | rfl | rfl | rfl | rfl | rfl | rfl | rfl | rfl | rfl | rfl | rfl | rfl | rfl | rfl | rfl | rfl | rfl | rfl | rfl | rfl | rfl
   ·exact h
   ·exact h
   ·exact h
   ·exact h
   ·exact h
   ·exact h
   ·exact h
   ·exact h
   ·exact h
   ·exact h
   ·exact h
   ·exact h
   ·obtain ⟨qv, e0, h⟩ := h
    exact ⟨qv, e0, h.ext hE⟩
   ·exact h
   ·exact h
   ·exact h
   ·exact h
   ·exact h
   ·exact h
   ·exact h
   ·exact h
   ·exact h
   ·exact h
   ·exact h
   exact h
  ·intro q op hq ho L vs W hqL hcL hW hd ρ hρ
   have hq' : q = 0 \/ q = 1 \/ q = 2 \/ q = 3 \/ q = 4 \/ q = 5 \/ q = 6 \/ q = 7 \/ q = 8 \/ q = 9 \/ q = 10 \/ q = 11 \/ q = 12 \/ q = 13 \/ q = 14 \/ q = 15 \/ q = 16 \/ q = 17 \/ q = 18 \/ q = 19 \/ q = 20 \/ q = 21 \/ q = 22 \/ q = 23 \/ q = 24 := by omega
   clear hq
   have o8 : ρ (.tmp 8) = .int .i64 0 := hρ.out 8 rfl
   have i0 := hρ.i 0 70
   have i1 := hρ.i 1 71
   have o7 : ρ (.tmp 7) = .pointer (some ⟨b7, 0, none⟩) := hρ.out 7 rfl
   have o5 : ρ (.tmp 5) = .pointer (some ⟨b5, 0, none⟩) := hρ.out 5 rfl
   have i4 := hρ.i 4 74
   have i6 := hρ.i 6 76
   have i8 := hρ.i 8 78
   have i10 := hρ.i 10 80
   have i5 := hρ.i 5 75
   have i7 := hρ.i 7 77
   have i9 := hρ.i 9 79
   have i11 := hρ.i 11 81
   have i3 := hρ.i 3 73
   have i12 := hρ.i 12 82
   have i2 := hρ.i 2 72
   have i13 := hρ.i 13 83
   have i14 := hρ.i 14 84
   have o9 : ρ (.tmp 9) = .pointer (some ⟨b9, 0, none⟩) := hρ.out 9 rfl
   have i16 := hρ.i 16 86
   have i17 := hρ.i 17 87
   have i18 := hρ.i 18 88
   have i15 := hρ.i 15 85
   have i19 := hρ.i 19 89
   have i20 := hρ.i 20 90
   have i21 := hρ.i 21 91
   have i22 := hρ.i 22 92
   have i23 := hρ.i 23 93
   have hc := hρ.const
   have hfn := hρ.func
   clear hρ
   have HG := hI hW
   have HW := hI (show Ext w8 W from hW)
   have HQL := hI hqL
   clear hW hqL hcL
   rcases hq' with rfl | rfl | rfl | rfl | rfl | rfl | rfl | rfl | rfl | rfl | rfl | rfl | rfl | rfl | rfl | rfl | rfl | rfl | rfl | rfl | rfl | rfl | rfl | rfl | rfl
   ·cases ho
    clear hd
    unfold GivesOp
    go_simp
    exact ⟨Ext.refl _, HW.out, rfl⟩
   ·cases ho
    have h0 : vs 0 = _ := hd ⟨0, .data⟩ (by simp) rfl
    rw [h0] at i0
    clear hd
    unfold GivesOp
    go_simp
    exact ⟨Ext.refl _, HW.out, rfl⟩
   ·cases ho
    have h1 : vs 1 = _ := hd ⟨1, .data⟩ (by simp) rfl
    rw [h1] at i1
    clear hd
    unfold GivesOp
    go_simp
    exact ⟨Ext.refl _, HW.out, rfl⟩
   ·cases ho
    clear hd
    have g0 := HW.out.cell p0
    have g1 := HW.out.cell p1
    have g2 := HW.out.cell p2
    unfold GivesOp
    go_simp
    exact ⟨Ext.refl _, HW.out, rfl⟩
   ·cases ho
    clear hd
    unfold GivesOp
    go_simp
    exact ⟨Ext.refl _, HW.out, rfl⟩
   ·cases ho
    have h4 : vs 4 = _ := hd ⟨4, .data⟩ (by simp) rfl
    rw [h4] at i4
    clear hd
    have g0 := HW.out.cell c0
    unfold GivesOp
    go_simp
    exact ⟨Ext.refl _, HW.out, rfl⟩
   ·cases ho
    clear hd
    unfold GivesOp
    go_simp
    exact ⟨Ext.refl _, HW.out, rfl⟩
   ·cases ho
    have h6 : vs 6 = _ := hd ⟨6, .data⟩ (by simp) rfl
    rw [h6] at i6
    clear hd
    have g1 := HW.out.cell c1
    unfold GivesOp
    go_simp
    exact ⟨Ext.refl _, HW.out, rfl⟩
   ·cases ho
    clear hd
    unfold GivesOp
    go_simp
    exact ⟨Ext.refl _, HW.out, rfl⟩
   ·cases ho
    have h8 : vs 8 = _ := hd ⟨8, .data⟩ (by simp) rfl
    rw [h8] at i8
    clear hd
    have g2 := HW.out.cell c2
    have g3 := HW.out.cell c3
    have g4 := HW.out.cell c4
    have g5 := HW.out.cell c5
    have g6 := HW.out.cell c6
    have g7 := HW.out.cell c7
    unfold GivesOp
    go_simp
    exact ⟨Ext.refl _, HW.out, rfl⟩
   ·cases ho
    clear hd
    unfold GivesOp
    go_simp
    exact ⟨Ext.refl _, HW.out, rfl⟩
   ·cases ho
    have h10 : vs 10 = _ := hd ⟨10, .data⟩ (by simp) rfl
    rw [h10] at i10
    clear hd
    have g8 := HW.out.cell c8
    unfold GivesOp
    go_simp
    exact ⟨Ext.refl _, HW.out, rfl⟩
   ·cases ho
    have h5 : vs 5 = _ := hd ⟨5, .data⟩ (by simp) rfl
    rw [h5] at i5
    have h7 : vs 7 = _ := hd ⟨7, .data⟩ (by simp) rfl
    rw [h7] at i7
    have h9 : vs 9 = _ := hd ⟨9, .data⟩ (by simp) rfl
    rw [h9] at i9
    have h11 : vs 11 = _ := hd ⟨11, .data⟩ (by simp) rfl
    rw [h11] at i11
    clear hd
    unfold GivesOp
    go_simp
    refine (HRW8.out W HW.out).mono ?_
    rintro e5 w5 ⟨qv, rfl, hq1, hx5⟩
    exact ⟨_, rfl, hx5, HW.out.trans hx5, qv, rfl, hq1.mono (mask_sub _ _)⟩
   ·cases ho
    have h3 : vs 3 = _ := hd ⟨3, .data⟩ (by simp) rfl
    rw [h3] at i3
    obtain ⟨qv, h12, hs12⟩ : ∃ (qv : PrV), vs 12 = .agg #[.bool qv.value, .int .i64 qv.pick, .slice qv.a qv.n qv.c] /\ IsPr W PX qv := hd ⟨12, .data⟩ (by simp) rfl
    have HS12 := hI hs12
    clear hs12
    rw [h12] at i12
    clear hd
    unfold GivesOp
    go_simp
    have hsm := rsame_calls _ _ _ ⟨pb, pk, pa, pn, pc⟩ qv W (Nat.le_refl _) HFIX.out (HPV8.out.ext HW.out) HS12.out
    rw [samePr_refl] at hsm
    unfold PrV.val at hsm
    refine hsm.mono ?_
    rintro e5 w5 ⟨rfl, hx5⟩
    exact ⟨_, rfl, hx5, HW.out.trans hx5, rfl⟩
   ·cases ho
    have h2 : vs 2 = _ := hd ⟨2, .data⟩ (by simp) rfl
    rw [h2] at i2
    have h13 : vs 13 = _ := hd ⟨13, .data⟩ (by simp) rfl
    rw [h13] at i13
    clear hd
    unfold GivesOp
    go_simp
    exact ⟨Ext.refl _, HW.out, rfl⟩
   ·cases ho
    have h14 : vs 14 = _ := hd ⟨14, .data⟩ (by simp) rfl
    rw [h14] at i14
    clear hd
    unfold GivesOp
    go_simp
    exact ⟨Ext.refl _, HW.out, rfl⟩
   ·cases ho
    clear hd
    unfold GivesOp
    go_simp
    exact ⟨Ext.refl _, HW.out, rfl⟩
   ·cases ho
    have h16 : vs 16 = _ := hd ⟨16, .data⟩ (by simp) rfl
    rw [h16] at i16
    clear hd
    have g2 := HW.out.cell q2
    unfold GivesOp
    go_simp
    exact ⟨Ext.refl _, HW.out, rfl⟩
   ·cases ho
    have h17 : vs 17 = _ := hd ⟨17, .data⟩ (by simp) rfl
    rw [h17] at i17
    clear hd
    unfold GivesOp
    go_simp
    exact ⟨Ext.refl _, HW.out, rfl⟩
   ·cases ho
    have h18 : vs 18 = _ := hd ⟨18, .data⟩ (by simp) rfl
    rw [h18] at i18
    clear hd
    unfold GivesOp
    go_simp
    exact ⟨Ext.refl _, HW.out, rfl⟩
   ·cases ho
    have h15 : vs 15 = _ := hd ⟨15, .data⟩ (by simp) rfl
    rw [h15] at i15
    have h19 : vs 19 = _ := hd ⟨19, .data⟩ (by simp) rfl
    rw [h19] at i19
    clear hd
    unfold GivesOp
    go_simp
    exact ⟨Ext.refl _, HW.out, rfl⟩
   ·cases ho
    have h20 : vs 20 = _ := hd ⟨20, .data⟩ (by simp) rfl
    rw [h20] at i20
    clear hd
    unfold GivesOp
    go_simp
    exact ⟨Ext.refl _, HW.out, rfl⟩
   ·cases ho
    clear hd
    unfold GivesOp
    go_simp
    refine (HAW8.out W HW.out).mono ?_
    rintro e5 w5 ⟨rfl, hx5⟩
    exact ⟨_, rfl, hx5, HW.out.trans hx5, rfl⟩
   ·cases ho
    have h21 : vs 21 = _ := hd ⟨21, .data⟩ (by simp) rfl
    rw [h21] at i21
    have h22 : vs 22 = _ := hd ⟨22, .data⟩ (by simp) rfl
    rw [h22] at i22
    clear hd
    unfold GivesOp
    go_simp
    exact ⟨Ext.refl _, HW.out, rfl⟩
   cases ho
   have h23 : vs 23 = _ := hd ⟨23, .data⟩ (by simp) rfl
   rw [h23] at i23
   clear hd
   unfold GivesOp
   go_simp
   exact ⟨Ext.refl _, HW.out, rfl⟩
  intro L vs W hLm hW hR
  rw [if_pos (by decide +kernel)]
  have h24 : vs 24 = .bool true := hR 24 (by simp) (by omega)
  simp only [acts, dstAt, List.range, List.range.loop, List.foldl_cons, List.foldl_nil, h24]
  go_simp
  have hW2 : Ext w8 W := hW
  clear hR hW hLm h24
  have HXZ := hI (HX8.out.trans hW2)
  clear hW2 c0 c1 c2 c3 c4 c5 c6 c7 c8 cf p0 p1 p2 pf' q0 q1 q2 qf x0 x1 x2 x3 x4 x5 xf
  go_wp2_with fail
  go_ret
  exact givesE_bool rfl HXZ.out
 subst hz
 have HIQ8 := hI (hiq.ext H68.out)
 have HFQ := hI (HFIE.out rfl)
 have HRO8 := hI (fun W (hW : Ext w8 W) => HROK.out W (H58.out.trans hW) rfl)
 clear hiq HROK HFIE HQQ
 go_upto_region 10 with fail
 refine wp_region_growLG (n := 94) (m := 14) [13] (GrGD w8) GrE (GrP (prv10R v e0 aw nw cw aa na ca b3 b5 b7 b9 P qb qk qa qn qc)) (by kernel_rfl) (by kernel_rfl) (Nat.le_of_ble_eq_true rfl) ?gd ((Ext.refl w8).drew) ?_ ?_ ?_
 case gd =>
  intro i o j b hi ho hg
  rcases ltc14 hi with rfl | rfl | rfl | rfl | rfl | rfl | rfl | rfl | rfl | rfl | rfl | rfl | rfl | rfl <;> (cases ho; first | (cases hg; done) | (cases hg; intro v W h; exact h))
 ·intro i k v W W' hi hk hne hout h hE
  have hE : Ext W W' := hE
  have hi' := ltc14 hi
  clear hi hk hne hout
  rcases hi' with rfl | rfl | rfl | rfl | rfl | rfl | rfl | rfl | rfl | rfl | rfl | rfl | rfl | rfl
  ·exact h
  ·exact h
  ·exact h
  ·exact h
  ·exact h
  ·exact h
  ·exact h
  ·exact h
  ·obtain ⟨qv, e0, h⟩ := h
   exact ⟨qv, e0, h.ext hE⟩
  ·exact h
  ·exact h
  ·exact h
  ·exact h
  exact h
 ·intro q op hq ho L vs W hqL hcL hW hd ρ hρ
  have hq' := ltc14 hq
  clear hq
  have o9 : ρ (.tmp 9) = .pointer (some ⟨b9, 0, none⟩) := hρ.out 9 rfl
  have o5 : ρ (.tmp 5) = .pointer (some ⟨b5, 0, none⟩) := hρ.out 5 rfl
  have i1 := hρ.i 1 58
  have i3 := hρ.i 3 60
  have o3 : ρ (.tmp 3) = .pointer (some ⟨b3, 0, none⟩) := hρ.out 3 rfl
  have i6 := hρ.i 6 63
  have i2 := hρ.i 2 59
  have i4 := hρ.i 4 61
  have i5 := hρ.i 5 62
  have i7 := hρ.i 7 64
  have i0 := hρ.i 0 57
  have i8 := hρ.i 8 65
  have i9 := hρ.i 9 66
  have i10 := hρ.i 10 67
  have i11 := hρ.i 11 68
  have i12 := hρ.i 12 69
  have hc := hρ.const
  have hfn := hρ.func
  clear hρ
  have HG := hI hW
  have HW := hI (show Ext w8 W from hW)
  have HQL := hI hqL
  clear hW hqL hcL
  rcases hq' with rfl | rfl | rfl | rfl | rfl | rfl | rfl | rfl | rfl | rfl | rfl | rfl | rfl | rfl
  ·cases ho
   clear hd
   have g0 := HW.out.cell q0
   have g1 := HW.out.cell q1
   have g2 := HW.out.cell q2
   unfold GivesOp
   go_simp
   exact ⟨Ext.refl _, HW.out, rfl⟩
  ·cases ho
   clear hd
   unfold GivesOp
   go_simp
   exact ⟨Ext.refl _, HW.out, rfl⟩
  ·cases ho
   have h1 : vs 1 = _ := hd ⟨1, .data⟩ (by simp) rfl
   rw [h1] at i1
   clear hd
   have g0 := HW.out.cell c0
   unfold GivesOp
   go_simp
   exact ⟨Ext.refl _, HW.out, rfl⟩
  ·cases ho
   clear hd
   unfold GivesOp
   go_simp
   exact ⟨Ext.refl _, HW.out, rfl⟩
  ·cases ho
   have h3 : vs 3 = _ := hd ⟨3, .data⟩ (by simp) rfl
   rw [h3] at i3
   clear hd
   have g1 := HW.out.cell c1
   unfold GivesOp
   go_simp
   exact ⟨Ext.refl _, HW.out, rfl⟩
  ·cases ho
   clear hd
   have g0 := HW.out.cell x0
   have g1 := HW.out.cell x1
   have g2 := HW.out.cell x2
   have g3 := HW.out.cell x3
   have g4 := HW.out.cell x4
   have g5 := HW.out.cell x5
   unfold GivesOp
   go_simp
   exact ⟨Ext.refl _, HW.out, rfl⟩
  ·cases ho
   clear hd
   unfold GivesOp
   go_simp
   exact ⟨Ext.refl _, HW.out, rfl⟩
  ·cases ho
   have h6 : vs 6 = _ := hd ⟨6, .data⟩ (by simp) rfl
   rw [h6] at i6
   clear hd
   have g8 := HW.out.cell c8
   unfold GivesOp
   go_simp
   exact ⟨Ext.refl _, HW.out, rfl⟩
  ·cases ho
   have h2 : vs 2 = _ := hd ⟨2, .data⟩ (by simp) rfl
   rw [h2] at i2
   have h4 : vs 4 = _ := hd ⟨4, .data⟩ (by simp) rfl
   rw [h4] at i4
   have h5 : vs 5 = _ := hd ⟨5, .data⟩ (by simp) rfl
   rw [h5] at i5
   have h7 : vs 7 = _ := hd ⟨7, .data⟩ (by simp) rfl
   rw [h7] at i7
   clear hd
   unfold GivesOp
   go_simp
   refine (HRO8.out W HW.out).mono ?_
   rintro e5 w5 ⟨qv, rfl, hq1, hx5⟩
   exact ⟨_, rfl, hx5, HW.out.trans hx5, qv, rfl, hq1.mono (mask_sub _ _)⟩
  ·cases ho
   have h0 : vs 0 = _ := hd ⟨0, .data⟩ (by simp) rfl
   rw [h0] at i0
   obtain ⟨qv, h8, hs8⟩ : ∃ (qv : PrV), vs 8 = .agg #[.bool qv.value, .int .i64 qv.pick, .slice qv.a qv.n qv.c] /\ IsPr W P qv := hd ⟨8, .data⟩ (by simp) rfl
   have HS8 := hI hs8
   clear hs8
   rw [h8] at i8
   clear hd
   unfold GivesOp
   go_simp
   have hsm := rsame_calls _ _ _ ⟨qb, qk, qa, qn, qc⟩ qv W (Nat.le_refl _) HFQ.out (HIQ8.out.ext HW.out) HS8.out
   rw [samePr_refl] at hsm
   unfold PrV.val at hsm
   refine hsm.mono ?_
   rintro e5 w5 ⟨rfl, hx5⟩
   exact ⟨_, rfl, hx5, HW.out.trans hx5, rfl⟩
  ·cases ho
   have h9 : vs 9 = _ := hd ⟨9, .data⟩ (by simp) rfl
   rw [h9] at i9
   clear hd
   unfold GivesOp
   go_simp
   exact ⟨Ext.refl _, HW.out, rfl⟩
  ·cases ho
   clear hd
   unfold GivesOp
   go_simp
   refine (HAW8.out W HW.out).mono ?_
   rintro e5 w5 ⟨rfl, hx5⟩
   exact ⟨_, rfl, hx5, HW.out.trans hx5, rfl⟩
  ·cases ho
   have h10 : vs 10 = _ := hd ⟨10, .data⟩ (by simp) rfl
   rw [h10] at i10
   have h11 : vs 11 = _ := hd ⟨11, .data⟩ (by simp) rfl
   rw [h11] at i11
   clear hd
   unfold GivesOp
   go_simp
   exact ⟨Ext.refl _, HW.out, rfl⟩
  cases ho
  have h12 : vs 12 = _ := hd ⟨12, .data⟩ (by simp) rfl
  rw [h12] at i12
  clear hd
  unfold GivesOp
  go_simp
  exact ⟨Ext.refl _, HW.out, rfl⟩
 intro L vs W hLm hW hR
 rw [if_pos (by decide +kernel)]
 have h13 : vs 13 = .bool true := hR 13 (by simp) (by omega)
 simp only [acts, dstAt, List.range, List.range.loop, List.foldl_cons, List.foldl_nil, h13]
 go_simp
 have hW2 : Ext w8 W := hW
 clear hR hW hLm h13
 have HXZ := hI (HX8.out.trans hW2)
 clear hW2 c0 c1 c2 c3 c4 c5 c6 c7 c8 cf p0 p1 p2 pf' q0 q1 q2 qf x0 x1 x2 x3 x4 x5 xf
 go_wp2_with fail
 go_ret
 exact givesE_bool rfl HXZ.out
end Go.Proofs.YtpkljcgihobaiaaGreatDoor
