/-
  Texts of the claim, joined: RVer, Exp1, Val11, Fmt, OkTree, Fmt2.
-/
import Derived.Test.YtefjomofjejklaaGreatCc07
namespace Go.Proofs.YtefjomofjejklaaGreat
set_option maxRecDepth 100000
set_option maxHeartbeats 32000000
open Go.RowKit
structure Dec where
 ver : Int
 lim : Int
 ded : Int
 fra : Int
 coi : Int
 avg : Bool
def Dec.cells (d : Dec) : Array Value := #[.int .i64 d.ver, .int .i64 d.lim, .int .i64 d.ded, .int .i64 d.fra, .int .i64 d.coi, .bool d.avg]
def limS (V : Ex -> Bool) (m : Int) (x : Cla) : Int := if (x.kind == 5 && claV V x && (decide (m < 0) || decide (x.amount < m))) = true then x.amount else m
def limK (V : Ex -> Bool) (l : List Cla) : Int := l.foldl (limS V) (-1)
theorem limK_take (V : Ex -> Bool) {l : List Cla} {k : Nat} (hk : k < l.length) : limK V (l.take (k + 1)) = limS V (limK V (l.take k)) l[k] := by
 unfold limK
 rw [List.take_succ_eq_append_getElem hk, List.foldl_append]
 rfl
def verB (V : Ex -> Bool) (l : List Cla) : Dec :=
 if someB V 2 false l = false then ⟨1, 0, 0, 0, 0, false⟩ else if someB V 4 true l = true then ⟨2, 0, 0, 0, 0, false⟩ else if someB V 3 false l = true then ⟨3, 0, 0, 0, 0, false⟩
 else ⟨4, limK V l, greatK V 6 l, greatK V 7 l, greatK V 8 l, someB V 9 false l⟩
theorem blk6d {w : World} {b : Nat} {v0 v1 v2 v3 v4 v5 : Value} {t : TypeId} (h : w.heap[b]? = some (.cells #[v0, v1, v2, v3, v4, v5] t (0, 0))) :
  w.cell? ⟨b, 0, none⟩ = some v0 /\ w.cell? ⟨b, 1, none⟩ = some v1 /\ w.cell? ⟨b, 2, none⟩ = some v2 /\ w.cell? ⟨b, 3, none⟩ = some v3 /\ w.cell? ⟨b, 4, none⟩ = some v4 /\ w.cell? ⟨b, 5, none⟩ = some v5 /\ (∀ o, w.frozen? ⟨b, o, none⟩ = false) :=
 ⟨blk_cell h 0, blk_cell h 1, blk_cell h 2, blk_cell h 3, blk_cell h 4, blk_cell h 5, fun o => blk_free h o⟩
def put6d (w : World) (B : Nat) (v0 v1 v2 v3 v4 v5 : Value) : World := (((((w.setCell ⟨B, 0, none⟩ v0).setCell ⟨B, 1, none⟩ v1).setCell ⟨B, 2, none⟩ v2).setCell ⟨B, 3, none⟩ v3).setCell ⟨B, 4, none⟩ v4).setCell ⟨B, 5, none⟩ v5
theorem put6d_blk {w : World} {B : Nat} {u0 u1 u2 u3 u4 u5 v0 v1 v2 v3 v4 v5 : Value} {t : TypeId} (h : w.heap[B]? = some (.cells #[u0, u1, u2, u3, u4, u5] t (0, 0))) : (put6d w B v0 v1 v2 v3 v4 v5).heap[B]? = some (.cells #[v0, v1, v2, v3, v4, v5] t (0, 0)) := by
 unfold put6d
 rw [heap_setCell_same _ _ _ _ _ _ (heap_setCell_same _ _ _ _ _ _ (heap_setCell_same _ _ _ _ _ _ (heap_setCell_same _ _ _ _ _ _ (heap_setCell_same _ _ _ _ _ _ (heap_setCell_same _ _ _ _ _ _ h)))))]
 rfl
theorem put6d_chg (w : World) (B : Nat) {v0 v1 v2 v3 v4 v5 : Value} : Chg [B] w (put6d w B v0 v1 v2 v3 v4 v5) := by
 unfold put6d
 repeat (with_reducible (refine Chg.setCell ?_ ?_ _))
 exact Chg.refl _ _
 all_goals exact Or.inl (by simp)
def DecO (d : Dec) : Obj := .cells d.cells 124 (0, 0)
def VrL (V : Ex -> Bool) (l : List Cla) (n b7 : Nat) (D F C : Int) (A : Bool) (w : World) (i : Value) (wr : World) : Prop := ∃ k : Nat, i = .int .i64 k /\ k <= n /\ wr.heap[b7]? = some (DecO ⟨4, limK V (l.take k), D, F, C, A⟩) /\ Ext w wr
theorem rVerdict_calls {w0 : World} {sa : OA} {sn sc : Nat} {l : List Cla} {a : OA} {n c : Nat} {fa : OA} {fn fc : Nat} {V : Ex -> Bool} {P : Ex -> Prop} (hv : VerIn w0 sa sn sc l a n c fa fn fc V P) (w : World) (hx0 : Ext w0 w) :
  Calls Tryz.prog 54 #[.agg #[.slice sa sn sc], .slice a n c, .slice fa fn fc] w (GivesE (.agg (verB V l).cells) w) := by
 have HN := hI hv.cla.len
 have HC := hI hv.cla
 have hn := hv.few
 have HAP := hI (fun (k : Nat) (hk : k < l.length) (v : ClV) W (hW : Ext w W) (hcl : IsCla W l[k] v) => rApplies_calls hv.tr l[k] v W (hx0.trans hW) (hv.ok _ (List.getElem_mem hk)).1 (hv.ok _ (List.getElem_mem hk)).2.1 (hv.ok _ (List.getElem_mem hk)).2.2 hcl)
 have HSM := hI (fun (kind : Int) (neg : Bool) W (hW : Ext w W) => rSome_calls hv kind neg W (hx0.trans hW))
 have HGT := hI (fun (kind : Int) W (hW : Ext w W) => rGreatest_calls hv kind W (hx0.trans hW))
 have HX0 := hI hx0
 obtain ⟨S2, hS2⟩ : ∃ S2, S2 = someB V 2 false l := ⟨_, rfl⟩
 obtain ⟨S4, hS4⟩ : ∃ S4, S4 = someB V 4 true l := ⟨_, rfl⟩
 obtain ⟨S3, hS3⟩ : ∃ S3, S3 = someB V 3 false l := ⟨_, rfl⟩
 obtain ⟨A, hA⟩ : ∃ A, A = someB V 9 false l := ⟨_, rfl⟩
 obtain ⟨D, hD⟩ : ∃ D, D = greatK V 6 l := ⟨_, rfl⟩
 obtain ⟨F, hF⟩ : ∃ F, F = greatK V 7 l := ⟨_, rfl⟩
 obtain ⟨C, hC⟩ : ∃ C, C = greatK V 8 l := ⟨_, rfl⟩
 have H2 := hI (fun W hW => HSM.out 2 false W hW)
 have H4 := hI (fun W hW => HSM.out 4 true W hW)
 have H3 := hI (fun W hW => HSM.out 3 false W hW)
 have H9 := hI (fun W hW => HSM.out 9 false W hW)
 have H6 := hI (fun W hW => HGT.out 6 W hW)
 have H7 := hI (fun W hW => HGT.out 7 W hW)
 have H8 := hI (fun W hW => HGT.out 8 W hW)
 rw [<- hS2] at H2
 rw [<- hS4] at H4
 rw [<- hS3] at H3
 rw [<- hA] at H9
 rw [<- hD] at H6
 rw [<- hF] at H7
 rw [<- hC] at H8
 obtain ⟨R, hR⟩ : ∃ R, R = verB V l := ⟨_, rfl⟩
 rw [<- hR]
 have HR := hI (show R = if S2 = false then ⟨1, 0, 0, 0, 0, false⟩ else if S4 = true then ⟨2, 0, 0, 0, 0, false⟩ else if S3 = true then ⟨3, 0, 0, 0, 0, false⟩ else ⟨4, limK V l, D, F, C, A⟩ by rw [hR, hS2, hS4, hS3, hA, hD, hF, hC]; rfl)
 clear hv hx0 HSM HGT hS2 hS4 hS3 hA hD hF hC hR
 obtain ⟨wa, hwa⟩ : ∃ wa, wa = (w.alloc (.cells #[.slice sa sn sc] 25)).alloc (.cells #[.int .i64 0, .int .i64 0, .int .i64 0, .int .i64 0, .int .i64 0, .bool false] 124) := ⟨_, rfl⟩
 have HXA := hI (show Ext w wa by rw [hwa]; exact ((Ext.refl _).alloc _).alloc _)
 have HA3 := hI (show wa.heap[w.heap.size]? = some (.cells #[.slice sa sn sc] 25 (0, 0)) by rw [hwa]; exact blk_alloc (alloc_new w _))
 have HA6 := hI (show wa.heap[w.heap.size + 1]? = some (DecO ⟨0, 0, 0, 0, 0, false⟩) by rw [hwa]; exact alloc_at (by simp))
 obtain ⟨b3, hb3⟩ : ∃ b3, b3 = w.heap.size := ⟨_, rfl⟩
 have HB3 := hI hb3
 have hlw : w.heap.size <= b3 := by omega
 obtain ⟨s0, sf⟩ := blk1 HA3.out
 go_enter Tryz.func54, Tryz.ntmps54
 go_upto_region 1 with fail
 rw [<- hwa, <- hb3]
 rw [<- hb3] at HA3 HA6 s0
 clear hwa hb3
 go_wp2_with fail
 refine (H2.out wa HXA.out).mono ?_
 rintro r w1 ⟨rfl, hx1⟩
 have HX1 := hI (HXA.out.trans hx1)
 have H13 := hI (hx1.blk HA3.out)
 have H16 := hI (hx1.blk HA6.out)
 clear hx1 s0 sf HA3 HA6 H2
 obtain ⟨s0, sf⟩ := blk1 H13.out
 cases S2
 case false =>
  have HQ := hI (show R = ⟨1, 0, 0, 0, 0, false⟩ by rw [HR.out]; simp)
  have hz := H16.out
  unfold DecO Dec.cells at hz
  obtain ⟨z0, z1, z2, z3, z4, z5, zf⟩ := blk6d hz
  go_wp2_with fail
  obtain ⟨w8, hw8⟩ : ∃ w8, w8 = put6d w1 (b3 + 1) (.int .i64 1) (.int .i64 0) (.int .i64 0) (.int .i64 0) (.int .i64 0) (.bool false) := ⟨_, rfl⟩
  have HX8 := hI (show Ext w w8 by rw [hw8]; exact (put6d_chg _ _).ext HX1.out (by simp; omega))
  have h8 : w8.heap[b3 + 1]? = some (.cells #[.int .i64 1, .int .i64 0, .int .i64 0, .int .i64 0, .int .i64 0, .bool false] 124 (0, 0)) := by rw [hw8]; exact put6d_blk hz
  unfold put6d at hw8
  rw [<- hw8]
  clear hw8 z0 z1 z2 z3 z4 z5 zf hz
  obtain ⟨z0, z1, z2, z3, z4, z5, zf⟩ := blk6d h8
  refine bodyPost_ret (v := .agg R.cells) (by rw [HQ.out]; simp [results, Tryz.results54, go_sem, Dec.cells, z0, z1, z2, z3, z4, z5]) rfl ?_
  exact ⟨rfl, HX8.out⟩
 go_wp2_with fail
 refine (H4.out w1 HX1.out).mono ?_
 rintro r w2 ⟨rfl, hx2⟩
 have HX2 := hI (HX1.out.trans hx2)
 have H23 := hI (hx2.blk H13.out)
 have H26 := hI (hx2.blk H16.out)
 clear hx2 s0 sf H4 H13 H16
 obtain ⟨s0, sf⟩ := blk1 H23.out
 cases S4
 case true =>
  have HQ := hI (show R = ⟨2, 0, 0, 0, 0, false⟩ by rw [HR.out]; simp)
  have hz := H26.out
  unfold DecO Dec.cells at hz
  obtain ⟨z0, z1, z2, z3, z4, z5, zf⟩ := blk6d hz
  go_wp2_with fail
  obtain ⟨w8, hw8⟩ : ∃ w8, w8 = put6d w2 (b3 + 1) (.int .i64 2) (.int .i64 0) (.int .i64 0) (.int .i64 0) (.int .i64 0) (.bool false) := ⟨_, rfl⟩
  have HX8 := hI (show Ext w w8 by rw [hw8]; exact (put6d_chg _ _).ext HX2.out (by simp; omega))
  have h8 : w8.heap[b3 + 1]? = some (.cells #[.int .i64 2, .int .i64 0, .int .i64 0, .int .i64 0, .int .i64 0, .bool false] 124 (0, 0)) := by rw [hw8]; exact put6d_blk hz
  unfold put6d at hw8
  rw [<- hw8]
  clear hw8 z0 z1 z2 z3 z4 z5 zf hz
  obtain ⟨z0, z1, z2, z3, z4, z5, zf⟩ := blk6d h8
  refine bodyPost_ret (v := .agg R.cells) (by rw [HQ.out]; simp [results, Tryz.results54, go_sem, Dec.cells, z0, z1, z2, z3, z4, z5]) rfl ?_
  exact ⟨rfl, HX8.out⟩
 go_wp2_with fail
 refine (H3.out w2 HX2.out).mono ?_
 rintro r w3 ⟨rfl, hx3⟩
 have HX3 := hI (HX2.out.trans hx3)
 have H33 := hI (hx3.blk H23.out)
 have H36 := hI (hx3.blk H26.out)
 clear hx3 s0 sf H3 H23 H26
 obtain ⟨s0, sf⟩ := blk1 H33.out
 cases S3
 case true =>
  have HQ := hI (show R = ⟨3, 0, 0, 0, 0, false⟩ by rw [HR.out]; simp)
  have hz := H36.out
  unfold DecO Dec.cells at hz
  obtain ⟨z0, z1, z2, z3, z4, z5, zf⟩ := blk6d hz
  go_wp2_with fail
  obtain ⟨w8, hw8⟩ : ∃ w8, w8 = put6d w3 (b3 + 1) (.int .i64 3) (.int .i64 0) (.int .i64 0) (.int .i64 0) (.int .i64 0) (.bool false) := ⟨_, rfl⟩
  have HX8 := hI (show Ext w w8 by rw [hw8]; exact (put6d_chg _ _).ext HX3.out (by simp; omega))
  have h8 : w8.heap[b3 + 1]? = some (.cells #[.int .i64 3, .int .i64 0, .int .i64 0, .int .i64 0, .int .i64 0, .bool false] 124 (0, 0)) := by rw [hw8]; exact put6d_blk hz
  unfold put6d at hw8
  rw [<- hw8]
  clear hw8 z0 z1 z2 z3 z4 z5 zf hz
  obtain ⟨z0, z1, z2, z3, z4, z5, zf⟩ := blk6d h8
  refine bodyPost_ret (v := .agg R.cells) (by rw [HQ.out]; simp [results, Tryz.results54, go_sem, Dec.cells, z0, z1, z2, z3, z4, z5]) rfl ?_
  exact ⟨rfl, HX8.out⟩
 have HRR := hI (show R = ⟨4, limK V l, D, F, C, A⟩ by rw [HR.out]; simp)
 clear HR
 go_upto_region 7 with fail
 have S0 := win_cell s0
 refine chn_ext 18 ?_
 repeat (refine chn_plain ?_; intro K hK; go_big_quiet_op; go_big_quiet_on)
 refine chn_ge (fun W hW => H6.out W (HX3.out.trans hW)) ?_
 intro K hK; go_simp; go_big_quiet_on
 repeat (refine chn_plain ?_; intro K hK; go_big_quiet_op; go_big_quiet_on)
 refine chn_ge (fun W hW => H7.out W (HX3.out.trans hW)) ?_
 intro K hK; go_simp; go_big_quiet_on
 repeat (refine chn_plain ?_; intro K hK; go_big_quiet_op; go_big_quiet_on)
 refine chn_ge (fun W hW => H8.out W (HX3.out.trans hW)) ?_
 intro K hK; go_simp; go_big_quiet_on
 repeat (refine chn_plain ?_; intro K hK; go_big_quiet_op; go_big_quiet_on)
 refine chn_ge (fun W hW => H9.out W (HX3.out.trans hW)) ?_
 intro K hK; go_simp; go_big_quiet_on
 repeat (refine chn_plain ?_; intro K hK; go_big_quiet_op; go_big_quiet_on)
 refine chn_new (fun g => .pointer (some ⟨g, 0, none⟩)) (fun g W => W.heap[g]? = some (DecO ⟨0, 0, 0, 0, 0, false⟩) /\ w3.heap.size <= g) (fun W hW => ?_) (fun g W W' h k => ⟨h.blk k.1, k.2⟩) ?_
 ·unfold GivesOp
  go_simp
  exact ⟨(Ext.refl W).alloc _, W.heap.size, rfl, alloc_new W _, hW.size⟩
 intro y7 K hK; go_simp; go_big_quiet_on
 refine chn_tail fun W hW2 _ hs17 => ?_
 have HS17 := hI hs17.2
 clear hs17 S0
 have hz7 := HS17.out.1
 unfold DecO Dec.cells at hz7
 obtain ⟨z0, z1, z2, z3, z4, z5, zf⟩ := blk6d hz7
 have hlz := blk_lt hz7
 go_upto_region 8 with fail
 obtain ⟨w4, hw4⟩ : ∃ w4, w4 = put6d W y7 (.int .i64 4) (.int .i64 (-1)) (.int .i64 D) (.int .i64 F) (.int .i64 C) (.bool A) := ⟨_, rfl⟩
 have HX4 := hI (show Ext w3 w4 by rw [hw4]; exact (put6d_chg _ _).ext hW2 (by simp; exact HS17.out.2))
 have H47 := hI (show w4.heap[y7]? = some (DecO ⟨4, limK V (l.take 0), D, F, C, A⟩) by rw [hw4]; exact put6d_blk hz7)
 unfold put6d at hw4
 rw [<- hw4]
 clear hw4 hW2 hz7 z0 z1 z2 z3 z4 z5 zf hlz s0 sf H6 H7 H8 H9
 go_wp2_with fail
 go_loopw [8] (VrL V l n y7 D F C A w3) (fun i _ => n - (intOf i).toNat)
 case atStart => exact ⟨0, rfl, Nat.zero_le _, H47.out, HX4.out⟩
 case round =>
  obtain ⟨k, rfl, hk, hb, hx⟩ := hrel
  obtain ⟨wo, rfl⟩ : ∃ wo : World, wo = wr := ⟨_, rfl⟩
  have HX := hI hx
  have HB := hI hb
  obtain ⟨s0, sf⟩ := blk1 (hx.blk H33.out)
  have hzz := hb
  unfold DecO Dec.cells at hzz
  obtain ⟨d0, d1, d2, d3, d4, d5, df⟩ := blk6d hzz
  have hlz := blk_lt hzz
  clear hx hb
  by_cases hkn : k < n
  ·have hkl : k < l.length := by have := HN.out; omega
   have t1 : decide ((k : Int) < (n : Int)) = true := decide_eq_true (by omega)
   have tk0 : (0 : Int) <= (k : Int) := by omega
   have tk1 : (k : Int) < (n : Int) := by omega
   obtain ⟨b, off, v, rfl, hcl, hrow⟩ := (HC.out.ext (HX0.out.trans (HX3.out.trans HX.out))).at hkl
   obtain ⟨c0, c1, c2, c3, c4, c5, c6, c7, c8, c9⟩ := hrow.ten
   have hvk : v.kind = l[k].kind := hcl.1
   have hva : v.amount = l[k].amount := hcl.2.2.2.2.2.2.2
   have HREC := hI (fun W (hW : Ext wo W) => HAP.out k hkl v W ((HX3.out.trans HX.out).trans hW) (hcl.mono hW.sub))
   have HST := hI (limK_take V hkl)
   obtain ⟨M, hM⟩ : ∃ M, M = limK V (l.take k) := ⟨_, rfl⟩
   rw [<- hM] at HST HB d1 hzz
   dsimp only at d1 hzz
   have HST2 := hI (show limK V (l.take (k + 1)) = if (v.kind == 5 && claV V l[k] && (decide (M < 0) || decide (v.amount < M))) = true then v.amount else M by rw [HST.out, limS, hvk, hva])
   obtain ⟨Q, hQ⟩ : ∃ Q, Q = claV V l[k] := ⟨_, rfl⟩
   rw [<- hQ] at HREC HST2
   have HZZ := hI hzz
   clear hrow hcl hvk hva hQ HAP hM HST hzz
   cases hq : (v.kind == 5)
   ·have HQ := hI (show limK V (l.take (k + 1)) = M by rw [HST2.out, hq]; rfl)
    go_wp2_with fail
    go_quiet (fail)
    go_wp2_with fail
    go_roundw
    case rel => exact ⟨k + 1, by go_num, by omega, by rw [HQ.out]; exact HB.out, HX.out.drewN _⟩
    case measure => simp [intOf]; omega
   cases Q
   ·have HQ := hI (show limK V (l.take (k + 1)) = M by rw [HST2.out, hq]; rfl)
    go_upto_region 11 with fail
    have C0 := win_cell c0
    have C1 := win_cell c1
    have C2 := win_cell c2
    have C3 := win_cell c3
    have C4 := win_cell c4
    have C5 := win_cell c5
    have C6 := win_cell c6
    have C7 := win_cell c7
    have C8 := win_cell c8
    have C9 := win_cell c9
    have D1 := win_cell d1
    have S0 := win_cell s0
    refine chn_ext 31 ?_
    repeat (refine chn_plain ?_; intro K hK; go_big_quiet_op; go_big_quiet_on)
    refine chn_ge (fun W hW => HREC.out W hW) ?_
    intro K hK; go_simp; go_big_quiet_on
    repeat first | (refine chn_plain ?_; intro K hK; go_big_quiet_op; go_big_quiet_on) | (refine chn_skip ?_; intro K hK; go_simp; go_big_quiet_on)
    refine chn_nil fun W hW2 _ _ => ?_
    clear C0 C1 C2 C3 C4 C5 C6 C7 C8 C9 D1 S0
    go_wp2_with fail
    go_roundw
    case rel => exact ⟨k + 1, by go_num, by omega, by rw [HQ.out]; exact hW2.blk HB.out, HX.out.trans hW2⟩
    case measure => simp [intOf]; omega
   by_cases hm : M < 0
   ·have HQ := hI (show limK V (l.take (k + 1)) = v.amount by rw [HST2.out, hq, decide_eq_true hm]; rfl)
    have tm : decide (M < 0) = true := decide_eq_true hm
    clear hm
    go_upto_region 11 with fail
    have C0 := win_cell c0
    have C1 := win_cell c1
    have C2 := win_cell c2
    have C3 := win_cell c3
    have C4 := win_cell c4
    have C5 := win_cell c5
    have C6 := win_cell c6
    have C7 := win_cell c7
    have C8 := win_cell c8
    have C9 := win_cell c9
    have D1 := win_cell d1
    have S0 := win_cell s0
    refine chn_ext 31 ?_
    repeat (refine chn_plain ?_; intro K hK; go_big_quiet_op; go_big_quiet_on)
    refine chn_ge (fun W hW => HREC.out W hW) ?_
    intro K hK; go_simp; go_big_quiet_on
    repeat first | (refine chn_plain ?_; intro K hK; go_big_quiet_op; go_big_quiet_on) | (refine chn_skip ?_; intro K hK; go_simp; go_big_quiet_on)
    refine chn_nil fun W hW2 _ _ => ?_
    clear C0 C1 C2 C3 C4 C5 C6 C7 C8 C9 D1 S0
    have e9 := hW2.cell c9
    have HZ2 := hI (hW2.blk HZZ.out)
    obtain ⟨g0, g1, g2, g3, g4, g5, gf⟩ := blk6d HZ2.out
    have hlz2 := blk_lt HZ2.out
    have HW2 := hI hW2
    clear hW2
    go_wp2_with fail
    go_roundw
    case rel => exact ⟨k + 1, by go_num, by omega, by rw [HQ.out]; exact heap_setCell_same _ _ 1 _ _ _ HZ2.out, Ext.setAbove (HX.out.trans HW2.out) HS17.out.2 _⟩
    case measure => simp [intOf]; omega
   have tm : decide (M < 0) = false := decide_eq_false hm
   cases ha : decide (v.amount < M)
   ·have HQ := hI (show limK V (l.take (k + 1)) = M by rw [HST2.out, hq, tm, ha]; rfl)
    clear hm
    go_upto_region 11 with fail
    have C0 := win_cell c0
    have C1 := win_cell c1
    have C2 := win_cell c2
    have C3 := win_cell c3
    have C4 := win_cell c4
    have C5 := win_cell c5
    have C6 := win_cell c6
    have C7 := win_cell c7
    have C8 := win_cell c8
    have C9 := win_cell c9
    have D1 := win_cell d1
    have S0 := win_cell s0
    refine chn_ext 31 ?_
    repeat (refine chn_plain ?_; intro K hK; go_big_quiet_op; go_big_quiet_on)
    refine chn_ge (fun W hW => HREC.out W hW) ?_
    intro K hK; go_simp; go_big_quiet_on
    repeat first | (refine chn_plain ?_; intro K hK; go_big_quiet_op; go_big_quiet_on) | (refine chn_skip ?_; intro K hK; go_simp; go_big_quiet_on)
    refine chn_nil fun W hW2 _ _ => ?_
    clear C0 C1 C2 C3 C4 C5 C6 C7 C8 C9 D1 S0
    go_wp2_with fail
    go_roundw
    case rel => exact ⟨k + 1, by go_num, by omega, by rw [HQ.out]; exact hW2.blk HB.out, HX.out.trans hW2⟩
    case measure => simp [intOf]; omega
   have HQ := hI (show limK V (l.take (k + 1)) = v.amount by rw [HST2.out, hq, tm, ha]; rfl)
   clear hm
   go_upto_region 11 with fail
   have C0 := win_cell c0
   have C1 := win_cell c1
   have C2 := win_cell c2
   have C3 := win_cell c3
   have C4 := win_cell c4
   have C5 := win_cell c5
   have C6 := win_cell c6
   have C7 := win_cell c7
   have C8 := win_cell c8
   have C9 := win_cell c9
   have D1 := win_cell d1
   have S0 := win_cell s0
   refine chn_ext 31 ?_
   repeat (refine chn_plain ?_; intro K hK; go_big_quiet_op; go_big_quiet_on)
   refine chn_ge (fun W hW => HREC.out W hW) ?_
   intro K hK; go_simp; go_big_quiet_on
   repeat first | (refine chn_plain ?_; intro K hK; go_big_quiet_op; go_big_quiet_on) | (refine chn_skip ?_; intro K hK; go_simp; go_big_quiet_on)
   refine chn_nil fun W hW2 _ _ => ?_
   clear C0 C1 C2 C3 C4 C5 C6 C7 C8 C9 D1 S0
   have e9 := hW2.cell c9
   have HZ2 := hI (hW2.blk HZZ.out)
   obtain ⟨g0, g1, g2, g3, g4, g5, gf⟩ := blk6d HZ2.out
   have hlz2 := blk_lt HZ2.out
   have HW2 := hI hW2
   clear hW2
   go_wp2_with fail
   go_roundw
   case rel => exact ⟨k + 1, by go_num, by omega, by rw [HQ.out]; exact heap_setCell_same _ _ 1 _ _ _ HZ2.out, Ext.setAbove (HX.out.trans HW2.out) HS17.out.2 _⟩
   case measure => simp [intOf]; omega
  have t1 : decide ((k : Int) < (n : Int)) = false := decide_eq_false (by omega)
  have HQ := hI (show R = ⟨4, limK V (l.take k), D, F, C, A⟩ by rw [HRR.out, List.take_of_length_le (by have := HN.out; omega)])
  obtain ⟨M, hM⟩ : ∃ M, M = limK V (l.take k) := ⟨_, rfl⟩
  rw [<- hM] at HQ d1
  dsimp only at d1
  have hz := HX.out.blk H36.out
  unfold DecO Dec.cells at hz
  obtain ⟨z0, z1, z2, z3, z4, z5, zf⟩ := blk6d hz
  clear hzz hM
  go_wp2_with fail
  obtain ⟨w8, hw8⟩ : ∃ w8, w8 = put6d wo (b3 + 1) (.int .i64 4) (.int .i64 M) (.int .i64 D) (.int .i64 F) (.int .i64 C) (.bool A) := ⟨_, rfl⟩
  have HX8 := hI (show Ext w w8 by rw [hw8]; exact (put6d_chg _ _).ext (HX3.out.trans HX.out) (by simp; omega))
  have h8 : w8.heap[b3 + 1]? = some (.cells #[.int .i64 4, .int .i64 M, .int .i64 D, .int .i64 F, .int .i64 C, .bool A] 124 (0, 0)) := by rw [hw8]; exact put6d_blk hz
  unfold put6d at hw8
  rw [<- hw8]
  clear hw8 z0 z1 z2 z3 z4 z5 zf hz
  obtain ⟨z0, z1, z2, z3, z4, z5, zf⟩ := blk6d h8
  refine bodyPost_ret (v := .agg R.cells) (by rw [HQ.out]; simp [results, Tryz.results54, go_sem, Dec.cells, z0, z1, z2, z3, z4, z5]) rfl ?_
  exact ⟨rfl, HX8.out⟩
mutual
def bareE : Ex -> Bool
 | .mk op _ _ _ _ args => (op != 3 || args.isEmpty) && bareL args
def bareL : List Ex -> Bool
 | [] => true
 | e :: r => bareE e && bareL r
end
theorem findIdx_map {α β : Type} (f : α -> β) (p : β -> Bool) (l : List α) : (l.map f).findIdx? p = l.findIdx? (fun x => p (f x)) := by
 rw [List.findIdx?_map]; rfl
theorem firstAt_dfn (l : List Cla) (s : BA) : firstAt (l.map Cla.dfn) s = defAt l s := by
 unfold firstAt defAt
 rw [findIdx_map]
 rfl
theorem getD_cla {l : List Cla} {i : Nat} (h : i < l.length) : l.getD i cla0 = l[i] := by simp [h]
theorem isDef_dfn {l : List Cla} {i : Nat} (h : i < l.length) : isDef (l.map Cla.dfn) i = (l[i].kind == 1) := by
 unfold isDef
 simp [h, Cla.dfn]
theorem usesAt_dfn {l : List Cla} {i : Nat} (h : i < l.length) : usesAt (l.map Cla.dfn) i = refNames (namesE l[i].cond) := by
 unfold usesAt
 simp [h, Cla.dfn]
def domB (a : Attr) : Int × Int := if a.kind = 1 then (0, (a.words.length : Int) - 1) else if a.kind = 2 then (a.lo, a.hi) else (0, 1)
def factsAll : List Attr -> ZI -> Bool
 | [], [] => true
 | a :: r, v :: q => decide ((domB a).1 <= v) && decide (v <= (domB a).2) && factsAll r q
 | _, _ => false
def factsB (s : List Attr) (f : ZI) : Bool := decide (schemaErr s = 0) && factsAll s f
theorem factsAll_len : {s : List Attr} -> {f : ZI} -> factsAll s f = true -> f.length = s.length
 | [], [], _ => rfl
 | a :: r, v :: q, h => by
  simp only [factsAll, Bool.and_eq_true] at h
  simp [factsAll_len h.2]
 | [], v :: q, h => by simp [factsAll] at h
 | a :: r, [], h => by simp [factsAll] at h
theorem factsAll_at : {s : List Attr} -> {f : ZI} -> factsAll s f = true -> (i : Nat) -> (hi : i < s.length) -> (hj : i < f.length) -> (domB s[i]).1 <= f[i] /\ f[i] <= (domB s[i]).2
 | a :: r, v :: q, h, 0, _, _ => by
  simp only [factsAll, Bool.and_eq_true, decide_eq_true_eq] at h
  simpa using h.1
 | a :: r, v :: q, h, i + 1, hi, hj => by
  simp only [factsAll, Bool.and_eq_true] at h
  simpa using factsAll_at h.2 i (by simpa using hi) (by simpa using hj)
theorem factsAll_of : {s : List Attr} -> {f : ZI} -> f.length = s.length -> (∀ i (hi : i < s.length) (hj : i < f.length), (domB s[i]).1 <= f[i] /\ f[i] <= (domB s[i]).2) -> factsAll s f = true
 | [], [], _, _ => rfl
 | a :: r, v :: q, h, h2 => by
  have h0 := h2 0 (by simp) (by simp)
  simp only [List.getElem_cons_zero] at h0
  simp only [factsAll, Bool.and_eq_true, decide_eq_true_eq]
  exact ⟨h0, factsAll_of (by simpa using h) fun i hi hj => by have := h2 (i + 1) (by simpa using hi) (by simpa using hj); simpa using this⟩
 | [], v :: q, h, _ => by simp at h
 | a :: r, [], h, _ => by simp at h
def factV (s : List Attr) (f : ZI) (op : Int) (name : BA) (words : ZB) (lo hi : Int) : Bool :=
 if op = 1 then true else if op = 2 then false else
 match attrAt s name with
 | none => false
 | some i => if op = 4 then words.any (fun x => decide (x = (s.getD i attr0).words.getD (f.getD i 0).toNat ⟨#[]⟩)) else if op = 5 then decide (lo <= f.getD i 0) && decide (f.getD i 0 <= hi) else decide (f.getD i 0 = 1)
mutual
def valE (s : List Attr) (f : ZI) (D : BA -> Option Bool) : Ex -> Bool
 | .mk op name words lo hi args => if op = 6 then !(valHd s f D args) else if op = 7 then valAll s f D args else if op = 8 then valAny s f D args else if op = 3 then (D name).getD (factV s f op name words lo hi) else factV s f op name words lo hi
def valHd (s : List Attr) (f : ZI) (D : BA -> Option Bool) : List Ex -> Bool
 | [] => false
 | e :: _ => valE s f D e
def valAll (s : List Attr) (f : ZI) (D : BA -> Option Bool) : List Ex -> Bool
 | [] => true
 | e :: r => valE s f D e && valAll s f D r
def valAny (s : List Attr) (f : ZI) (D : BA -> Option Bool) : List Ex -> Bool
 | [] => false
 | e :: r => valE s f D e || valAny s f D r
end
theorem valAll_iff {s : List Attr} {f : ZI} {D : BA -> Option Bool} : (l : List Ex) -> valAll s f D l = l.all (valE s f D)
 | [] => by rw [valAll]; rfl
 | e :: r => by rw [valAll, valAll_iff r]; rfl
theorem valAny_iff {s : List Attr} {f : ZI} {D : BA -> Option Bool} : (l : List Ex) -> valAny s f D l = l.any (valE s f D)
 | [] => by rw [valAny]; rfl
 | e :: r => by rw [valAny, valAny_iff r]; rfl
def valF (s : List Attr) (l : List Cla) (f : ZI) : Nat -> Ex -> Bool
 | 0, _ => false
 | k + 1, e => valE s f (fun x => (defAt l x).map fun d => valF s l f k (l.getD d cla0).cond) e
def nameT (s : BA) : Tok := ⟨1, s, 0, 0⟩
def markT (c : UInt8) : Tok := ⟨4, ⟨#[c]⟩, 0, 0⟩
def numT (n : Int) : Tok := ⟨2, ⟨#[]⟩, n, 0⟩
def wTo : BA := ⟨#[116, 111]⟩
def listedT : ZB -> List Tok
 | [] => []
 | [s] => [nameT s]
 | s :: r => nameT s :: markT 44 :: listedT r
def paren (op aop : Int) : Bool := aop == 8 || (aop == 7 && op != 8)
mutual
def tokE : Ex -> List Tok
 | .mk op name words lo hi args =>
  if op = 1 then [nameT wTrue] else if op = 2 then [nameT wFalse] else if op = 3 then [nameT name] else
  if op = 4 then [nameT name, nameT wIn, markT 40] ++ listedT words ++ [markT 41] else
  if op = 5 then [nameT name, nameT wFrom, numT lo, nameT wTo, numT hi] else
  (if op = 6 then [nameT wNot] else []) ++ tokArgs op args
def tokArgs (op : Int) : List Ex -> List Tok
 | [] => []
 | a :: r => (if paren op a.op then [markT 40] ++ tokE a ++ [markT 41] else tokE a) ++ tokMore op r
def tokMore (op : Int) : List Ex -> List Tok
 | [] => []
 | a :: r => [nameT (if op = 7 then wAnd else wOr)] ++ (if paren op a.op then [markT 40] ++ tokE a ++ [markT 41] else tokE a) ++ tokMore op r
end
def okNode (e : Ex) : Prop :=
 (e.op = 1 /\ e.name = ⟨#[]⟩ /\ e.words = [] /\ e.lo = 0 /\ e.hi = 0 /\ e.args = []) \/ (e.op = 2 /\ e.name = ⟨#[]⟩ /\ e.words = [] /\ e.lo = 0 /\ e.hi = 0 /\ e.args = []) \/
 (e.op = 3 /\ nameB e.name = true /\ e.words = [] /\ e.lo = 0 /\ e.hi = 0 /\ e.args = []) \/ (e.op = 4 /\ nameB e.name = true /\ wordsB e.words = true /\ e.lo = 0 /\ e.hi = 0 /\ e.args = []) \/
 (e.op = 5 /\ nameB e.name = true /\ e.words = [] /\ numberB e.lo = true /\ numberB e.hi = true /\ e.lo <= e.hi /\ e.args = []) \/
 (e.op = 6 /\ e.name = ⟨#[]⟩ /\ e.words = [] /\ e.lo = 0 /\ e.hi = 0 /\ e.args.length = 1) \/
 ((e.op = 7 \/ e.op = 8) /\ e.name = ⟨#[]⟩ /\ e.words = [] /\ e.lo = 0 /\ e.hi = 0 /\ 2 <= e.args.length)
mutual
def okTree : Ex -> Prop
 | .mk op name words lo hi args => okNode (.mk op name words lo hi args) /\ okTrees args
def okTrees : List Ex -> Prop
 | [] => True
 | e :: r => okTree e /\ okTrees r
end
theorem refNode_ok (e : Ex) : refNodeB e = true ↔ okNode e := by
 obtain ⟨op, name, words, lo, hi, args⟩ := e
 have hw : words = [] ↔ words.length = 0 := by cases words <;> simp
 have ha : args = [] ↔ args.length = 0 := by cases args <;> simp
 have hnm : name = ⟨#[]⟩ ↔ name.toList.isEmpty = true := by
  rw [List.isEmpty_iff, ByteArray.toList_eq]
  constructor
  ·rintro rfl; rfl
  intro h
  apply ByteArray.ext
  simpa using h
 simp only [refNodeB, refNode, okNode, Ex.op, Ex.name, Ex.words, Ex.lo, Ex.hi, Ex.args, wordsB, hw, ha, hnm]
 by_cases h1 : 1 <= op /\ op <= 8
 ·have hk : op = 1 \/ op = 2 \/ op = 3 \/ op = 4 \/ op = 5 \/ op = 6 \/ op = 7 \/ op = 8 := by omega
  rcases hk with rfl | rfl | rfl | rfl | rfl | rfl | rfl | rfl
  all_goals
   simp
   try grind
 simp [h1]
 omega
mutual
theorem nodes_ok : (e : Ex) -> (nodesB e = true ↔ okTree e)
 | .mk op name words lo hi args => by
  rw [nodesB, okTree, Bool.and_eq_true, refNode_ok, nodesAll_ok args]
theorem nodesAll_ok : (l : List Ex) -> (nodesAll l = true ↔ okTrees l)
 | [] => by simp [nodesAll, okTrees]
 | e :: r => by rw [nodesAll, okTrees, Bool.and_eq_true, nodes_ok e, nodesAll_ok r]
end
theorem okTrees_mem {l : List Ex} (h : okTrees l) : ∀ x ∈ l, okTree x := by
 induction l with
 | nil => intro x hx; simp at hx
 | cons e r ih =>
  unfold okTrees at h
  intro x hx
  rcases List.mem_cons.1 hx with rfl | hx
  ·exact h.1
  exact ih h.2 x hx
end Go.Proofs.YtefjomofjejklaaGreat
