/-
  Texts of the claim, joined: Mor0, DMor.
-/
import Derived.Test.YtefjomofjejklaaGreatDoorDt25
namespace Go.Proofs.YtefjomofjejklaaGreatDoor
set_option maxRecDepth 100000
set_option maxHeartbeats 32000000
open Go.RowKit
theorem wbM_err {s : List Attr} (hs : s ∈ schemas) (l : List Cla) : (u : List Wb) -> WbM s [] u -> backsErr s l u = 0
 | [], _ => by rw [backsErr]
 | .mk n c u :: r, h => by
  rw [WbM] at h
  rw [backsErr, made_nodes hs (l := l) (names := []) (fun x hx => by cases hx) 2 _ h.2.1, wbM_err hs l u h.2.2.1, wbM_err hs l r h.2.2.2]
  simp
theorem wbM_large {s : List Attr} {l : List Cla} (hc : Chk s l) (hs : s ∈ schemas) : (u : List Wb) -> WbM s [] u -> backsLarge l u = false
 | [], _ => by rw [backsLarge]
 | .mk n c u :: r, h => by
  rw [WbM] at h
  have h1 := exp_attrs hc (made_nodes hs (l := []) (names := []) (fun x hx => by cases hx) 2 _ h.2.1)
  have h2 := (made_okay hs (names := []) (fun x hx => by cases hx) 2 _ h.2.1).size
  simp only [bndS] at h2
  rw [backsLarge, wbM_large hc hs u h.2.2.1, wbM_large hc hs r h.2.2.2]
  simp
  omega
theorem wbM_form {s : List Attr} (hs : s ∈ schemas) : (u : List Wb) -> (d : Nat) -> wbN u <= d -> WbM s [] u -> backsB d u = true
 | [], _, _, _ => by rw [backsB]
 | .mk n c u :: r, d, hd, h => by
  rw [WbM] at h
  rw [wbN] at hd
  rw [backsB, h.1, made_ref hs (fun x hx => by cases hx) h.2.1 (by omega), wbM_form hs u (d - 1) (by omega) h.2.2.1, wbM_form hs r d (by omega) h.2.2.2]
  simp
  omega
theorem cntB_le : (u : List Wb) -> cntBacks u <= wbN u
 | [] => by rw [cntBacks, wbN]; exact Nat.le_refl _
 | .mk n c u :: r => by
  have h1 := cntB_le u
  have h2 := cntB_le r
  rw [cntBacks, wbN]
  omega
theorem new_ok3 {w : World} {s : List Attr} {l : List Cla} {f : ZI} {v : W12} (h : IsW12 w s l f v) {c : Cla} {kd : Int} (hc : ClaG s [] kd newN c) (hk : 2 <= kd /\ kd <= 10) : MoreOk s l c := by
 by_cases hu : c.unl = []
 ·exact new_ok h hc hk hu
 obtain ⟨h1, h2, h3, h4, h5, h6⟩ := hc
 obtain ⟨k3, hm, hn⟩ := h4.resolve_right hu
 have hr := made_ref h.mem (fun x hx => by cases hx) h3 (by omega)
 have hz := made_nodes h.mem (l := l) (names := []) (fun x hx => by cases hx) 3 _ h3
 have hz0 := made_nodes h.mem (l := []) (names := []) (fun x hx => by cases hx) 3 _ h3
 have hck := chk_of h.cls
 have hx := exp_attrs hck hz0
 have hsz := (ref_tree hr).2
 refine ⟨by omega, ?_, by rw [h2]; exact h.names (nm := newN) (by decide), by rw [h2]; exact attr_new h.mem, hz, wbM_err h.mem l _ hm, by omega, wbM_large hck h.mem _ hm⟩
 have hnm : nameB newN = true := by decide +kernel
 have hb := wbM_form h.mem c.unl 16 (by omega) hm
 have hcn := cntB_le c.unl
 unfold clauseB
 rw [hr, h2, hnm, hb, h1, k3]
 rcases h5 with ⟨a1, a2⟩ | ⟨a1, a2, a3⟩
 ·rw [k3] at a1
  simp [a1, a2]
  omega
 rw [k3] at a1
 simp [mostOf] at a1
theorem more_plain {w : World} {s : List Attr} {l : List Cla} {f : ZI} {v : W12} (h : IsW12 w s l f v) {c : Cla} {kd : Int} (hc : ClaG s [] kd newN c) (hk : kd = 2 \/ kd = 3 \/ kd = 4) :
  decErr s l f = 0 /\ decErr s (l ++ [c]) f = 0 /\ ((decD s l f).ver = 4 -> (decD s (l ++ [c]) f).ver = 4 -> decD s l f = decD s (l ++ [c]) f) /\
  (((decD s l f).ver ≠ 4 \/ (decD s (l ++ [c]) f).ver ≠ 4) -> (kd = 2 -> (decD s l f).ver ≠ 4 /\ (decD s l f).ver <= (decD s (l ++ [c]) f).ver) /\ (kd ≠ 2 -> (decD s (l ++ [c]) f).ver ≠ 4)) := by
 obtain ⟨a0, a1⟩ := dec_same h.cls h.fac
 obtain ⟨b0, b1⟩ := dec_snoc (new_ok3 h hc (by omega)) h.cls h.cfit (new_fit hc) (by have := h.len; omega) h.fac
 refine ⟨a0, b0, ?_⟩
 rw [vdB_snoc] at b1
 have k1 := hc.1
 rw [a1, b1]
 have e1 : limS (val s l f) (limK (val s l f) l) c = limK (val s l f) l := by
  unfold limS
  rw [show (c.kind == 5) = false by simp; omega]
  simp
 have e2 : ∀ k : Int, 6 <= k -> greatS (val s l f) k (greatK (val s l f) k l) c = greatK (val s l f) k l := fun k hk6 => by
  unfold greatS
  rw [show (c.kind == k) = false by simp; omega]
  simp
 rw [e1, e2 6 (by omega), e2 7 (by omega), e2 8 (by omega), show (c.kind == 9) = false by simp; omega, k1]
 unfold vdB
 cases claV (val s l f) c <;> cases someB (val s l f) 2 false l <;> cases someB (val s l f) 4 true l <;> cases someB (val s l f) 3 false l <;> rcases hk with rfl | rfl | rfl <;> simp
open Go.RowKit Go.Maps
theorem dmore_calls (da : OA) (dn dc : Nat) (ma : OA) (mn mc : Nat) (kd : Int) (w : World) (h1 : IntsAt w da dn) (hdn : dn <= 1000000000000000) (h2 : IntsAt w ma mn) (hmn : mn <= 1000000000000000) (hk8 : (Lit.int .u8 kd).wf = true) (ho : HasOps w) :
  Calls Tryz.prog 5 #[.slice da dn dc, .slice ma mn mc, .int .u8 kd] w (GivesE (.bool true) w) := by
 have hk0 : 0 <= kd /\ kd <= 255 := by
  simp only [Lit.wf, Bool.and_eq_true, decide_eq_true_eq] at hk8
  exact hk8
 have HAW := hI (fun W (hW : Ext w W) => awake12_calls W (ho.ext hW))
 have HO := hI ho
 have HMA := hI (made12_calls da dn dc w h1 hdn)
 have HIM := hI (And.intro h2 hmn)
 obtain ⟨T, hT⟩ : ∃ T : Int, T = kd % 3 := ⟨_, rfl⟩
 have hT3 : T = 0 \/ T = 1 \/ T = 2 := by omega
 have hmod : kd.tmod 3 = T := by rw [hT, Int.tmod_eq_emod_of_nonneg hk0.1]
 clear hT h1 h2 ho hk8
 go_enter Tryz.func5, Tryz.ntmps5
 go_wp2_with fail
 refine HMA.out.mono ?_
 rintro r w1 ⟨s, l, f, ⟨sa, sn, sc, la, ln, lc, fa, fn, fc⟩, bd0, rfl, hiw, -, hx1⟩
 have hiw1 := hiw.mono (mask_sub _ _)
 obtain ⟨vs, hrows, hvl, hvc⟩ := hiw1.clas
 have hone := hiw1.one
 obtain ⟨lb, lo, hla, -⟩ := hrows.2.2.2 0 (by omega)
 dsimp only at hla hrows
 subst hla
 have HIW := hI hiw1
 have HX1 := hI hx1
 have hlen := hiw1.len
 have hln : ln = vs.length := hrows.1
 have HRW := hI hrows
 have HVC := hI hvc
 have HVL := hI hvl
 have HLN := hI hln
 have HVN := hI (show ∀ x ∈ vs, x.name ≠ ⟨#[110, 101, 119]⟩ from fun x hx e => by
  obtain ⟨i, hi, rfl⟩ := List.getElem_of_mem hx
  have h1 := (hvc i (by omega) hi).2.1
  exact hiw1.names (nm := ⟨#[110, 101, 119]⟩) (by decide) _ (List.getElem_mem (by omega)) (h1.symm.trans e))
 have HN1 := hI (show 1 <= ln /\ ln <= 10 by omega)
 clear hiw hiw1 hrows hvl hvc hx1 HMA hone hlen hln
 unfold W12.val
 go_upto_region 2 with fail
 obtain ⟨bw, hbw⟩ : ∃ bw : Nat, bw = w1.heap.size := ⟨_, rfl⟩
 obtain ⟨w5, hw5⟩ : ∃ w5, w5 = w1.alloc (.cells #[.slice sa sn sc, .slice (some ⟨lb, lo, none⟩) ln lc, .slice fa fn fc] 34) := ⟨_, rfl⟩
 have hx5 : Ext w1 w5 := by rw [hw5]; exact (Ext.refl _).alloc _
 have HW5 := hI (show w5.heap[bw]? = some (.cells #[.slice sa sn sc, .slice (some ⟨lb, lo, none⟩) ln lc, .slice fa fn fc] 34 (0, 0)) by rw [hw5, hbw]; exact alloc_new w1 _)
 have HX5 := hI hx5
 rw [<- hw5, <- hbw]
 clear hw5 hbw hx5
 go_upto_region 2 with fail
 go_cut [9] (fun s9 wx => s9 = .int .i64 (T + 2) /\ Ext w5 wx)
 case first =>
  obtain ⟨wg, hwg⟩ : ∃ wg, wg = w5.alloc (.cells #[.int .i64 2, .int .i64 3, .int .i64 4] 3) := ⟨_, rfl⟩
  have hg := alloc_new w5 (.cells #[.int .i64 2, .int .i64 3, .int .i64 4] 3)
  rcases hT3 with h | h | h
  all_goals
   rw [h] at hmod
   have HT := hI h
   clear h
   go_wp2_with fail
   go_meet
   case rel => exact ⟨by rw [HT.out]; rfl, (Ext.refl _).alloc _⟩
 case rest =>
 obtain ⟨rfl, hxc⟩ := hcut
 obtain ⟨w6, rfl⟩ : ∃ W : World, W = wc := ⟨_, rfl⟩
 have HW6 := hI (hxc.blk HW5.out)
 have HX6 := hI (HX5.out.trans hxc)
 obtain ⟨KD, hKD⟩ : ∃ KD : Int, KD = T + 2 := ⟨_, rfl⟩
 rw [<- hKD]
 have hK : KD = 2 \/ KD = 3 \/ KD = 4 := by omega
 clear hxc HW5 HX5 hKD hT3 hmod T
 go_upto_region 3 with fail
 obtain ⟨c0, c1, c2, cf⟩ := blk3 HW6.out
 have C0 := win_cell c0
 have C1 := win_cell c1
 have C2 := win_cell c2
 have HI5 := hI (HIW.out.mono HX6.out.sub)
 have HM5 := hI (show IntsAt w6 ma mn /\ mn <= 1000000000000000 from ⟨fun i hi => by obtain ⟨b, off, q, e, hc⟩ := HIM.out.1 i hi; exact ⟨b, off, q, e, (HX1.out.trans HX6.out).cell hc⟩, HIM.out.2⟩)
 have HCLA := hI (fun (bd : Nat) W (hd : DeckAt w6 W bd) (hx : Ext w6 W) => gclause_calls HI5.out.mem [] (schemas_ok s HI5.out.mem).1 (schemas_ok s HI5.out.mem).2.1 (schemas_ok s HI5.out.mem).2.2 (by simp) (by simp) hd sa sn sc none 0 0 (List.range W.heap.size) (HI5.out.sch.mono (sub_maskN hx (by intro y hy; rw [List.mem_singleton.1 hy]; obtain ⟨_, _, _, _, _, _, _, _, _, h⟩ := hd; exact h))) (isStrs_nil _) (by simp) KD ⟨#[110, 101, 119]⟩)
 refine chn_start (m := 8) (Er := ErD w6.heap.size) (C := Ext w6) (Φ := fun _ => True) (ErD.refl _) (fun _ _ h => ErD.of h) (fun _ _ h q => ErD.ext h q) (Ext.refl w6).drew trivial (fun _ _ _ h => h) ?_
 repeat (refine chn_plain ?_; intro K hK; go_big_quiet_op; go_big_quiet_on)
 refine chn_call (γ := Nat) (fun g => .pointer (some ⟨g, 0, none⟩)) (fun g W => DeckAt w6 W g) (fun W hW _ _ => ?_) (fun g W W' hx h => h.ext hx) ?_ ⟨0⟩
 ·unfold GivesOp; go_simp
  refine (new_callsB ma mn mc w6 W HM5.out.1 hW HM5.out.2).mono ?_
  rintro e wz ⟨g, rfl, hd, hx, _⟩
  exact ⟨_, rfl, ErD.of hx, g, rfl, hd⟩
 intro bd K hK; go_simp; go_big_quiet_on
 repeat (refine chn_plain ?_; intro K hK; go_big_quiet_op; go_big_quiet_on)
 refine chn_callA (γ := Cla × ClV × Nat × Nat) (fun x => clV x.2.1) (fun x W => ClaG s [] KD ⟨#[110, 101, 119]⟩ x.1 /\ ∀ g, (g < x.2.2.1 \/ x.2.2.2 <= g) -> IsCla (mask W [g]) x.1 x.2.1) (fun x g => g < x.2.2.1 \/ x.2.2.2 <= g) (fun W hW h _ => ?_) (fun x W W' hx h => ⟨h.1, fun g hg => (h.2 g hg).mono (mask_ext1 hx)⟩) ?_ ⟨(cla0, ⟨0, ⟨#[]⟩, ⟨0, ⟨#[]⟩, none, 0, 0, 0, 0, none, 0, 0⟩, none, 0, 0, 0⟩, 0, 0)⟩
 ·unfold GivesOp; go_simp
  refine (HCLA.out bd W h hW).mono ?_
  rintro e wz ⟨c, v, rfl, g1, g2, g3, g4, g5, g6, g7, g8, g9⟩
  have hb := h
  obtain ⟨_, _, _, _, hb, _, _, _, _, hlo⟩ := hb
  exact ⟨_, rfl, ⟨[bd], g9, fun k hk => by
   rw [List.mem_singleton.1 hk]
   exact ⟨hlo, fun cs t hcs h10 => by
    rw [hb] at hcs
    simp only [Option.some.injEq, Obj.cells.injEq] at hcs
    obtain ⟨rfl, _⟩ := hcs
    simp at h10⟩⟩, (c, v, W.heap.size, wz.heap.size), rfl, ⟨⟨g1, g2, g3, g4, g5, g6⟩, cla_apart g7⟩, fun g hg => hg⟩
 rintro ⟨c, ⟨vk, vn, vx, va, vu, vc, vm⟩, n0, n1⟩ K hK
 unfold clV
 go_simp; go_big_quiet_on
 refine chn_box (fun g => .pointer (some ⟨g, 0, none⟩)) (fun g W => w6.heap.size <= g /\ ∃ c, W.heap[g]? = some (.cells c 48 (0, 0)) /\ c.size = 10) (fun W hW => ?_) (fun g W W' h ⟨k1, c, k2, k3⟩ => ?_) (fun _ _ h => h.size) ?_
 ·unfold GivesOp; go_simp
  exact ⟨(Ext.refl W).alloc _, W.heap.size, rfl, Nat.le_refl _, by simp, hW.size, _, alloc_new W _, rfl⟩
 ·obtain ⟨c', e1, e2⟩ := h.shape k2 k3
  exact ⟨k1, c', e1, e2⟩
 intro b9 K hK; go_simp; go_big_quiet_on
 refine chn_known undef (fun W => w6.heap.size <= b9 /\ W.heap[b9]? = some (.cells #[.int .i64 vk, .string vn, .int .i64 vx.op, .string vx.name, .slice vx.aw vx.nw vx.cw, .int .i64 vx.lo, .int .i64 vx.hi, .slice vx.aa vx.na vx.ca, .slice va vu vc, .int .i64 vm] 48 (0, 0)) /\ ClaG s [] KD ⟨#[110, 101, 119]⟩ c /\ IsCla W c ⟨vk, vn, vx, va, vu, vc, vm⟩) (fun W hW hq hF => ?_) (fun W W' h q => ⟨q.1, h.blk q.2.1, q.2.2.1, q.2.2.2.mono h.sub⟩) ?_
 ·obtain ⟨_, ⟨hyl, cc, hyb, hcs⟩, _, hA⟩ := hF
  obtain ⟨v0, v1, v2, v3, v4, v5, v6, v7, v8, v9, rfl⟩ := arr10 hcs
  obtain ⟨z0, z1, z2, z3, z4, z5, z6, z7, z8, z9, zf⟩ := blk10 hyb
  have hlt := blk_lt hyb
  have HP := hI (put10v_blk hyb (v0 := .int .i64 vk) (v1 := .string vn) (v2 := .int .i64 vx.op) (v3 := .string vx.name) (v4 := .slice vx.aw vx.nw vx.cw) (v5 := .int .i64 vx.lo) (v6 := .int .i64 vx.hi) (v7 := .slice vx.aa vx.na vx.ca) (v8 := .slice va vu vc) (v9 := .int .i64 vm))
  have HQ := hI (put10v_chg W b9 (v0 := .int .i64 vk) (v1 := .string vn) (v2 := .int .i64 vx.op) (v3 := .string vx.name) (v4 := .slice vx.aw vx.nw vx.cw) (v5 := .int .i64 vx.lo) (v6 := .int .i64 vx.hi) (v7 := .slice vx.aa vx.na vx.ca) (v8 := .slice va vu vc) (v9 := .int .i64 vm))
  have HY := hI hyb
  have HH := hI (And.intro hq.1 (hq.2 b9 hA.2))
  clear hyb hq hA hcs
  unfold put10v at HP HQ
  unfold GivesOp; go_simp
  exact ⟨⟨[b9], HQ.out, fun k hk => by
   rw [List.mem_singleton.1 hk]
   exact ⟨hyl, fun cs t hb _ => by
    rw [HY.out] at hb
    simp only [Option.some.injEq, Obj.cells.injEq] at hb
    obtain ⟨_, rfl, _⟩ := hb
    exact ⟨_, HP.out, rfl⟩⟩⟩, rfl, HP.out, HH.out.1, (HH.out.2.mono (mask_grow HQ.out (fun y hy => Or.inl hy))).mono (mask_sub _ _)⟩
 intro K hK; go_simp; go_big_quiet_on
 refine chn_nil fun w9 hx hy _ => ?_
 obtain ⟨hq1, hq2, hq3, hq4⟩ := hy
 have hvn : vn = ⟨#[110, 101, 119]⟩ := hq4.2.1.trans hq3.2.1
 subst hvn
 have HXC := hI hx
 have HB9 := hI hq2
 have HCG := hI hq3
 have HIC := hI hq4
 clear hq1 hq2 hq3 hq4 hx c0 c1 c2 cf C0 C1 C2 HCLA HM5 HIM
 have HX9 := hI (Ext.refl w9)
 have HW9 := hI (HXC.out.blk HW6.out)
 have HXW := hI ((HX1.out.trans HX6.out).trans HXC.out)
 have HI9 := hI (HI5.out.mono HXC.out.sub)
 have HO9 := hI (HO.out.ext HXW.out)
 have HRW9 := hI (show IsRows w9 10 ClV.cells vs (some ⟨lb, lo, none⟩) ln lc from ⟨HRW.out.1, HRW.out.2.1, HRW.out.2.2.1, fun i hi => by
  obtain ⟨b', o', e, hc⟩ := HRW.out.2.2.2 i hi
  exact ⟨b', o', e, fun j hj => (HX6.out.trans HXC.out).cell (hc j hj)⟩⟩)
 have HVC9 := hI (show ∀ i (h1 : i < l.length) (h2 : i < vs.length), IsCla w9 l[i] vs[i] from fun i h1 h2 => (HVC.out i h1 h2).mono (HX6.out.trans HXC.out).sub)
 obtain ⟨P0, P1, P2⟩ := more_plain HI9.out HCG.out hK
 have HT0 := hI (decide_calls s l f (.agg #[.slice sa sn sc]) (some ⟨lb, lo, none⟩) ln lc fa fn fc w9 HI9.out.sch (attrs_fits HI9.out.mem) (by have := (schema_attrs (schema_zero HI9.out.mem)).2.1; omega) HI9.out.clas (by have := HN1.out; omega) HI9.out.cfit HI9.out.ints (by have h1 : fn = f.length := HI9.out.ints.1; rw [h1, factsAll_len HI9.out.facts]; have := (schemas_ok s HI9.out.mem).2.2; omega) HO9.out)
 have HTX := hI (more_decide HI9.out HO9.out (new_fit HCG.out) P1 rfl)
 unfold decV at HT0
 rw [P0] at HT0
 obtain ⟨A, hA⟩ : ∃ A, A = decD s l f := ⟨_, rfl⟩
 obtain ⟨B, hB⟩ : ∃ B, B = decD s (l ++ [c]) f := ⟨_, rfl⟩
 rw [<- hA, <- hB] at P2
 rw [<- hA] at HT0
 rw [<- hB] at HTX
 clear hA hB P0 P1 HIW HI5 HI9 HO9 HRW HVC HCG
 obtain ⟨a1, a2, a3, a4, a5, a6⟩ := A
 obtain ⟨b1, b2, b3, b4, b5', b6⟩ := B
 unfold Dec.cells at HT0 HTX
 dsimp only at HT0 HTX P2
 have HP := hI P2
 clear P2
 obtain ⟨c0, c1, c2, cf⟩ := blk3 HW9.out
 go_wp2_with fail
 refine HT0.out.mono ?_
 rintro r wa ⟨rfl, hxa⟩
 go_upto_region 5 with fail
 obtain ⟨w10, hw10⟩ : ∃ w10, w10 = wa.alloc (.cells #[.int .i64 a1, .int .i64 a2, .int .i64 a3, .int .i64 a4, .int .i64 a5, .bool a6] 29) := ⟨_, rfl⟩
 have hxb : Ext wa w10 := by rw [hw10]; exact (Ext.refl _).alloc _
 obtain ⟨p0, hp0⟩ : ∃ p0 : Nat, p0 = wa.heap.size := ⟨_, rfl⟩
 have HP0 := hI (show w10.heap[p0]? = some (.cells #[.int .i64 a1, .int .i64 a2, .int .i64 a3, .int .i64 a4, .int .i64 a5, .bool a6] 29 (0, 0)) by rw [hw10, hp0]; exact alloc_new wa _)
 rw [<- hw10, <- hp0]
 have HX10 := hI (show Ext w9 w10 from hxa.trans hxb)
 clear hw10 hp0 hxa hxb c0 c1 c2 cf HT0
 obtain ⟨c0, c1, c2, cf⟩ := blk3 (HX10.out.blk HW9.out)
 obtain ⟨f0, f1, f2, f3, f4, f5, f6, f7, f8, f9, ff⟩ := blk10 (HX10.out.blk HB9.out)
 have C0 := win_cell c0
 have C1 := win_cell c1
 have C2 := win_cell c2
 have F0 := win_cell f0
 have F1 := win_cell f1
 have F2 := win_cell f2
 have F3 := win_cell f3
 have F4 := win_cell f4
 have F5 := win_cell f5
 have F6 := win_cell f6
 have F7 := win_cell f7
 have F8 := win_cell f8
 have F9 := win_cell f9
 refine chn_start (m := 18) (Er := ErM w10.heap.size ⟨#[110, 101, 119]⟩) (C := Ext w10) (Φ := fun _ => True) (ErM.refl _ _) (fun _ _ h => ErM.of h) (fun _ _ h q => ErM.ext h q) (Ext.refl w10).drew trivial (fun _ _ _ h => h) ?_
 repeat (refine chn_plain ?_; intro K hK; go_big_quiet_op; go_big_quiet_on)
 refine chn_call (γ := Nat) (fun g => .slice (some ⟨g, 0, none⟩) 0 0) (fun g W => w10.heap.size <= g /\ W.heap[g]? = some (.cells #[] 48 (0, 0))) (fun W hW _ _ => ?_) (fun g W W' hx h => ⟨h.1, hx.blk h.2⟩) ?_ ⟨0⟩
 ·unfold GivesOp; go_simp
  exact ⟨ErM.of ((Ext.refl W).alloc _), W.heap.size, rfl, hW.size, alloc_new W _⟩
 intro g0 K hK; go_simp; go_big_quiet_on
 repeat (refine chn_plain ?_; intro K hK; go_big_quiet_op; go_big_quiet_on)
 refine chn_call (γ := Nat × Nat) (fun q => .slice (some ⟨q.1, 0, none⟩) ln q.2) (fun q W => W.ownsRow w10.heap.size 48 10 (.slice (some ⟨q.1, 0, none⟩) ln q.2) ln (vs.flatMap ClV.cells)) (fun W hW h _ => ?_) (fun q W W' hx h => owns_chg h (hx.chg []) (by simp)) ?_ ⟨(0, 0)⟩
 ·refine gives_appendA elemCla _ _ w10.heap.size (.slice (some ⟨g0, 0, none⟩) 0 0) 0 [] rfl lb lo ln lc (vs.flatMap ClV.cells) rfl (by rw [HLN.out]; exact length_flatMap_of ClV.cells 10 (fun _ => rfl) vs) (cla_one vs) (by have := HN1.out; omega) (by have := HN1.out; omega) (by omega) ⟨rfl, Or.inr ⟨g0, 0, #[], rfl, h.1, h.2, Nat.le_refl _, by unfold maxLen; omega, rfl, rfl⟩⟩ (fun j hj => hW.cell (HX10.out.cell (rows_flat HRW9.out j hj))) hW.size ?_
  intro g cap w' ho hg _ _
  exact ⟨ErM.row (vs := []) (v := .slice (some ⟨g0, 0, none⟩) 0 0) ⟨rfl, Or.inr ⟨g0, 0, #[], rfl, h.1, h.2, Nat.le_refl _, by unfold maxLen; omega, rfl, rfl⟩⟩ (Or.inl rfl) (fun _ q hq => by
   have e : g0 = q := by simpa [Value.ownBlock] using hq
   subst e
   exact ⟨_, h.2⟩) hg, (g, cap), by simp, by simpa using ho⟩
 rintro ⟨g1, q1⟩ K hK; go_simp; go_big_quiet_on
 repeat (refine chn_plain ?_; intro K hK; go_big_quiet_op; go_big_quiet_on)
 refine chn_new (fun g => .slice (some ⟨g, 0, none⟩) 1 1) (fun g W => W.heap[g]? = some (.cells #[.int .i64 vk, .string ⟨#[110, 101, 119]⟩, .int .i64 vx.op, .string vx.name, .slice vx.aw vx.nw vx.cw, .int .i64 vx.lo, .int .i64 vx.hi, .slice vx.aa vx.na vx.ca, .slice va vu vc, .int .i64 vm] 48 (0, 0))) (fun W hW => ?_) (fun g W W' h q => h.clause q rfl rfl) ?_
 ·unfold GivesOp; go_simp
  exact ⟨(Ext.refl W).alloc _, W.heap.size, rfl, alloc_new W _⟩
 intro g2 K hK; go_simp; go_big_quiet_on
 refine chn_call (γ := Nat × Nat) (fun q => .slice (some ⟨q.1, 0, none⟩) (ln + 1) q.2) (fun q W => W.ownsRow w10.heap.size 48 10 (.slice (some ⟨q.1, 0, none⟩) (ln + 1) q.2) (ln + 1) ((vs ++ [(⟨vk, ⟨#[110, 101, 119]⟩, vx, va, vu, vc, vm⟩ : ClV)]).flatMap ClV.cells)) (fun W hW h hF => ?_) (fun q W W' hx h => owns_chg h (hx.chg []) (by simp)) ?_ ⟨(0, 0)⟩
 ·refine gives_appendA elemCla _ _ w10.heap.size (.slice (some ⟨g1, 0, none⟩) ln q1) ln _ rfl g2 0 1 1 (((⟨vk, ⟨#[110, 101, 119]⟩, vx, va, vu, vc, vm⟩ : ClV)).cells) rfl rfl (by simpa using cla_one [(⟨vk, ⟨#[110, 101, 119]⟩, vx, va, vu, vc, vm⟩ : ClV)]) (by omega) (by have := HN1.out; omega) (by omega) h (fun j hj => by rw [blk_cell hF.2, Nat.zero_add]; simp [ClV.cells]) hW.size ?_
  intro g cap w' ho hg _ _
  exact ⟨ErM.row h (Or.inr HVN.out) (fun e => by have := HN1.out; omega) hg, (g, cap), rfl, by simpa using ho⟩
 rintro ⟨g3, q3⟩ K hK; go_simp; go_big_quiet_on
 repeat (refine chn_plain ?_; intro K hK; go_big_quiet_op; go_big_quiet_on)
 refine chn_known (.tuple #[.agg #[.int .i64 b1, .int .i64 b2, .int .i64 b3, .int .i64 b4, .int .i64 b5', .bool b6], .int .i64 0]) (fun _ => True) (fun W hW h _ => ?_) (fun _ _ _ h => h) ?_
 ·unfold GivesOp; go_simp
  refine (HTX.out W (HX10.out.trans hW) (some ⟨g3, 0, none⟩) (ln + 1) q3 (by rw [HLN.out, HVL.out]) (more_clas h (by simp [HLN.out]) HVL.out (HX10.out.trans hW) HVC9.out HIC.out)).mono ?_
  rintro r wz ⟨rfl, hxz⟩
  exact ⟨_, rfl, ErM.of hxz, rfl, trivial⟩
 intro K hK; go_simp; go_big_quiet_on
 repeat (refine chn_plain ?_; intro K hK; go_big_quiet_op; go_big_quiet_on)
 refine chn_new (fun g => .pointer (some ⟨g, 0, none⟩)) (fun g W => w10.heap.size <= g /\ ∃ c, W.heap[g]? = some (.cells c 29 (0, 0)) /\ c.size = 6) (fun W hW => ?_) (fun g W W' h ⟨k1, c, k2, k3⟩ => ?_) ?_
 ·unfold GivesOp; go_simp
  exact ⟨(Ext.refl W).alloc _, W.heap.size, rfl, hW.size, _, alloc_new W _, rfl⟩
 ·obtain ⟨c', e1, e2⟩ := h.shape k2 k3
  exact ⟨k1, c', e1, e2⟩
 intro p1 K hK; go_simp; go_big_quiet_on
 refine chn_known undef (fun W => W.heap[p1]? = some (.cells #[.int .i64 b1, .int .i64 b2, .int .i64 b3, .int .i64 b4, .int .i64 b5', .bool b6] 29 (0, 0))) (fun W hW _ hF => ?_) (fun W W' h q => h.blk q) ?_
 ·obtain ⟨_, hyl, c, hyb, hcs⟩ := hF
  obtain ⟨v0, v1, v2, v3, v4, v5, rfl⟩ := arr6 hcs
  obtain ⟨z0, z1, z2, z3, z4, z5, zf⟩ := blk6d hyb
  have hlt := blk_lt hyb
  have HP := hI (put6d_blk hyb (v0 := .int .i64 b1) (v1 := .int .i64 b2) (v2 := .int .i64 b3) (v3 := .int .i64 b4) (v4 := .int .i64 b5') (v5 := .bool b6))
  have HQ := hI (put6d_chg W p1 (v0 := .int .i64 b1) (v1 := .int .i64 b2) (v2 := .int .i64 b3) (v3 := .int .i64 b4) (v4 := .int .i64 b5') (v5 := .bool b6))
  have HY := hI hyb
  clear hyb
  unfold put6d at HP HQ
  unfold GivesOp; go_simp
  exact ⟨⟨[p1], HQ.out, fun j hj => by
   rw [List.mem_singleton.1 hj]
   exact ⟨hyl, fun cs t hb => by
    rw [HY.out] at hb
    simp only [Option.some.injEq, Obj.cells.injEq] at hb
    obtain ⟨rfl, rfl, _⟩ := hb
    exact ⟨fun h => by simp at h, fun _ => ⟨_, HP.out, rfl⟩⟩⟩⟩, rfl, HP.out⟩
 intro K hK; go_simp; go_big_quiet_on
 repeat (refine chn_plain ?_; intro K hK; go_big_quiet_op; go_big_quiet_on)
 refine chn_nil fun w11 hx hy _ => ?_
 have HX11 := hI (HX10.out.trans hx)
 have HS11 := hI hx
 have HP11 := hI hy
 clear hx hy c0 c1 c2 cf f0 f1 f2 f3 f4 f5 f6 f7 f8 f9 ff C0 C1 C2 F0 F1 F2 F3 F4 F5 F6 F7 F8 F9 HX10 HTX HIC HB9
 go_upto_region 6 with fail
 have HQ0 := hI (HS11.out.blk HP0.out)
 obtain ⟨r0, r1, r2, r3, r4, r5, rf⟩ := blk6d HQ0.out
 obtain ⟨q0, q1, q2, q3, q4, q5, qf⟩ := blk6d HP11.out
 have HXZ := hI (HXW.out.trans HX11.out)
 clear HQ0 HP0 HP11 HS11
 have hd : (a1 = 4 /\ b1 = 4) \/ (a1 = 4 /\ b1 ≠ 4 /\ KD ≠ 2) \/ (a1 ≠ 4 /\ KD = 2 /\ a1 <= b1) \/ (a1 ≠ 4 /\ KD ≠ 2 /\ b1 ≠ 4) := by
  have h := HP.out.2
  by_cases g1 : a1 = 4
  ·by_cases g2 : b1 = 4
   ·exact Or.inl ⟨g1, g2⟩
   exact Or.inr (Or.inl ⟨g1, g2, fun e => ((h (Or.inr g2)).1 e).1 g1⟩)
  by_cases gk : KD = 2
  ·exact Or.inr (Or.inr (Or.inl ⟨g1, gk, ((h (Or.inl g1)).1 gk).2⟩))
  exact Or.inr (Or.inr (Or.inr ⟨g1, gk, (h (Or.inl g1)).2 gk⟩))
 rcases hd with ⟨g1, g2⟩ | ⟨g1, g2, gk⟩ | ⟨g1, gk, g2⟩ | ⟨g1, gk, g2⟩
 case' inl =>
  have e := HP.out.1 g1 g2
  simp only [Dec.mk.injEq] at e
  obtain ⟨rfl, rfl, rfl, rfl, rfl, rfl⟩ := e
  have t1 : (a1 == 4) = true := by simp [g1]
 case' inr.inl =>
  have t1 : (a1 == 4) = true := by simp [g1]
  have t2 : (b1 == 4) = false := by simp [g2]
  have t3 : (KD == 2) = false := by simp [gk]
  have t4 : (b1 != 4) = true := by simp [g2]
  clear gk
 case' inr.inr.inl =>
  have t1 : (a1 == 4) = false := by simp [g1]
  have t3 : (KD == 2) = true := by simp [gk]
  have t4 : (a1 != 4) = true := by simp [g1]
  have t5 : decide (a1 <= b1) = true := decide_eq_true g2
  clear gk
 case' inr.inr.inr =>
  have t1 : (a1 == 4) = false := by simp [g1]
  have t3 : (KD == 2) = false := by simp [gk]
  have t4 : (b1 != 4) = true := by simp [g2]
  clear gk
 all_goals
  clear hK g1 g2 HP
  go_wp2_with fail
  refine (HAW.out w11 HXZ.out).mono ?_
  rintro r w17 ⟨rfl, hx17⟩
  have HXY := hI (HXZ.out.trans hx17)
  clear hx17
  go_wp2_with fail
  go_ret
  exact givesE_bool (by simp) HXY.out
end Go.Proofs.YtefjomofjejklaaGreatDoor
