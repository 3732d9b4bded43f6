/-
  Texts of the claim, joined: REvE, Shr, VrIn, EffR, EffX, Cnt, Conv, Upto.
-/
import Derived.Test.YtefjomofjejklaaGreatCc15
import Derived.Lib.SlicesCompact
import Derived.Laws.BytesString
namespace Go.Proofs.YtefjomofjejklaaGreat
set_option maxRecDepth 100000
set_option maxHeartbeats 32000000
open Go.RowKit
theorem rId_calls (h : Int) (w : World) : Calls Tryz.prog 38 #[.int .i64 h] w (GivesE (.bool (inB 1 1048576 h)) w) := by
 obtain ⟨R, hR⟩ : ∃ R, R = inB 1 1048576 h := ⟨_, rfl⟩
 rw [<- hR]
 have HR := hI (show R = (decide (1 <= h) && decide (h <= 1048576)) from hR)
 clear hR
 go_enter Tryz.func38, Tryz.ntmps38
 go_wp2_with fail
 all_goals (go_ret; exact givesE_b (by rw [HR.out]; simp_all <;> omega) (Ext.refl w))
theorem rMoney_calls (h : Int) (w : World) : Calls Tryz.prog 74 #[.int .i64 h] w (GivesE (.bool (moneyB h)) w) := by
 obtain ⟨R, hR⟩ : ∃ R, R = moneyB h := ⟨_, rfl⟩
 rw [<- hR]
 have HR := hI (show R = (decide (0 <= h) && decide (h <= 1073741824)) from hR)
 clear hR
 go_enter Tryz.func74, Tryz.ntmps74
 go_wp2_with fail
 all_goals (go_ret; exact givesE_b (by rw [HR.out]; simp_all <;> omega) (Ext.refl w))
theorem rCur_calls (h : Int) (w : World) : Calls Tryz.prog 19 #[.int .i64 h] w (GivesE (.bool (inB 0 15 h)) w) := by
 obtain ⟨R, hR⟩ : ∃ R, R = inB 0 15 h := ⟨_, rfl⟩
 rw [<- hR]
 have HR := hI (show R = (decide (0 <= h) && decide (h <= 15)) from hR)
 clear hR
 go_enter Tryz.func19, Tryz.ntmps19
 go_wp2_with fail
 all_goals (go_ret; exact givesE_b (by rw [HR.out]; simp_all <;> omega) (Ext.refl w))
def rPart (s : List Attr) (x : Ev) : Int := if x.kind = 1 \/ x.kind = 2 then (if 64 < x.items.length then 4 else itsErr s x.items) else if x.kind = 3 \/ x.kind = 4 then cashErr x.cur x.amount else 0
def rEvErr (s : List Attr) (x : Ev) : Int := if inB 1 7 x.kind = false then 11 else if fieldB x = true then 20 else rPart s x
def EvBox (ev : EvV) : Obj := .cells #[.int .i64 ev.x.number, .int .i64 ev.x.known, .int .i64 ev.x.kind, .slice ev.a ev.n ev.c, .int .i64 ev.x.cur, .int .i64 ev.x.amount, .int .i64 ev.x.target] 71 (0, 0)
def SchBox (sa : OA) (sn sc : Nat) : Obj := .cells #[.slice sa sn sc] 25 (0, 0)
def REvI (s : List Attr) (l : List It) (n : Nat) (w : World) (i : Value) (wr : World) : Prop := ∃ k : Nat, i = .int .i64 k /\ k <= n /\ (∀ j (h : j < l.length), j < k -> itErr s l[j] = 0) /\ Ext w wr
def reve12R (w : World) (sa : OA) (sn sc b off k : Nat) (ev : EvV) (v1 : ItV) (V : Bool) : Nat -> Value -> World -> Prop
 | 0, u, _ => u = .agg #[.slice sa sn sc]
 | 1, u, _ => u = .pointer (some ⟨w.heap.size + 1, 3, none⟩)
 | 2, u, _ => u = .slice (some ⟨b, off, none⟩) ev.n ev.c
 | 3, u, _ => u = .int .i64 k
 | 4, u, _ => u = .pointer (some ⟨b, off + k * 4, none⟩)
 | 5, u, _ => u = .pointer (some ⟨b, off + k * 4, none⟩)
 | 6, u, _ => u = .slice v1.a v1.n v1.c
 | 7, u, _ => u = .bool V
 | _, u, _ => u = .bool (!V)
theorem rEvent_calls (s : List Attr) (v : Value) (ev : EvV) (w : World) (hs : IsSchema w s v) (hf : ∀ x ∈ s, x.fits) (hl : s.length <= 1000000000000000) (hi : IsIts w ev.x.items ev.a ev.n ev.c) (hn2 : ev.n <= 1000000000000000) :
  Calls Tryz.prog 39 #[v, ev.val] w (GivesE (.int .i64 (rEvErr s ev.x)) w) := by
 obtain ⟨sa, sn, sc, rfl, -⟩ := hs.slice
 have HS := hI hs
 have HF := hI hf
 have HL := hI hl
 have HI := hI hi
 have HN := hI hi.len
 obtain ⟨R, hR⟩ : ∃ R, R = rEvErr s ev.x := ⟨_, rfl⟩
 rw [<- hR]
 have HR := hI hR
 clear hs hf hl hi hR
 unfold EvV.val
 obtain ⟨wa, hwa⟩ : ∃ wa, wa = (w.alloc (.cells #[.slice sa sn sc] 25)).alloc (.cells #[.int .i64 ev.x.number, .int .i64 ev.x.known, .int .i64 ev.x.kind, .slice ev.a ev.n ev.c, .int .i64 ev.x.cur, .int .i64 ev.x.amount, .int .i64 ev.x.target] 71) := ⟨_, rfl⟩
 have HXA := hI (show Ext w wa by rw [hwa]; exact ((Ext.refl _).alloc _).alloc _)
 have HB0 := hI (show wa.heap[w.heap.size]? = some (SchBox sa sn sc) by rw [hwa]; exact blk_alloc (alloc_new w _))
 have HB1 := hI (show wa.heap[w.heap.size + 1]? = some (EvBox ev) by rw [hwa]; have := alloc_new (w.alloc (.cells #[.slice sa sn sc] 25)) (.cells #[.int .i64 ev.x.number, .int .i64 ev.x.known, .int .i64 ev.x.kind, .slice ev.a ev.n ev.c, .int .i64 ev.x.cur, .int .i64 ev.x.amount, .int .i64 ev.x.target] 71); rwa [World.size_alloc] at this)
 obtain ⟨s0, sf⟩ := blk1 HB0.out
 obtain ⟨e0, e1, e2, e3, e4, e5, e6, ef⟩ := blk7 HB1.out
 by_cases hk0 : ev.x.kind < 1
 ·have k0 : decide (ev.x.kind < 1) = true := decide_eq_true hk0
  have HQ := hI (show R = 11 by rw [HR.out]; unfold rEvErr; rw [if_pos (by unfold inB; simp; omega)])
  clear hk0
  go_enter Tryz.func39, Tryz.ntmps39
  go_upto_region 1 with fail
  rw [<- hwa]
  clear hwa
  go_wp2_with fail
  go_ret
  exact givesE_of (by rw [HQ.out]) HXA.out
 have k0 : decide (ev.x.kind < 1) = false := decide_eq_false hk0
 by_cases hk7 : 7 < ev.x.kind
 ·have k7 : decide (7 < ev.x.kind) = true := decide_eq_true hk7
  have HQ := hI (show R = 11 by rw [HR.out]; unfold rEvErr; rw [if_pos (by unfold inB; simp; omega)])
  clear hk0 hk7
  go_enter Tryz.func39, Tryz.ntmps39
  go_upto_region 1 with fail
  rw [<- hwa]
  clear hwa
  go_wp2_with fail
  go_ret
  exact givesE_of (by rw [HQ.out]) HXA.out
 have k7 : decide (7 < ev.x.kind) = false := decide_eq_false hk7
 have HR2 := hI (show R = if fieldB ev.x = true then 20 else rPart s ev.x by rw [HR.out]; unfold rEvErr; rw [if_neg (by unfold inB; simp; omega)])
 clear hk0 hk7
 obtain ⟨A5, hA5⟩ : ∃ A5, A5 = (ev.x.kind == 1 || ev.x.kind == 2) := ⟨_, rfl⟩
 obtain ⟨A6, hA6⟩ : ∃ A6, A6 = (ev.x.kind == 3 || ev.x.kind == 4) := ⟨_, rfl⟩
 obtain ⟨NV, hNV⟩ : ∃ NV, (ev.x.kind != 7) = NV := ⟨_, rfl⟩
 have HA5 := hI hA5
 have HA6 := hI hA6
 have HNV := hI hNV
 clear hA5 hA6 hNV HR
 go_enter Tryz.func39, Tryz.ntmps39
 go_upto_region 1 with fail
 rw [<- hwa]
 clear hwa
 go_upto_region 3 with fail
 clear k0 k7
 go_cut [5] (fun s5 wx => s5 = .bool A5 /\ wx = wa)
 case first =>
  rcases (by omega : ev.x.kind = 1 \/ ev.x.kind = 2 \/ (ev.x.kind ≠ 1 /\ ev.x.kind ≠ 2)) with h | h | ⟨h, h'⟩
  ·have k1 : (ev.x.kind == 1) = true := by simp [h]
   have H1 := hI (show A5 = true by rw [HA5.out]; simp [h])
   clear h
   go_wp2_with fail
   go_meet
   case rel => exact ⟨by rw [H1.out], rfl⟩
  ·have k1 : (ev.x.kind == 1) = false := by simp [h]
   have k2 : (ev.x.kind == 2) = true := by simp [h]
   have H1 := hI (show A5 = true by rw [HA5.out]; simp [h])
   clear h
   go_wp2_with fail
   go_meet
   case rel => exact ⟨by rw [H1.out], rfl⟩
  have k1 : (ev.x.kind == 1) = false := by simp [h]
  have k2 : (ev.x.kind == 2) = false := by simp [h']
  have H1 := hI (show A5 = false by rw [HA5.out]; simp [h, h'])
  clear h h'
  go_wp2_with fail
  go_meet
  case rel => exact ⟨by rw [H1.out], rfl⟩
 case rest =>
 obtain ⟨rfl, rfl⟩ := hcut
 obtain ⟨wa, rfl⟩ : ∃ W : World, W = wc := ⟨_, rfl⟩
 go_upto_region 4 with fail
 go_cut [6] (fun s6 wx => s6 = .bool A6 /\ wx = wa)
 case first =>
  rcases (by omega : ev.x.kind = 3 \/ ev.x.kind = 4 \/ (ev.x.kind ≠ 3 /\ ev.x.kind ≠ 4)) with h | h | ⟨h, h'⟩
  ·have k1 : (ev.x.kind == 3) = true := by simp [h]
   have H1 := hI (show A6 = true by rw [HA6.out]; simp [h])
   clear h
   go_wp2_with fail
   go_meet
   case rel => exact ⟨by rw [H1.out], rfl⟩
  ·have k1 : (ev.x.kind == 3) = false := by simp [h]
   have k2 : (ev.x.kind == 4) = true := by simp [h]
   have H1 := hI (show A6 = true by rw [HA6.out]; simp [h])
   clear h
   go_wp2_with fail
   go_meet
   case rel => exact ⟨by rw [H1.out], rfl⟩
  have k1 : (ev.x.kind == 3) = false := by simp [h]
  have k2 : (ev.x.kind == 4) = false := by simp [h']
  have H1 := hI (show A6 = false by rw [HA6.out]; simp [h, h'])
  clear h h'
  go_wp2_with fail
  go_meet
  case rel => exact ⟨by rw [H1.out], rfl⟩
 case rest =>
 obtain ⟨rfl, rfl⟩ := hcut
 obtain ⟨wa, rfl⟩ : ∃ W : World, W = wc := ⟨_, rfl⟩
 obtain ⟨I0, hI0⟩ : ∃ I0, decide (0 < ev.n) = I0 := ⟨_, rfl⟩
 obtain ⟨C1, hC1⟩ : ∃ C1, (ev.x.cur != 0) = C1 := ⟨_, rfl⟩
 obtain ⟨C2, hC2⟩ : ∃ C2, (ev.x.amount != 0) = C2 := ⟨_, rfl⟩
 obtain ⟨T1, hT1⟩ : ∃ T1, (ev.x.target != 0) = T1 := ⟨_, rfl⟩
 obtain ⟨FB, hFB⟩ : ∃ FB, FB = fieldB ev.x := ⟨_, rfl⟩
 rw [<- hFB] at HR2
 have HFB := hI hFB
 have HFE := hI (show FB = ((!A5 && I0) || (!A6 && (C1 || C2)) || (NV && T1)) by
  rw [hFB, HA5.out, HA6.out, <- HNV.out, <- hI0, <- hC1, <- hC2, <- hT1, HN.out]
  unfold fieldB
  have e2 : (ev.x.kind != 7) = !(ev.x.kind == 7) := rfl
  rw [e2, Bool.and_comm (decide _), Bool.and_comm (_ || _), Bool.and_comm (ev.x.target != 0)])
 have hNV := HNV.out
 clear hFB
 go_upto_region 5 with fail
 go_cut [63] (fun s63 wx => s63 = .bool FB /\ wx = wa)
 case first =>
  have HXC := hI (show (A5 = false /\ I0 = true) \/ ((A5 = true \/ (A5 = false /\ I0 = false)) /\ ((A6 = false /\ C1 = true) \/ (A6 = false /\ C1 = false /\ C2 = true) \/ ((A6 = true \/ (A6 = false /\ C1 = false /\ C2 = false)) /\ (NV = false \/ (NV = true /\ T1 = true) \/ (NV = true /\ T1 = false))))) by
   cases I0 <;> cases A5 <;> cases C1 <;> cases C2 <;> cases A6 <;> cases T1 <;> cases NV <;> simp)
  have hxc := HXC.out
  clear HXC
  rcases hxc with ⟨rfl, rfl⟩ | ⟨rfl | ⟨rfl, rfl⟩, ⟨rfl, rfl⟩ | ⟨rfl, rfl, rfl⟩ | ⟨rfl | ⟨rfl, rfl, rfl⟩, rfl | ⟨rfl, rfl⟩ | ⟨rfl, rfl⟩⟩⟩
  all_goals
   go_wp2_with fail
   go_meet
   case rel => exact ⟨by rw [HFE.out]; simp, rfl⟩
 case rest =>
 obtain ⟨rfl, rfl⟩ := hcut
 obtain ⟨wa, rfl⟩ : ∃ W : World, W = wc := ⟨_, rfl⟩
 clear hNV hC1 hC2 hT1
 cases FB
 case true =>
  have HQ := hI (show R = 20 by rw [HR2.out, if_pos rfl])
  clear hI0
  go_wp2_with fail
  go_ret
  exact givesE_of (by rw [HQ.out]) HXA.out
 have HP := hI (show R = rPart s ev.x by rw [HR2.out, if_neg (by simp)])
 clear HR2
 have HIN := hI (show A5 = false -> ev.n = 0 from fun h => by
  have := HFE.out
  rw [h] at this
  have h0 : I0 = false := by
   cases hi0 : I0 with
   | false => rfl
   | true => rw [hi0] at this; simp at this
  rw [h0] at hI0
  have := of_decide_eq_false hI0
  omega)
 clear hI0 HFE
 by_cases h64 : A5 = true /\ 64 < ev.n
 ·obtain ⟨rfl, h64⟩ := h64
  have t64 : decide ((64 : Int) < (ev.n : Int)) = true := decide_eq_true (by omega)
  have HQ := hI (show R = 4 by
   rw [HP.out]; unfold rPart
   have h12 := HA5.out.symm
   rw [Bool.or_eq_true, beq_iff_eq, beq_iff_eq] at h12
   rw [if_pos h12, if_pos (by have := HN.out; omega)])
  clear h64
  go_wp2_with fail
  go_ret
  exact givesE_of (by rw [HQ.out]) HXA.out
 have HP2 := hI (show R = if itsErr s ev.x.items ≠ 0 then itsErr s ev.x.items else if A6 = true then cashErr ev.x.cur ev.x.amount else 0 by
  rw [HP.out]; unfold rPart
  have ha5 := HA5.out
  have ha6 := HA6.out
  by_cases h1 : ev.x.kind = 1 \/ ev.x.kind = 2
  ·have h5 : A5 = true := by rw [ha5]; rcases h1 with h | h <;> simp [h]
   have h6 : A6 = false := by rw [ha6]; simp; omega
   rw [if_pos h1, if_neg (by have := HN.out; intro h; exact h64 ⟨h5, by omega⟩), h6]
   by_cases hz : itsErr s ev.x.items = 0 <;> simp [hz]
  have h5 : A5 = false := by rw [ha5]; simp; omega
  have h0 : ev.x.items = [] := List.eq_nil_of_length_eq_zero (by have := HIN.out h5; have := HN.out; omega)
  have hz : itsErr s ev.x.items = 0 := by rw [h0]; rfl
  rw [if_neg h1, hz, if_neg (show ¬ ((0 : Int) ≠ 0) by simp)]
  by_cases h3 : ev.x.kind = 3 \/ ev.x.kind = 4
  ·have h6 : A6 = true := by rw [ha6]; rcases h3 with h | h <;> simp [h]
   rw [if_pos h3, h6, if_pos rfl]
  have h6 : A6 = false := by rw [ha6]; simp; omega
  rw [if_neg h3, h6, if_neg (by simp)])
 have HT := hI (show A5 = true -> decide ((64 : Int) < (ev.n : Int)) = false from fun h => decide_eq_false (fun h' => h64 ⟨h, by omega⟩))
 clear h64 HP
 go_upto_region 7 with fail
 go_cut [70] (fun s70 wx => s70 = .bool false /\ wx = wa)
 case first =>
  cases A5
  ·go_wp2_with fail
   go_meet
   case rel => exact ⟨rfl, rfl⟩
  have t64 := HT.out rfl
  go_wp2_with fail
  go_meet
  case rel => exact ⟨rfl, rfl⟩
 case rest =>
 obtain ⟨rfl, rfl⟩ := hcut
 obtain ⟨wa, rfl⟩ : ∃ W : World, W = wc := ⟨_, rfl⟩
 clear s0 sf e0 e1 e2 e3 e4 e5 e6 ef
 go_wp2_with fail
 go_loopw [7] (REvI s ev.x.items ev.n wa) (fun t _ => ev.n - (intOf t).toNat)
 case atStart => exact ⟨0, rfl, by omega, fun j _ h => by omega, Ext.refl _⟩
 case round =>
  obtain ⟨k, rfl, hk, hno, hx⟩ := hrel
  obtain ⟨wo, rfl⟩ : ∃ wo : World, wo = wr := ⟨_, rfl⟩
  have HNO := hI hno
  have HX := hI hx
  have HS1 := hI (hx.blk HB0.out)
  have HE1 := hI (hx.blk HB1.out)
  obtain ⟨s0, sf⟩ := blk1 HS1.out
  obtain ⟨e0, e1, e2, e3, e4, e5, e6, ef⟩ := blk7 HE1.out
  clear hno hx
  by_cases hkn : k < ev.n
  ·have hkl : k < ev.x.items.length := by have := HN.out; omega
   have t1 : decide ((k : Int) < (ev.n : Int)) = true := decide_eq_true (by omega)
   have tk0 : (0 : Int) <= (k : Int) := by omega
   have tk1 : (k : Int) < (ev.n : Int) := by omega
   obtain ⟨b, off, v1, hia, -, hfc, c0, c1, c2, c3⟩ := (HI.out.ext (HXA.out.trans HX.out)).at hkl
   rw [hia] at e3
   have HIA := hI hia
   obtain ⟨x, hx⟩ : ∃ x, x = ev.x.items[k] := ⟨_, rfl⟩
   rw [<- hx] at hfc c1 c2 c3
   have HIX := hI hx
   have HFX := hI (fun W (hW : Ext wo W) => rFacts_calls s _ x.facts v1.a v1.n v1.c W (HS.out.ext ((HXA.out.trans HX.out).trans hW)) HF.out HL.out (hfc.ext hW))
   obtain ⟨V, hV⟩ : ∃ V, V = factsB s x.facts := ⟨_, rfl⟩
   obtain ⟨M1, hM1⟩ : ∃ M1, M1 = moneyB x.value := ⟨_, rfl⟩
   obtain ⟨M2, hM2⟩ : ∃ M2, M2 = moneyB x.sum := ⟨_, rfl⟩
   obtain ⟨M3, hM3⟩ : ∃ M3, M3 = moneyB x.gross := ⟨_, rfl⟩
   have HE1' := hI (fun h : V = false => itErr_bad (s := s) (x := x) (hV.symm.trans h))
   have HE2' := hI (fun (h : V = true) (h2 : (M1 && M2 && M3) = false) => itErr_far (s := s) (x := x) (hV.symm.trans h) (by rw [<- hM1, <- hM2, <- hM3]; exact h2))
   have HE3' := hI (fun (h : V = true) (h2 : (M1 && M2 && M3) = true) => itErr_ok (s := s) (x := x) (hV.symm.trans h) (by rw [<- hM1, <- hM2, <- hM3]; exact h2))
   have HM1 := hI (fun W => rMoney_calls x.value W)
   have HM2 := hI (fun W => rMoney_calls x.sum W)
   have HM3 := hI (fun W => rMoney_calls x.gross W)
   rw [<- hV] at HFX
   rw [<- hM1] at HM1
   rw [<- hM2] at HM2
   rw [<- hM3] at HM3
   have HHIT := hI (show itErr s x ≠ 0 -> R = itErr s x from fun h => by
    have e := itsErr_hit hkl (fun j hj hjk => HNO.out j hj hjk) (by rw [<- HIX.out]; exact h)
    rw [<- HIX.out] at e
    rw [HP2.out, e, if_pos h])
   clear hx hfc hV hM1 hM2 hM3 hia
   go_upto_region 12 with fail
   refine wp_region_grow (m := 9) [8] (GrG wo) GrE (GrP (reve12R w sa sn sc b off k ev v1 V)) (by kernel_rfl) (by kernel_rfl) ((Ext.refl wo).drew) ?_ ?_ ?_
   ·intro i k v W W' hi hk hne hout h hE
    have hE : Ext W W' := hE
    have hi' := ltc9 hi
    clear hi hk hne hout
    rcases hi' with rfl | rfl | rfl | rfl | rfl | rfl | rfl | rfl | rfl
    ·exact h
    ·exact h
    ·exact h
    ·exact h
    ·exact h
    ·exact h
    ·exact h
    ·exact h
    exact h
   ·intro q op hq ho vs W hW hd ρ hρ
    have hq' := ltc9 hq
    clear hq
    have o2 : ρ (.tmp 2) = .pointer (some ⟨w.heap.size, 0, none⟩) := hρ.out 2 rfl
    have o3 : ρ (.tmp 3) = .pointer (some ⟨w.heap.size + 1, 0, none⟩) := hρ.out 3 rfl
    have i1 := hρ.i 1 79
    have o7 : ρ (.tmp 7) = .int .i64 k := hρ.out 7 rfl
    have i2 := hρ.i 2 80
    have i3 := hρ.i 3 81
    have i4 := hρ.i 4 82
    have i5 := hρ.i 5 83
    have i0 := hρ.i 0 78
    have i6 := hρ.i 6 84
    have i7 := hρ.i 7 85
    have hc := hρ.const
    have hfn := hρ.func
    clear hρ
    have HW := hI (show Ext wo W from hW)
    rcases hq' with rfl | rfl | rfl | rfl | rfl | rfl | rfl | rfl | rfl
    ·cases ho
     clear hd
     have g0 := HW.out.cell s0
     unfold GivesOp
     go_simp
     exact ⟨Ext.refl W, rfl⟩
    ·cases ho
     clear hd
     unfold GivesOp
     go_simp
     exact ⟨Ext.refl W, rfl⟩
    ·cases ho
     have h1 : vs 1 = _ := hd ⟨1, .data⟩ (by simp) rfl
     rw [h1] at i1
     clear hd
     have g0 := HW.out.cell e3
     unfold GivesOp
     go_simp
     exact ⟨Ext.refl W, rfl⟩
    ·cases ho
     clear hd
     unfold GivesOp
     go_simp
     exact ⟨Ext.refl W, rfl⟩
    ·cases ho
     have h2 : vs 2 = _ := hd ⟨2, .data⟩ (by simp) rfl
     rw [h2] at i2
     have h3 : vs 3 = _ := hd ⟨3, .data⟩ (by simp) rfl
     rw [h3] at i3
     clear hd
     unfold GivesOp
     go_simp
     exact ⟨Ext.refl W, rfl⟩
    ·cases ho
     have h4 : vs 4 = _ := hd ⟨4, .data⟩ (by simp) rfl
     rw [h4] at i4
     clear hd
     unfold GivesOp
     go_simp
     exact ⟨Ext.refl W, rfl⟩
    ·cases ho
     have h5 : vs 5 = _ := hd ⟨5, .data⟩ (by simp) rfl
     rw [h5] at i5
     clear hd
     have g0 := HW.out.cell c0
     unfold GivesOp
     go_simp
     exact ⟨Ext.refl W, rfl⟩
    ·cases ho
     have h0 : vs 0 = _ := hd ⟨0, .data⟩ (by simp) rfl
     rw [h0] at i0
     have h6 : vs 6 = _ := hd ⟨6, .data⟩ (by simp) rfl
     rw [h6] at i6
     clear hd
     unfold GivesOp
     go_simp
     refine (HFX.out W HW.out).mono ?_
     rintro r w5 ⟨rfl, hx5⟩
     exact ⟨_, rfl, hx5, HW.out.trans hx5, rfl⟩
    cases ho
    have h7 : vs 7 = _ := hd ⟨7, .data⟩ (by simp) rfl
    rw [h7] at i7
    clear hd
    unfold GivesOp
    go_simp
    exact ⟨Ext.refl W, rfl⟩
   intro vs W hW hR
   rw [if_pos (by decide +kernel)]
   have h8 : vs 8 = .bool (!V) := hR 8 (by simp) (by omega)
   simp only [acts, dstAt, List.range, List.range.loop, List.foldl_cons, List.foldl_nil, h8]
   go_simp
   have hW2 : Ext wo W := hW
   clear hR hW h8
   have HX5 := hI (HX.out.trans hW2)
   have HS5 := hI (hW2.blk HS1.out)
   have HE5 := hI (hW2.blk HE1.out)
   have HC5 := hI (show W.cell? ⟨b, off + k * 4 + 1, none⟩ = some (.int .i64 x.value) /\ W.cell? ⟨b, off + k * 4 + 2, none⟩ = some (.int .i64 x.sum) /\ W.cell? ⟨b, off + k * 4 + 3, none⟩ = some (.int .i64 x.gross) from ⟨hW2.cell c1, hW2.cell c2, hW2.cell c3⟩)
   clear hW2 s0 sf e0 e1 e2 e3 e4 e5 e6 ef c0 c1 c2 c3
   cases V
   ·have HQ := hI (show R = 16 by rw [HHIT.out (by rw [HE1'.out (by simp)]; omega)]; exact HE1'.out (by simp))
    go_wp2_with fail
    go_ret
    exact givesE_of (by rw [HQ.out]) (HXA.out.trans HX5.out)
   obtain ⟨e0, e1, e2, e3, e4, e5, e6, ef⟩ := blk7 HE5.out
   obtain ⟨c1, c2, c3⟩ := HC5.out
   rw [HIA.out] at e3
   go_wp2_with fail
   refine (HM1.out _).mono ?_
   rintro r w6 ⟨rfl, hx6⟩
   have HX6 := hI (HX5.out.trans hx6)
   have HE6 := hI (hx6.blk HE5.out)
   have HC6 := hI (show w6.cell? ⟨b, off + k * 4 + 1, none⟩ = some (.int .i64 x.value) /\ w6.cell? ⟨b, off + k * 4 + 2, none⟩ = some (.int .i64 x.sum) /\ w6.cell? ⟨b, off + k * 4 + 3, none⟩ = some (.int .i64 x.gross) from ⟨hx6.cell c1, hx6.cell c2, hx6.cell c3⟩)
   clear hx6 e0 e1 e2 e3 e4 e5 e6 ef c1 c2 c3
   cases M1
   ·have HQ := hI (show R = 1 by rw [HHIT.out (by rw [HE2'.out (by simp) (by simp)]; omega)]; exact HE2'.out (by simp) (by simp))
    go_wp2_with fail
    go_ret
    exact givesE_of (by rw [HQ.out]) (HXA.out.trans HX6.out)
   obtain ⟨e0, e1, e2, e3, e4, e5, e6, ef⟩ := blk7 HE6.out
   obtain ⟨c1, c2, c3⟩ := HC6.out
   rw [HIA.out] at e3
   go_wp2_with fail
   refine (HM2.out _).mono ?_
   rintro r w7 ⟨rfl, hx7⟩
   have HX7 := hI (HX6.out.trans hx7)
   have HE7 := hI (hx7.blk HE6.out)
   have HC7 := hI (show w7.cell? ⟨b, off + k * 4 + 1, none⟩ = some (.int .i64 x.value) /\ w7.cell? ⟨b, off + k * 4 + 2, none⟩ = some (.int .i64 x.sum) /\ w7.cell? ⟨b, off + k * 4 + 3, none⟩ = some (.int .i64 x.gross) from ⟨hx7.cell c1, hx7.cell c2, hx7.cell c3⟩)
   clear hx7 e0 e1 e2 e3 e4 e5 e6 ef c1 c2 c3
   cases M2
   ·have HQ := hI (show R = 1 by rw [HHIT.out (by rw [HE2'.out (by simp) (by simp)]; omega)]; exact HE2'.out (by simp) (by simp))
    go_wp2_with fail
    go_ret
    exact givesE_of (by rw [HQ.out]) (HXA.out.trans HX7.out)
   obtain ⟨e0, e1, e2, e3, e4, e5, e6, ef⟩ := blk7 HE7.out
   obtain ⟨c1, c2, c3⟩ := HC7.out
   rw [HIA.out] at e3
   go_wp2_with fail
   refine (HM3.out _).mono ?_
   rintro r w8 ⟨rfl, hx8⟩
   have HX8 := hI (HX7.out.trans hx8)
   have HE8 := hI (hx8.blk HE7.out)
   have HC8 := hI (show w8.cell? ⟨b, off + k * 4 + 1, none⟩ = some (.int .i64 x.value) /\ w8.cell? ⟨b, off + k * 4 + 2, none⟩ = some (.int .i64 x.sum) /\ w8.cell? ⟨b, off + k * 4 + 3, none⟩ = some (.int .i64 x.gross) from ⟨hx8.cell c1, hx8.cell c2, hx8.cell c3⟩)
   clear hx8 e0 e1 e2 e3 e4 e5 e6 ef c1 c2 c3
   cases M3
   ·have HQ := hI (show R = 1 by rw [HHIT.out (by rw [HE2'.out (by simp) (by simp)]; omega)]; exact HE2'.out (by simp) (by simp))
    go_wp2_with fail
    go_ret
    exact givesE_of (by rw [HQ.out]) (HXA.out.trans HX8.out)
   have HZ := hI (HE3'.out (by simp) (by simp))
   go_wp2_with fail
   go_roundw
   case rel =>
    refine ⟨k + 1, by go_num, by omega, fun j hj hjk => ?_, HX8.out⟩
    by_cases e : j = k
    ·subst e; rw [<- HIX.out]; exact HZ.out
    exact HNO.out j hj (by omega)
   case measure => simp [intOf]; omega
  have t1 : decide ((k : Int) < (ev.n : Int)) = false := decide_eq_false (by omega)
  have HR3 := hI (show R = if A6 = true then cashErr ev.x.cur ev.x.amount else 0 by
   rw [HP2.out, itsErr_zero (fun j hj => HNO.out j hj (by have := HN.out; omega))]; simp)
  clear HP2
  cases A6
  ·have HQ := hI (show R = 0 by rw [HR3.out, if_neg (by simp)])
   go_wp2_with fail
   go_ret
   exact givesE_of (by rw [HQ.out]) (HXA.out.trans HX.out)
  have HR4 := hI (show R = cashErr ev.x.cur ev.x.amount by rw [HR3.out, if_pos rfl])
  clear HR3
  go_wp2_with fail
  refine (rCur_calls ev.x.cur wo).mono ?_
  rintro r w6 ⟨rfl, hx6⟩
  have HX6 := hI (HX.out.trans hx6)
  have HE6 := hI (hx6.blk HE1.out)
  clear hx6 s0 sf e0 e1 e2 e3 e4 e5 e6 ef
  obtain ⟨e0, e1, e2, e3, e4, e5, e6, ef⟩ := blk7 HE6.out
  cases hc : inB 0 15 ev.x.cur
  ·have HQ := hI (show R = 15 by rw [HR4.out]; unfold cashErr; rw [if_pos hc])
   clear hc
   go_wp2_with fail
   go_ret
   exact givesE_of (by rw [HQ.out]) (HXA.out.trans HX6.out)
  have HR5 := hI (show R = if inB 1 1073741824 ev.x.amount = false then 1 else 0 by rw [HR4.out]; unfold cashErr; rw [if_neg (by simp [hc])])
  clear hc
  by_cases ha0 : ev.x.amount < 1
  ·have u0 : decide (ev.x.amount < 1) = true := decide_eq_true ha0
   have HQ := hI (show R = 1 by rw [HR5.out, if_pos (by unfold inB; simp; omega)])
   clear ha0
   go_wp2_with fail
   go_ret
   exact givesE_of (by rw [HQ.out]) (HXA.out.trans HX6.out)
  have u0 : decide (ev.x.amount < 1) = false := decide_eq_false ha0
  by_cases ha1 : 1073741824 < ev.x.amount
  ·have u1 : decide (1073741824 < ev.x.amount) = true := decide_eq_true ha1
   have HQ := hI (show R = 1 by rw [HR5.out, if_pos (by unfold inB; simp; omega)])
   clear ha0 ha1
   go_wp2_with fail
   go_ret
   exact givesE_of (by rw [HQ.out]) (HXA.out.trans HX6.out)
  have u1 : decide (1073741824 < ev.x.amount) = false := decide_eq_false ha1
  have HQ := hI (show R = 0 by rw [HR5.out, if_neg (by unfold inB; simp; omega)])
  clear ha0 ha1
  go_wp2_with fail
  go_ret
  exact givesE_of (by rw [HQ.out]) (HXA.out.trans HX6.out)
def ShrQ (a num : Nat) (w : World) (e : Ending) (w' : World) : Prop := e = .returned (.tuple #[.int .i64 (mulH a num 1000000).1, .int .i64 (mulH a num 1000000).2]) /\ Ext w w'
theorem share_calls (a num : Nat) (w : World) (hb : a <= 1000000000000000000) : Calls Tryz.prog 89 #[.int .i64 a, .int .i64 num, .int .i64 4] w (ShrQ a num w) := by
 have HM := hI (mulDiv_calls a num 1000000 w hb)
 obtain ⟨R, hR⟩ : ∃ R, R = mulH a num 1000000 := ⟨_, rfl⟩
 unfold MulQ at HM
 unfold ShrQ
 rw [<- hR] at HM ⊢
 clear hR
 go_enter Tryz.func89, Tryz.ntmps89
 go_wp2_with fail
 refine HM.out.mono ?_
 rintro r w1 ⟨rfl, hx1⟩
 have HX1 := hI hx1
 clear hx1
 go_wp2_with fail
 go_ret2
 exact ⟨rfl, HX1.out⟩
def okDec (d : Dec) : Prop := (d.ver = 4 /\ (d.lim = -1 \/ (0 <= d.lim /\ d.lim <= 1073741824)) /\ (0 <= d.ded /\ d.ded <= 1073741824) /\ (0 <= d.fra /\ d.fra <= 1073741824) /\ (0 <= d.coi /\ d.coi <= 1000000)) \/ (1 <= d.ver /\ d.ver <= 3 /\ d = ⟨d.ver, 0, 0, 0, 0, false⟩)
theorem decErr_calls (d : Dec) (w : World) (hd : okDec d) : Calls Tryz.prog 88 #[.agg d.cells] w (GivesE (.int .i64 0) w) := by
 rcases hd with ⟨h4, hl, ⟨d1, d2⟩, ⟨f1, f2⟩, ⟨c1, c2⟩⟩ | ⟨h1, h2, h3⟩
 ·obtain ⟨ver, lim, ded, fra, coi, avg⟩ := d
  dsimp only at h4 hl d1 d2 f1 f2 c1 c2
  subst h4
  unfold Dec.cells
  dsimp only
  have m : ∀ x : Int, 0 <= x /\ x <= 1073741824 -> ∀ W, Calls Tryz.prog 74 #[.int .i64 x] W (GivesE (.bool true) W) := fun x hx W => by
   have h := rMoney_calls x W
   rw [show moneyB x = true by unfold moneyB inB; simp; omega] at h
   exact h
  have HMd := hI (m ded ⟨d1, d2⟩)
  have HMf := hI (m fra ⟨f1, f2⟩)
  have t1 : decide (coi < 0) = false := decide_eq_false (by omega)
  have t2 : decide ((1000000 : Int) < coi) = false := decide_eq_false (by omega)
  rcases hl with hl | hl
  ·subst hl
   clear m
   have HX0 := hI (show Ext w (w.alloc (.cells #[.int .i64 4, .int .i64 (-1), .int .i64 ded, .int .i64 fra, .int .i64 coi, .bool avg] 124)) from (Ext.refl _).alloc _)
   have HB := hI (alloc_new w (.cells #[.int .i64 4, .int .i64 (-1), .int .i64 ded, .int .i64 fra, .int .i64 coi, .bool avg] 124))
   go_enter Tryz.func88, Tryz.ntmps88
   go_wp2_with fail
   refine (HMd.out _).mono ?_
   rintro r w1 ⟨rfl, hx1⟩
   have HX1 := hI (HX0.out.trans hx1)
   have HB := hI (hx1.blk HB.out)
   clear hx1
   obtain ⟨z0, z1, z2, z3, z4, z5, zf⟩ := blk6d HB.out
   go_wp2_with fail
   refine (HMf.out _).mono ?_
   rintro r w2 ⟨rfl, hx2⟩
   have HX2 := hI (HX1.out.trans hx2)
   have HB := hI (hx2.blk HB.out)
   clear hx2 z0 z1 z2 z3 z4 z5 zf
   obtain ⟨z0, z1, z2, z3, z4, z5, zf⟩ := blk6d HB.out
   go_wp2_with fail
   go_ret
   exact givesE_of rfl HX2.out
  have HMl := hI (m lim hl)
  have t0 : (lim == -1) = false := by simp; omega
  have t3 : (lim != -1) = true := by simp; omega
  clear m
  have HX0 := hI (show Ext w (w.alloc (.cells #[.int .i64 4, .int .i64 lim, .int .i64 ded, .int .i64 fra, .int .i64 coi, .bool avg] 124)) from (Ext.refl _).alloc _)
  have HB := hI (alloc_new w (.cells #[.int .i64 4, .int .i64 lim, .int .i64 ded, .int .i64 fra, .int .i64 coi, .bool avg] 124))
  go_enter Tryz.func88, Tryz.ntmps88
  go_wp2_with fail
  refine (HMl.out _).mono ?_
  rintro r w1 ⟨rfl, hx1⟩
  have HX1 := hI (HX0.out.trans hx1)
  have HB := hI (hx1.blk HB.out)
  clear hx1
  obtain ⟨z0, z1, z2, z3, z4, z5, zf⟩ := blk6d HB.out
  go_wp2_with fail
  refine (HMd.out _).mono ?_
  rintro r w2 ⟨rfl, hx2⟩
  have HX2 := hI (HX1.out.trans hx2)
  have HB := hI (hx2.blk HB.out)
  clear hx2 z0 z1 z2 z3 z4 z5 zf
  obtain ⟨z0, z1, z2, z3, z4, z5, zf⟩ := blk6d HB.out
  go_wp2_with fail
  refine (HMf.out _).mono ?_
  rintro r w3 ⟨rfl, hx3⟩
  have HX3 := hI (HX2.out.trans hx3)
  have HB := hI (hx3.blk HB.out)
  clear hx3 z0 z1 z2 z3 z4 z5 zf
  obtain ⟨z0, z1, z2, z3, z4, z5, zf⟩ := blk6d HB.out
  go_wp2_with fail
  go_ret
  exact givesE_of rfl HX3.out
 obtain ⟨ver, lim, ded, fra, coi, avg⟩ := d
 dsimp only at h1 h2 h3
 obtain ⟨-, rfl, rfl, rfl, rfl, rfl⟩ := Dec.mk.inj h3
 unfold Dec.cells
 dsimp only
 go_enter Tryz.func88, Tryz.ntmps88
 go_wp2_with fail
 go_ret
 exact givesE_of rfl ((Ext.refl _).alloc _)
def Pv (s : List Attr) (l : List Cla) (e : Ex) : Prop := okTree e /\ nodesErr s l e = 0 /\ expF l (l.length + 1) e <= 2000 /\ e.size <= 300
theorem ref_tree {e : Ex} (h : refExprB e = true) : okTree e /\ e.size <= 300 := by
 rw [refExprB, Bool.and_eq_true, Bool.and_eq_true] at h
 refine ⟨(nodes_ok _).1 h.2, ?_⟩
 have := h.1.2
 simp only [decide_eq_true_eq] at this
 unfold refSize at this
 omega
theorem wbs_chk {s : List Attr} {l : List Cla} : (u : List Wb) -> (d : Nat) -> backsB d u = true -> backsErr s l u = 0 -> backsLarge l u = false -> cntBacks u <= 40 -> wbsOkT (Pv s l) u /\ u.length <= 40
 | [], _, _, _, _, _ => ⟨by unfold wbsOkT; trivial, by simp⟩
 | .mk n c u :: r, d, h1, h2, h3, h4 => by
  rw [backsB] at h1
  simp only [Bool.and_eq_true] at h1
  obtain ⟨⟨⟨⟨_, _⟩, g1⟩, g2⟩, g3⟩ := h1
  rw [backsErr] at h2
  by_cases k1 : nodesErr s l c ≠ 0
  ·rw [if_pos k1] at h2; exact absurd h2 k1
  rw [if_neg k1] at h2
  by_cases k2 : backsErr s l u ≠ 0
  ·rw [if_pos k2] at h2; exact absurd h2 k2
  rw [if_neg k2] at h2
  rw [backsLarge] at h3
  simp only [Bool.or_eq_false_iff, decide_eq_false_iff_not] at h3
  obtain ⟨⟨q1, q2⟩, q3⟩ := h3
  rw [cntBacks] at h4
  obtain ⟨e1, e2⟩ := ref_tree g1
  obtain ⟨u1, u2⟩ := wbs_chk u (d - 1) g2 (by simpa using k2) q2 (by omega)
  obtain ⟨r1, r2⟩ := wbs_chk r d g3 h2 q3 (by omega)
  have hl : ∀ (x : List Wb), x.length <= cntBacks x := fun x => by
   induction x with
   | nil => simp
   | cons y t ih => cases y with | mk _ _ _ => rw [cntBacks]; simp; omega
  have hr := hl r
  refine ⟨?_, by simp; omega⟩
  unfold wbsOkT
  exact ⟨⟨e1, by simpa using k1, by unfold expanded at q1; omega, e2⟩, u1, by omega, r1⟩
structure ClaK (s : List Attr) (l : List Cla) (x : Cla) : Prop where
 cond : Pv s l x.cond
 wbs : wbsOkT (Pv s l) x.unl
 len : x.unl.length <= 40
 kind : 1 <= x.kind /\ x.kind <= 10
 amt : (mostOf x.kind = 0 /\ x.amount = 0) \/ (1 <= x.amount /\ x.amount <= mostOf x.kind)
theorem claK_of {s : List Attr} {l : List Cla} (h : (clausesErr s l).2 = 0) : ∀ x ∈ l, ClaK s l x := by
 have hc := chk_of h
 unfold clausesErr at h
 rw [if_neg (by simp [hc.sch]), if_neg (by have := hc.len; omega)] at h
 by_cases h3 : (firstI (claErr s l) l.length).2 ≠ 0
 ·rw [if_pos h3] at h; exact absurd h h3
 rw [if_neg h3] at h
 by_cases h4 : ¬ Sorts (l.map Cla.dfn)
 ·rw [if_pos h4] at h; simp at h
 rw [if_neg h4] at h
 have h1 := firstI_none l.length (by simpa using h3)
 have h2 := firstI_none l.length h
 intro x hx
 obtain ⟨i, hi, rfl⟩ := List.getElem_of_mem hx
 have g := h1 i hi
 have g2 := h2 i hi
 unfold claErr at g
 unfold claLarge at g2
 rw [getD_clK hi] at g g2
 by_cases q1 : clauseB l[i] = false
 ·rw [if_pos q1] at g; cases g
 rw [if_neg q1] at g
 by_cases q2 : (findAt l l[i].name).getD 0 < i
 ·rw [if_pos q2] at g; cases g
 rw [if_neg q2] at g
 by_cases q3 : (attrAt s l[i].name).isSome
 ·rw [if_pos q3] at g; cases g
 rw [if_neg q3] at g
 by_cases q4 : nodesErr s l l[i].cond ≠ 0
 ·rw [if_pos q4] at g; exact absurd g q4
 rw [if_neg q4] at g
 by_cases q5 : 2000 < expanded l l[i].cond \/ backsLarge l l[i].unl = true
 ·rw [if_pos q5] at g2; cases g2
 simp only [not_or] at q5
 have q1' : clauseB l[i] = true := by simpa using q1
 simp only [clauseB, Bool.and_eq_true, Bool.or_eq_true, decide_eq_true_eq, beq_iff_eq] at q1'
 obtain ⟨⟨⟨⟨⟨a1, a2⟩, _⟩, a4⟩, a5⟩, a6⟩ := q1'
 obtain ⟨e1, e2⟩ := ref_tree a4
 have hw : wbsOkT (Pv s l) l[i].unl /\ l[i].unl.length <= 40 := by
  rcases a5 with a5 | ⟨⟨_, b2⟩, b3⟩
  ·have : l[i].unl = [] := List.eq_nil_of_length_eq_zero a5
   rw [this]
   exact ⟨by unfold wbsOkT; trivial, by simp⟩
  exact wbs_chk _ _ b3 g (by simpa using q5.2) b2
 refine ⟨⟨e1, by simpa using q4, by unfold expanded at q5; omega, e2⟩, hw.1, hw.2, ⟨a1, a2⟩, ?_⟩
 rcases a6 with ⟨b1, b2⟩ | ⟨⟨b1, b2⟩, b3⟩
 ·exact Or.inl ⟨b1, b2⟩
 exact Or.inr ⟨b2, b3⟩
theorem verIn_of {s : List Attr} {l : List Cla} {f : ZI} (h : (clausesErr s l).2 = 0) (hfa : factsAll s f = true) (hsf : ∀ x ∈ s, x.fits) {w0 : World} {sa : OA} {sn sc : Nat} {a : OA} {n c : Nat} {fa : OA} {fn : Nat} (fc : Nat)
  (hs : IsSchema w0 s (.agg #[.slice sa sn sc])) (hl : IsClas w0 l a n c) (hi : IsIntF w0 f fa fn) : VerIn w0 sa sn sc l a n c fa fn fc (valF s l f (l.length + 1)) (Pv s l) where
 tr := fun e x W hW hp he => rTruth_calls s l f (chk_of h) hfa hsf a n c fa fn fc (l.length + 1) 300 e x.val _ W hp.2.2.2 (by omega) hp.1 hp.2.1 hp.2.2.1 (hs.ext hW) (hl.ext hW) he (hi.ext hW)
 cla := hl
 few := by have := hl.len; have := (chk_of h).len; omega
 ok := fun x hx => by
  have hk := claK_of h x hx
  exact ⟨hk.cond, hk.wbs, by have := hk.len; omega⟩
theorem amt_in {s : List Attr} {l : List Cla} {x : Cla} (h : ClaK s l x) : 0 <= x.amount /\ x.amount <= mostOf x.kind := by
 rcases h.amt with ⟨h1, h2⟩ | ⟨h1, h2⟩
 ·rw [h1, h2]; omega
 omega
theorem greatK_in {V : Ex -> Bool} {k M : Int} (hM : 0 <= M) : (l : List Cla) -> (∀ x ∈ l, x.kind = k -> x.amount <= M) -> ∀ m, 0 <= m -> m <= M -> 0 <= l.foldl (greatS V k) m /\ l.foldl (greatS V k) m <= M
 | [], _, m, h1, h2 => ⟨h1, h2⟩
 | x :: r, h, m, h1, h2 => by
  have hx := h x (by simp)
  have hs : 0 <= greatS V k m x /\ greatS V k m x <= M := by
   unfold greatS
   split
   ·rename_i hh
    simp only [Bool.and_eq_true, beq_iff_eq] at hh
    have := hx hh.1
    omega
   omega
  exact greatK_in hM r (fun y hy => h y (List.mem_cons_of_mem _ hy)) _ hs.1 hs.2
theorem limK_in {V : Ex -> Bool} : (l : List Cla) -> (∀ x ∈ l, x.kind = 5 -> 0 <= x.amount /\ x.amount <= 1073741824) -> ∀ m, (m = -1 \/ (0 <= m /\ m <= 1073741824)) -> l.foldl (limS V) m = -1 \/ (0 <= l.foldl (limS V) m /\ l.foldl (limS V) m <= 1073741824)
 | [], _, m, h => h
 | x :: r, h, m, hm => by
  have hx := h x (by simp)
  refine limK_in r (fun y hy => h y (List.mem_cons_of_mem _ hy)) _ ?_
  unfold limS
  split
  ·rename_i hh
   simp only [Bool.and_eq_true, beq_iff_eq] at hh
   exact Or.inr (hx hh.1.1)
  exact hm
theorem verB_ok {s : List Attr} {l : List Cla} (h : (clausesErr s l).2 = 0) (V : Ex -> Bool) : okDec (verB V l) := by
 have hk := claK_of h
 have ha : ∀ x ∈ l, ∀ k M, mostOf k = M -> x.kind = k -> x.amount <= M := fun x hx k M hM e => by
  have := amt_in (hk x hx)
  rw [e, hM] at this
  exact this.2
 unfold verB
 split
 ·exact Or.inr ⟨by decide, by decide, rfl⟩
 split
 ·exact Or.inr ⟨by decide, by decide, rfl⟩
 split
 ·exact Or.inr ⟨by decide, by decide, rfl⟩
 refine Or.inl ⟨rfl, ?_, ?_, ?_, ?_⟩
 ·exact limK_in l (fun x hx e => by
   have := amt_in (hk x hx)
   rw [e] at this
   exact this) _ (Or.inl rfl)
 ·exact greatK_in (by decide) l (fun x hx e => ha x hx 6 _ rfl e) 0 (by decide) (by decide)
 ·exact greatK_in (by decide) l (fun x hx e => ha x hx 7 _ rfl e) 0 (by decide) (by decide)
 exact greatK_in (by decide) l (fun x hx e => ha x hx 8 _ rfl e) 0 (by decide) (by decide)
def voidedBy (h n : Int) : List Ev -> Bool
 | [] => false
 | y :: r => (isVoid y && (y.target == n) && (decide (y.known <= h) && !voidedBy h y.number r)) || voidedBy h n r
def countsB (h : Int) (x : Ev) (r : List Ev) : Bool := decide (x.known <= h) && !voidedBy h x.number r
def effFwd (h : Int) : List Ev -> List Ev
 | [] => []
 | x :: r => if countsB h x r = true then x :: effFwd h r else effFwd h r
def itStep (p : Bool × List It) (x : Ev) : Bool × List It := if x.kind = 1 then (true, x.items) else if x.kind = 2 then (p.1, x.items) else p
def itsK (l : List Ev) : Bool × List It := l.foldl itStep (false, [])
theorem itsK_take {l : List Ev} {k : Nat} (hk : k < l.length) : itsK (l.take (k + 1)) = itStep (itsK (l.take k)) l[k] := by
 unfold itsK
 rw [List.take_succ_eq_append_getElem hk, List.foldl_append]
 rfl
theorem itsK_mem : (l : List Ev) -> (p : Bool × List It) -> (l.foldl itStep p).2 = p.2 \/ ∃ x ∈ l, (l.foldl itStep p).2 = x.items
 | [], _ => Or.inl rfl
 | x :: r, p => by
  rw [List.foldl_cons]
  rcases itsK_mem r (itStep p x) with h | ⟨y, hy, h⟩
  ·by_cases h1 : x.kind = 1
   ·refine Or.inr ⟨x, by simp, ?_⟩; rw [h, itStep, if_pos h1]
   by_cases h2 : x.kind = 2
   ·refine Or.inr ⟨x, by simp, ?_⟩; rw [h, itStep, if_neg h1, if_pos h2]
   refine Or.inl ?_; rw [h, itStep, if_neg h1, if_neg h2]
  exact Or.inr ⟨y, by simp [hy], h⟩
def CntI (hour : Int) (l : List Ev) (n i b0 : Nat) (o : Obj) (x : Int) (w : World) (t : Value) (wr : World) : Prop := ∃ k : Nat, t = .int .i64 k /\ i < k /\ k <= n /\ voidedBy hour x (l.drop (i + 1)) = voidedBy hour x (l.drop k) /\ wr.heap[b0]? = some o /\ Ext w wr
theorem voidedBy_step (hour x : Int) {l : List Ev} {k : Nat} (hk : k < l.length) : voidedBy hour x (l.drop k) = ((isVoid l[k] && (l[k].target == x) && countsB hour l[k] (l.drop (k + 1))) || voidedBy hour x (l.drop (k + 1))) := by
 rw [List.drop_eq_getElem_cons hk, voidedBy]
 rfl
def GrGC (wr : World) (_ : ZN) (_ : Nat -> Value) (W : World) : Prop := Ext wr W
def cnt6R (b0 b off n cap i k : Nat) (hour : Int) (c : Clm) (y x : Ev) (B : Bool) : Nat -> Value -> World -> Prop
 | 0, u, _ => u = .pointer (some ⟨b0, 6, none⟩)
 | 1, u, _ => u = .slice (some ⟨b, off, none⟩) n cap
 | 2, u, _ => u = .int .i64 k
 | 3, u, _ => u = .pointer (some ⟨b, off + k * 7, none⟩)
 | 4, u, _ => u = .pointer (some ⟨b, off + k * 7 + 2, none⟩)
 | 5, u, _ => u = .int .i64 y.kind
 | 6, u, _ => u = .bool true
 | 7, u, _ => u = .bool true
 | 8, u, _ => u = .pointer (some ⟨b0, 6, none⟩)
 | 9, u, _ => u = .slice (some ⟨b, off, none⟩) n cap
 | 10, u, _ => u = .int .i64 k
 | 11, u, _ => u = .pointer (some ⟨b, off + k * 7, none⟩)
 | 12, u, _ => u = .pointer (some ⟨b, off + k * 7 + 6, none⟩)
 | 13, u, _ => u = .int .i64 y.target
 | 14, u, _ => u = .pointer (some ⟨b0, 6, none⟩)
 | 15, u, _ => u = .slice (some ⟨b, off, none⟩) n cap
 | 16, u, _ => u = .int .i64 i
 | 17, u, _ => u = .pointer (some ⟨b, off + i * 7, none⟩)
 | 18, u, _ => u = .pointer (some ⟨b, off + i * 7, none⟩)
 | 19, u, _ => u = .int .i64 x.number
 | 20, u, _ => u = .bool true
 | 21, u, _ => u = .bool true
 | 22, u, _ => u = .bool true
 | 23, u, _ => u = .agg #[.int .i64 c.id, .int .i64 c.policy, .int .i64 c.risk, .int .i64 c.hour, .int .i64 c.peril, .int .i64 c.area, .slice (some ⟨b, off, none⟩) n cap]
 | 24, u, _ => u = .int .i64 k
 | 25, u, _ => u = .int .i64 hour
 | 26, u, _ => u = .bool B
 | _, u, _ => u = .bool B
theorem rcounts_calls (c : Clm) (a : OA) (n cap : Nat) (hour : Int) (hn2 : n <= 1000000000000) : (m i : Nat) -> (w : World) -> n - i <= m -> i < n -> IsEvs w c.events a n cap ->
  Calls Tryz.prog 57 #[ClmArg c a n cap, .int .i64 i, .int .i64 hour] w (GivesE (.bool (countsB hour (c.events.getD i ev0) (c.events.drop (i + 1)))) w)
 | 0, i, _, hm, hin, _ => absurd hin (by omega)
 | m + 1, i, w, hm, hin, hi => by
  have HIH := hI (fun (k : Nat) (W : World) (hk : i < k) (hkn : k < n) (hW : Ext w W) => rcounts_calls c a n cap hour hn2 m k W (by omega) hkn (hi.ext hW))
  have HN := hI hi.len
  obtain ⟨vs, hrows, hvs, -⟩ := hi
  obtain ⟨l, hl⟩ : ∃ l, l = c.events := ⟨_, rfl⟩
  rw [<- hl] at HIH HN hvs ⊢
  have hil : i < l.length := by have := HN.out; omega
  have hiv : i < vs.length := by rw [hvs] at hil; simpa using hil
  have HV := hI hvs
  have HROWS := hI hrows
  obtain ⟨b, off, rfl, c0, c1, c2, c3, c4, c5, c6⟩ := rows_seven hrows hiv
  obtain ⟨x, hx⟩ : ∃ x, x = vs[i].x := ⟨_, rfl⟩
  have HXV := hI hx
  have HGX := hI (show l.getD i ev0 = x by rw [List.getD_eq_getElem?_getD, List.getElem?_eq_getElem hil, hx, Option.getD_some]; simp [hvs])
  rw [HGX.out]
  rw [<- hx] at c0 c1
  clear hx
  obtain ⟨R, hR⟩ : ∃ R, R = countsB hour x (l.drop (i + 1)) := ⟨_, rfl⟩
  rw [<- hR]
  have HR := hI (show R = (decide (x.known <= hour) && !voidedBy hour x.number (l.drop (i + 1))) from hR)
  clear hrows hvs hl hR c3 c4 c5 c6 c2
  unfold ClmArg at HIH ⊢
  obtain ⟨wa, hwa⟩ : ∃ wa, wa = w.alloc (.cells #[.int .i64 c.id, .int .i64 c.policy, .int .i64 c.risk, .int .i64 c.hour, .int .i64 c.peril, .int .i64 c.area, .slice (some ⟨b, off, none⟩) n cap] 33) := ⟨_, rfl⟩
  have HXA := hI (show Ext w wa by rw [hwa]; exact (Ext.refl _).alloc _)
  have HB0 := hI (show wa.heap[w.heap.size]? = some (.cells #[.int .i64 c.id, .int .i64 c.policy, .int .i64 c.risk, .int .i64 c.hour, .int .i64 c.peril, .int .i64 c.area, .slice (some ⟨b, off, none⟩) n cap] 33 (0, 0)) by rw [hwa]; exact alloc_new w _)
  obtain ⟨a0, a1, a2, a3, a4, a5, a6, af⟩ := blk7 HB0.out
  have d1 := HXA.out.cell c1
  have HC0 := hI c0
  clear c0 c1
  have ti0 : (0 : Int) <= (i : Int) := by omega
  have ti1 : (i : Int) < (n : Int) := by omega
  have ti2 : decide (0 <= (i : Int)) = true := decide_eq_true ti0
  have ti3 : decide ((i : Int) < (n : Int)) = true := decide_eq_true ti1
  by_cases hkn : hour < x.known
  ·have tk : decide (hour < x.known) = true := decide_eq_true hkn
   have HQ := hI (show R = false by rw [HR.out]; simp; omega)
   clear hkn
   go_enter Tryz.func57, Tryz.ntmps57
   go_upto_region 1 with fail
   rw [<- hwa]
   clear hwa
   go_wp2_with fail
   go_ret
   exact givesE_bool (by rw [HQ.out]) HXA.out
  have tk : decide (hour < x.known) = false := decide_eq_false hkn
  have HQ := hI (show R = !voidedBy hour x.number (l.drop (i + 1)) by rw [HR.out, decide_eq_true (by omega : x.known <= hour)]; rfl)
  clear hkn
  go_enter Tryz.func57, Tryz.ntmps57
  go_upto_region 1 with fail
  rw [<- hwa]
  clear hwa
  go_wp2_with fail
  clear a0 a1 a2 a3 a4 a5 a6 af d1
  go_loopw [7] (CntI hour l n i w.heap.size (.cells #[.int .i64 c.id, .int .i64 c.policy, .int .i64 c.risk, .int .i64 c.hour, .int .i64 c.peril, .int .i64 c.area, .slice (some ⟨b, off, none⟩) n cap] 33 (0, 0)) x.number w) (fun t _ => n - (intOf t).toNat)
  case atStart => exact ⟨i + 1, by go_num, by omega, by omega, rfl, HB0.out, HXA.out⟩
  case round =>
   obtain ⟨k, rfl, hik, hkn, hv, hb, hx⟩ := hrel
   obtain ⟨wo, rfl⟩ : ∃ wo : World, wo = wr := ⟨_, rfl⟩
   obtain ⟨b0, hb0⟩ : ∃ b0, b0 = w.heap.size := ⟨_, rfl⟩
   rw [<- hb0] at hb ⊢
   have HB := hI hb
   have HX := hI hx
   have HVB := hI hv
   have HB00 := hI hb0
   obtain ⟨a0, a1, a2, a3, a4, a5, a6, af⟩ := blk7 hb
   clear hb hx hv hb0 HB0
   by_cases hkn2 : k < n
   ·have hkl : k < l.length := by have := HN.out; omega
    have hkv : k < vs.length := by have := HV.out; rw [this] at hkl; simpa using hkl
    have HLK := hI (show l[k] = vs[k].x by simp [HV.out])
    obtain ⟨bb, oo, e, e0, e1, e2, e3, e4, e5, e6⟩ := rows_seven (HROWS.out.ext HX.out) hkv
    simp only [Option.some.injEq, Addr.mk.injEq, and_true] at e
    obtain ⟨rfl, rfl⟩ := e
    obtain ⟨y, hy⟩ : ∃ y, y = vs[k].x := ⟨_, rfl⟩
    rw [<- hy] at e0 e2 e6 HLK
    have hgy : l.getD k ev0 = y := by rw [List.getD_eq_getElem?_getD, List.getElem?_eq_getElem hkl, Option.getD_some, HLK.out]
    have HST := hI (voidedBy_step hour x.number hkl)
    rw [HLK.out] at HST
    have HC := hI (fun W (hW : Ext w W) => HIH.out k W hik hkn2 hW)
    rw [hgy] at HC
    obtain ⟨B, hB⟩ : ∃ B, B = countsB hour y (l.drop (k + 1)) := ⟨_, rfl⟩
    rw [<- hB] at HC HST
    have d0 := HX.out.cell HC0.out
    clear hy hgy hB e0 e1 e3 e4 e5 HIH
    have t1 : decide ((k : Int) < (n : Int)) = true := decide_eq_true (by omega)
    have tk0 : (0 : Int) <= (k : Int) := by omega
    have tk1 : (k : Int) < (n : Int) := by omega
    cases hq7 : (y.kind == 7)
    ·have HN7 := hI (show isVoid y = false from hq7)
     go_wp2_with fail
     go_quiet (fail)
     go_wp2_with fail
     go_roundw
     case rel => exact ⟨k + 1, by go_num, by omega, by omega, by rw [HVB.out, HST.out, HN7.out]; rfl, HB.out, HX.out.drewN _⟩
     case measure => simp [intOf]; omega
    have HN7 := hI (show isVoid y = true from hq7)
    cases hqt : (y.target == x.number)
    ·have HNT := hI hqt
     go_wp2_with fail
     go_quiet (fail)
     go_wp2_with fail
     go_roundw
     case rel => exact ⟨k + 1, by go_num, by omega, by omega, by rw [HVB.out, HST.out, HN7.out, HNT.out]; rfl, HB.out, HX.out.drewN _⟩
     case measure => simp [intOf]; omega
    have HNT := hI hqt
    go_upto_region 6 with fail
    refine wp_region_growLG (n := 53) (m := 28) [27] (GrGC wo) GrE (GrP (cnt6R b0 b off n cap i k hour c y x B)) (by kernel_rfl) (by kernel_rfl) (Nat.le_of_ble_eq_true rfl) ?gd ((Ext.refl wo).drew) ?_ ?_ ?_
    case gd =>
     intro i o j b hi ho hg
     rcases ltc28 hi with rfl | rfl | rfl | rfl | rfl | rfl | rfl | rfl | rfl | rfl | rfl | rfl | rfl | rfl | rfl | rfl | rfl | rfl | rfl | rfl | rfl | rfl | rfl | rfl | rfl | rfl | rfl | rfl <;> (cases ho; first | (cases hg; done) | (cases hg; intro v W h; exact h))
    ·intro i k v W W' hi hk hne hout h hE
     have hE : Ext W W' := hE
     have hi' := ltc28 hi
     clear hi hk hne hout
     rcases hi' with rfl | rfl | rfl | rfl | rfl | rfl | rfl | rfl | rfl | rfl | rfl | rfl | rfl | rfl | rfl | rfl | rfl | rfl | rfl | rfl | rfl | rfl | rfl | rfl | rfl | rfl | rfl | rfl
     ·exact h
     ·exact h
     ·exact h
     ·exact h
     ·exact h
     ·exact h
     ·exact h
     ·exact h
     ·exact h
     ·exact h
     ·exact h
     ·exact h
     ·exact h
     ·exact h
     ·exact h
     ·exact h
     ·exact h
     ·exact h
     ·exact h
     ·exact h
     ·exact h
     ·exact h
     ·exact h
     ·exact h
     ·exact h
     ·exact h
     ·exact h
     exact h
    ·intro q op hq ho L vs W hqL hcL hW hd ρ hρ
     have hq' := ltc28 hq
     clear hq
     have o3 : ρ (.tmp 3) = .pointer (some ⟨b0, 0, none⟩) := hρ.out 3 rfl
     have i0 := hρ.i 0 25
     have o7 : ρ (.tmp 7) = .int .i64 k := hρ.out 7 rfl
     have i1 := hρ.i 1 26
     have i2 := hρ.i 2 27
     have i3 := hρ.i 3 28
     have i4 := hρ.i 4 29
     have i5 := hρ.i 5 30
     have i6 := hρ.i 6 31
     have i8 := hρ.i 8 33
     have i9 := hρ.i 9 34
     have i10 := hρ.i 10 35
     have i11 := hρ.i 11 36
     have i12 := hρ.i 12 37
     have i14 := hρ.i 14 39
     have o1 : ρ (.tmp 1) = .int .i64 i := hρ.out 1 rfl
     have i15 := hρ.i 15 40
     have i16 := hρ.i 16 41
     have i17 := hρ.i 17 42
     have i18 := hρ.i 18 43
     have i13 := hρ.i 13 38
     have i19 := hρ.i 19 44
     have i7 := hρ.i 7 32
     have i20 := hρ.i 20 45
     have i21 := hρ.i 21 46
     have o2 : ρ (.tmp 2) = .int .i64 hour := hρ.out 2 rfl
     have i23 := hρ.i 23 48
     have i24 := hρ.i 24 49
     have i25 := hρ.i 25 50
     have i22 := hρ.i 22 47
     have i26 := hρ.i 26 51
     have hc := hρ.const
     have hfn := hρ.func
     clear hρ
     have HG := hI hW
     have HW := hI (show Ext wo W from hW)
     have HQL := hI hqL
     clear hW hqL hcL
     rcases hq' with rfl | rfl | rfl | rfl | rfl | rfl | rfl | rfl | rfl | rfl | rfl | rfl | rfl | rfl | rfl | rfl | rfl | rfl | rfl | rfl | rfl | rfl | rfl | rfl | rfl | rfl | rfl | rfl
     ·cases ho
      clear hd
      unfold GivesOp
      go_simp
      exact ⟨Ext.refl _, HW.out, rfl⟩
     ·cases ho
      have h0 : vs 0 = _ := hd ⟨0, .data⟩ (by simp) rfl
      rw [h0] at i0
      clear hd
      have g0 := HW.out.cell a6
      unfold GivesOp
      go_simp
      exact ⟨Ext.refl _, HW.out, rfl⟩
     ·cases ho
      clear hd
      unfold GivesOp
      go_simp
      exact ⟨Ext.refl _, HW.out, rfl⟩
     ·cases ho
      have h1 : vs 1 = _ := hd ⟨1, .data⟩ (by simp) rfl
      rw [h1] at i1
      have h2 : vs 2 = _ := hd ⟨2, .data⟩ (by simp) rfl
      rw [h2] at i2
      clear hd
      unfold GivesOp
      go_simp
      exact ⟨Ext.refl _, HW.out, rfl⟩
     ·cases ho
      have h3 : vs 3 = _ := hd ⟨3, .data⟩ (by simp) rfl
      rw [h3] at i3
      clear hd
      unfold GivesOp
      go_simp
      exact ⟨Ext.refl _, HW.out, rfl⟩
     ·cases ho
      have h4 : vs 4 = _ := hd ⟨4, .data⟩ (by simp) rfl
      rw [h4] at i4
      clear hd
      have g0 := HW.out.cell e2
      unfold GivesOp
      go_simp
      exact ⟨Ext.refl _, HW.out, rfl⟩
     ·cases ho
      have h5 : vs 5 = _ := hd ⟨5, .data⟩ (by simp) rfl
      rw [h5] at i5
      clear hd
      unfold GivesOp
      go_simp
      exact ⟨Ext.refl _, HW.out, rfl⟩
     ·cases ho
      have h6 : vs 6 = _ := hd ⟨6, .data⟩ (by simp) rfl
      rw [h6] at i6
      clear hd
      unfold GivesOp
      go_simp
      exact ⟨Ext.refl _, HW.out, rfl⟩
     ·cases ho
      clear hd
      unfold GivesOp
      go_simp
      exact ⟨Ext.refl _, HW.out, rfl⟩
     ·cases ho
      have h8 : vs 8 = _ := hd ⟨8, .data⟩ (by simp) rfl
      rw [h8] at i8
      clear hd
      have g0 := HW.out.cell a6
      unfold GivesOp
      go_simp
      exact ⟨Ext.refl _, HW.out, rfl⟩
     ·cases ho
      clear hd
      unfold GivesOp
      go_simp
      exact ⟨Ext.refl _, HW.out, rfl⟩
     ·cases ho
      have h9 : vs 9 = _ := hd ⟨9, .data⟩ (by simp) rfl
      rw [h9] at i9
      have h10 : vs 10 = _ := hd ⟨10, .data⟩ (by simp) rfl
      rw [h10] at i10
      clear hd
      unfold GivesOp
      go_simp
      exact ⟨Ext.refl _, HW.out, rfl⟩
     ·cases ho
      have h11 : vs 11 = _ := hd ⟨11, .data⟩ (by simp) rfl
      rw [h11] at i11
      clear hd
      unfold GivesOp
      go_simp
      exact ⟨Ext.refl _, HW.out, rfl⟩
     ·cases ho
      have h12 : vs 12 = _ := hd ⟨12, .data⟩ (by simp) rfl
      rw [h12] at i12
      clear hd
      have g0 := HW.out.cell e6
      unfold GivesOp
      go_simp
      exact ⟨Ext.refl _, HW.out, rfl⟩
     ·cases ho
      clear hd
      unfold GivesOp
      go_simp
      exact ⟨Ext.refl _, HW.out, rfl⟩
     ·cases ho
      have h14 : vs 14 = _ := hd ⟨14, .data⟩ (by simp) rfl
      rw [h14] at i14
      clear hd
      have g0 := HW.out.cell a6
      unfold GivesOp
      go_simp
      exact ⟨Ext.refl _, HW.out, rfl⟩
     ·cases ho
      clear hd
      unfold GivesOp
      go_simp
      exact ⟨Ext.refl _, HW.out, rfl⟩
     ·cases ho
      have h15 : vs 15 = _ := hd ⟨15, .data⟩ (by simp) rfl
      rw [h15] at i15
      have h16 : vs 16 = _ := hd ⟨16, .data⟩ (by simp) rfl
      rw [h16] at i16
      clear hd
      unfold GivesOp
      go_simp
      exact ⟨Ext.refl _, HW.out, rfl⟩
     ·cases ho
      have h17 : vs 17 = _ := hd ⟨17, .data⟩ (by simp) rfl
      rw [h17] at i17
      clear hd
      unfold GivesOp
      go_simp
      exact ⟨Ext.refl _, HW.out, rfl⟩
     ·cases ho
      have h18 : vs 18 = _ := hd ⟨18, .data⟩ (by simp) rfl
      rw [h18] at i18
      clear hd
      have g0 := HW.out.cell d0
      unfold GivesOp
      go_simp
      exact ⟨Ext.refl _, HW.out, rfl⟩
     ·cases ho
      have h13 : vs 13 = _ := hd ⟨13, .data⟩ (by simp) rfl
      rw [h13] at i13
      have h19 : vs 19 = _ := hd ⟨19, .data⟩ (by simp) rfl
      rw [h19] at i19
      clear hd
      unfold GivesOp
      go_simp
      exact ⟨Ext.refl _, HW.out, rfl⟩
     ·cases ho
      have h7 : vs 7 = _ := hd ⟨7, .data⟩ (by simp) rfl
      rw [h7] at i7
      have h20 : vs 20 = _ := hd ⟨20, .data⟩ (by simp) rfl
      rw [h20] at i20
      clear hd
      unfold GivesOp
      go_simp
      exact ⟨Ext.refl _, HW.out, rfl⟩
     ·cases ho
      have h21 : vs 21 = _ := hd ⟨21, .data⟩ (by simp) rfl
      rw [h21] at i21
      clear hd
      unfold GivesOp
      go_simp
      exact ⟨Ext.refl _, HW.out, rfl⟩
     ·cases ho
      clear hd
      have g0 := HW.out.cell a0
      have g1 := HW.out.cell a1
      have g2 := HW.out.cell a2
      have g3 := HW.out.cell a3
      have g4 := HW.out.cell a4
      have g5 := HW.out.cell a5
      have g6 := HW.out.cell a6
      unfold GivesOp
      go_simp
      exact ⟨Ext.refl _, HW.out, rfl⟩
     ·cases ho
      clear hd
      unfold GivesOp
      go_simp
      exact ⟨Ext.refl _, HW.out, rfl⟩
     ·cases ho
      clear hd
      unfold GivesOp
      go_simp
      exact ⟨Ext.refl _, HW.out, rfl⟩
     ·cases ho
      have h23 : vs 23 = _ := hd ⟨23, .data⟩ (by simp) rfl
      rw [h23] at i23
      have h24 : vs 24 = _ := hd ⟨24, .data⟩ (by simp) rfl
      rw [h24] at i24
      have h25 : vs 25 = _ := hd ⟨25, .data⟩ (by simp) rfl
      rw [h25] at i25
      clear hd
      unfold GivesOp
      go_simp
      refine (HC.out W (HX.out.trans HW.out)).mono ?_
      rintro r w5 ⟨rfl, hx5⟩
      exact ⟨_, rfl, hx5, HW.out.trans hx5, rfl⟩
     cases ho
     have h22 : vs 22 = _ := hd ⟨22, .data⟩ (by simp) rfl
     rw [h22] at i22
     have h26 : vs 26 = _ := hd ⟨26, .data⟩ (by simp) rfl
     rw [h26] at i26
     clear hd
     unfold GivesOp
     go_simp
     exact ⟨Ext.refl _, HW.out, rfl⟩
    intro L vs W hLm hW hR
    rw [if_pos (by decide +kernel)]
    have h27 : vs 27 = .bool B := hR 27 (by simp) (by omega)
    simp only [acts, dstAt, List.range, List.range.loop, List.foldl_cons, List.foldl_nil, h27]
    go_simp
    have hW2 : Ext wo W := hW
    clear hR hW hLm h27
    cases B
    ·go_wp2_with fail
     go_roundw
     case rel => exact ⟨k + 1, by go_num, by omega, by omega, by rw [HVB.out, HST.out, HN7.out, HNT.out]; rfl, hW2.blk HB.out, HX.out.trans hW2⟩
     case measure => simp [intOf]; omega
    go_wp2_with fail
    go_ret
    exact givesE_bool (by rw [HQ.out, HVB.out, HST.out, HN7.out, HNT.out]; rfl) (HX.out.trans hW2)
   have t1 : decide ((k : Int) < (n : Int)) = false := decide_eq_false (by omega)
   have HE := hI (show k = l.length by have := HN.out; omega)
   go_wp2_with fail
   go_ret
   exact givesE_bool (by rw [HQ.out, HVB.out, HE.out, List.drop_length]; rfl) HX.out
theorem uBy : Tryz.prog.underlying 5 = some (.int .u8) := by kernel_rfl
theorem uBs : Tryz.prog.underlying 91 = some (.slice 5) := by kernel_rfl
theorem uSt : Tryz.prog.underlying 9 = some .string := by kernel_rfl
theorem upto_calls {w0 w : World} {bd : Nat} (h : DeckAt w0 w bd) (most : Int) (h0 : 0 <= most) (h1 : most <= 10000000000000) :
  Calls Tryz.prog 33 #[.pointer (some ⟨bd, 0, none⟩), .int .i64 most] w (NextQ 0 (most + 1) w0 bd w) := by
 go_enter Tryz.func33, Tryz.ntmps33
 go_wp2_with fail
 refine (next_calls h 6 (by omega) (by omega)).mono ?_
 rintro e w1 ⟨r, rfl, hr0, hr1, hd, hc⟩
 have HC := hI hc
 have h4 : ∀ (k : Int), 0 < k -> k <= 10000000000001 -> Calls Tryz.prog 12 #[.pointer (some ⟨bd, 0, none⟩), .int .i64 k] w1 (NextQ 0 k w0 bd w1) := fun k hk hk2 => next_calls hd k hk (by omega)
 have H4 := hI h4
 clear hc hd h4
 have hr : r = 0 \/ r = 1 \/ r = 2 \/ r = 3 \/ r = 4 \/ r = 5 := by omega
 clear hr0 hr1
 rcases hr with rfl | rfl | rfl | rfl | rfl | rfl
 all_goals
  go_wp2_with fail
  all_goals
   refine (H4.out _ (by omega) (by omega)).mono ?_
   rintro e w2 ⟨q, rfl, hq0, hq1, hd2, hc2⟩
   have HC2 := hI (HC.out.then hc2)
   have HD2 := hI hd2
   clear hc2 hd2 H4 HC
   go_wp2_with fail
   all_goals
    go_ret
    exact ⟨_, rfl, by omega, by omega, HD2.out, HC2.out⟩
def LeftQ (w : World) (e : Ending) (w' : World) : Prop := ∃ b : Bool, e = .returned (.bool b) /\ Ext w w'
theorem left_calls {w0 w : World} {bd : Nat} (h : DeckAt w0 w bd) : Calls Tryz.prog 69 #[.pointer (some ⟨bd, 0, none⟩)] w (LeftQ w) := by
 obtain ⟨la, ln, lc, k, hb, hk, hln, hL, hx, hbd⟩ := h
 obtain ⟨c0, c1, cf⟩ := blk2 hb
 clear hL hx hb
 go_enter Tryz.func69, Tryz.ntmps69
 go_wp2_with fail
 go_quiet (fail)
 go_wp2_with fail
 go_ret
 exact ⟨_, rfl, (Ext.refl w).drewN _⟩
theorem conv_two (w : World) (x : Nat) (hx : x = w.heap.size) (c d : Int) (t : TypeId) : Sem.run Tryz.prog (convert 91 9 (.slice (some ⟨x, 0, none⟩) 2 2)) (w.alloc (.cells #[.int .u8 c, .int .u8 d] t)) = .ok (.string ⟨#[UInt8.ofNat c.toNat, UInt8.ofNat d.toNat]⟩) (w.alloc (.cells #[.int .u8 c, .int .u8 d] t)) := by
 subst hx
 rw [run_convert_bytes_string _ _ _ 5 _ _ _ uBs uBy uSt]
 have := run_bytesToString (P := Tryz.prog) (w.alloc (.cells #[.int .u8 c, .int .u8 d] t)) ⟨w.heap.size, 0, none⟩ 2 2 [c, d] (by
  refine run_loadCells_list (P := Tryz.prog) _ _ [.int .u8 c, .int .u8 d] (fun j v hj => ?_)
  have : (⟨w.heap.size, 0, none⟩ : Addr).add j = ⟨w.heap.size, j, none⟩ := by unfold Addr.add; split <;> simp_all
  rw [this, World.cell?_alloc_at _ _ _ _ rfl]
  simpa using hj)
 rw [this]
 rfl
def lettersB (p : BA) (k : Nat) : BA := p ++ ⟨#[97 + UInt8.ofNat (k / 26 % 26), 97 + UInt8.ofNat (k % 26)]⟩
theorem lettersB_size (p : BA) (k : Nat) : (lettersB p k).size = p.size + 2 := by unfold lettersB; rw [ByteArray.size_append]; rfl
def LettersQ (p : BA) (k : Nat) (w : World) (e : Ending) (w' : World) : Prop := e = .returned (.string (lettersB p k)) /\ Ext w w'
theorem letters_calls (p : BA) (k : Nat) (hk : k <= 1000) (hp : p.size <= 1000) (w : World) : Calls Tryz.prog 68 #[.string p, .int .i64 k] w (LettersQ p k w) := by
 have kc := conv_two
 go_enter Tryz.func68, Tryz.ntmps68
 go_wp2_with fail
 go_ret
 exact ⟨rfl, (Ext.refl w).alloc _⟩
end Go.Proofs.YtefjomofjejklaaGreat
