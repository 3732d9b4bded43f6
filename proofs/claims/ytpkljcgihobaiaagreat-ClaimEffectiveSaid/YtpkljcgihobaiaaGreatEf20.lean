/-
  Texts of the claim, joined: Cnt, Cln, CItm, REvs, Knw.
-/
import Derived.Test.YtpkljcgihobaiaaGreatEf19
import Derived.Lib.SliceRun
namespace Go.Proofs.YtpkljcgihobaiaaGreat
set_option maxRecDepth 100000
set_option maxHeartbeats 32000000
open Go.RowKit
def CntI (hour : Int) (l : List Ev) (n i b0 : Nat) (o : Obj) (x : Int) (w : World) (t : Value) (wr : World) : Prop := ∃ k : Nat, t = .int .i64 k /\ i < k /\ k <= n /\ voidedBy hour x (l.drop (i + 1)) = voidedBy hour x (l.drop k) /\ wr.heap[b0]? = some o /\ Ext w wr
theorem voidedBy_step (hour x : Int) {l : List Ev} {k : Nat} (hk : k < l.length) : voidedBy hour x (l.drop k) = ((isVoid l[k] && (l[k].target == x) && countsB hour l[k] (l.drop (k + 1))) || voidedBy hour x (l.drop (k + 1))) := by
 rw [List.drop_eq_getElem_cons hk, voidedBy]
 rfl
def GrGC (wr : World) (_ : ZN) (_ : Nat -> Value) (W : World) : Prop := Ext wr W
def cnt6R (b0 b off n cap i k : Nat) (hour : Int) (c : Clm) (y x : Ev) (B : Bool) : Nat -> Value -> World -> Prop
 | 0, u, _ => u = .pointer (some ⟨b0, 6, none⟩)
 | 1, u, _ => u = .slice (some ⟨b, off, none⟩) n cap
 | 2, u, _ => u = .int .i64 k
 | 3, u, _ => u = .pointer (some ⟨b, off + k * 7, none⟩)
 | 4, u, _ => u = .pointer (some ⟨b, off + k * 7 + 2, none⟩)
 | 5, u, _ => u = .int .i64 y.kind
 | 6, u, _ => u = .bool true
 | 7, u, _ => u = .bool true
 | 8, u, _ => u = .pointer (some ⟨b0, 6, none⟩)
 | 9, u, _ => u = .slice (some ⟨b, off, none⟩) n cap
 | 10, u, _ => u = .int .i64 k
 | 11, u, _ => u = .pointer (some ⟨b, off + k * 7, none⟩)
 | 12, u, _ => u = .pointer (some ⟨b, off + k * 7 + 6, none⟩)
 | 13, u, _ => u = .int .i64 y.target
 | 14, u, _ => u = .pointer (some ⟨b0, 6, none⟩)
 | 15, u, _ => u = .slice (some ⟨b, off, none⟩) n cap
 | 16, u, _ => u = .int .i64 i
 | 17, u, _ => u = .pointer (some ⟨b, off + i * 7, none⟩)
 | 18, u, _ => u = .pointer (some ⟨b, off + i * 7, none⟩)
 | 19, u, _ => u = .int .i64 x.number
 | 20, u, _ => u = .bool true
 | 21, u, _ => u = .bool true
 | 22, u, _ => u = .bool true
 | 23, u, _ => u = .agg #[.int .i64 c.id, .int .i64 c.policy, .int .i64 c.risk, .int .i64 c.hour, .int .i64 c.peril, .int .i64 c.area, .slice (some ⟨b, off, none⟩) n cap]
 | 24, u, _ => u = .int .i64 k
 | 25, u, _ => u = .int .i64 hour
 | 26, u, _ => u = .bool B
 | _, u, _ => u = .bool B
theorem rcounts_calls (c : Clm) (a : OA) (n cap : Nat) (hour : Int) (hn2 : n <= 1000000000000) : (m i : Nat) -> (w : World) -> n - i <= m -> i < n -> IsEvs w c.events a n cap ->
  Calls Tryz.prog 85 #[ClmArg c a n cap, .int .i64 i, .int .i64 hour] w (GivesE (.bool (countsB hour (c.events.getD i ev0) (c.events.drop (i + 1)))) w)
 | 0, i, _, hm, hin, _ => absurd hin (by omega)
 | m + 1, i, w, hm, hin, hi => by
  have HIH := hI (fun (k : Nat) (W : World) (hk : i < k) (hkn : k < n) (hW : Ext w W) => rcounts_calls c a n cap hour hn2 m k W (by omega) hkn (hi.ext hW))
  have HN := hI hi.len
  obtain ⟨vs, hrows, hvs, -⟩ := hi
  obtain ⟨l, hl⟩ : ∃ l, l = c.events := ⟨_, rfl⟩
  rw [<- hl] at HIH HN hvs ⊢
  have hil : i < l.length := by have := HN.out; omega
  have hiv : i < vs.length := by rw [hvs] at hil; simpa using hil
  have HV := hI hvs
  have HROWS := hI hrows
  obtain ⟨b, off, rfl, c0, c1, c2, c3, c4, c5, c6⟩ := rows_seven hrows hiv
  obtain ⟨x, hx⟩ : ∃ x, x = vs[i].x := ⟨_, rfl⟩
  have HXV := hI hx
  have HGX := hI (show l.getD i ev0 = x by rw [List.getD_eq_getElem?_getD, List.getElem?_eq_getElem hil, hx, Option.getD_some]; simp [hvs])
  rw [HGX.out]
  rw [<- hx] at c0 c1
  clear hx
  obtain ⟨R, hR⟩ : ∃ R, R = countsB hour x (l.drop (i + 1)) := ⟨_, rfl⟩
  rw [<- hR]
  have HR := hI (show R = (decide (x.known <= hour) && !voidedBy hour x.number (l.drop (i + 1))) from hR)
  clear hrows hvs hl hR c3 c4 c5 c6 c2
  unfold ClmArg at HIH ⊢
  obtain ⟨wa, hwa⟩ : ∃ wa, wa = w.alloc (.cells #[.int .i64 c.id, .int .i64 c.policy, .int .i64 c.risk, .int .i64 c.hour, .int .i64 c.peril, .int .i64 c.area, .slice (some ⟨b, off, none⟩) n cap] 27) := ⟨_, rfl⟩
  have HXA := hI (show Ext w wa by rw [hwa]; exact (Ext.refl _).alloc _)
  have HB0 := hI (show wa.heap[w.heap.size]? = some (.cells #[.int .i64 c.id, .int .i64 c.policy, .int .i64 c.risk, .int .i64 c.hour, .int .i64 c.peril, .int .i64 c.area, .slice (some ⟨b, off, none⟩) n cap] 27 (0, 0)) by rw [hwa]; exact alloc_new w _)
  obtain ⟨a0, a1, a2, a3, a4, a5, a6, af⟩ := blk7 HB0.out
  have d1 := HXA.out.cell c1
  have HC0 := hI c0
  clear c0 c1
  have ti0 : (0 : Int) <= (i : Int) := by omega
  have ti1 : (i : Int) < (n : Int) := by omega
  have ti2 : decide (0 <= (i : Int)) = true := decide_eq_true ti0
  have ti3 : decide ((i : Int) < (n : Int)) = true := decide_eq_true ti1
  by_cases hkn : hour < x.known
  ·have tk : decide (hour < x.known) = true := decide_eq_true hkn
   have HQ := hI (show R = false by rw [HR.out]; simp; omega)
   clear hkn
   go_enter Tryz.func85, Tryz.ntmps85
   go_upto_region 1 with fail
   rw [<- hwa]
   clear hwa
   go_wp2_with fail
   go_ret
   exact givesE_bool (by rw [HQ.out]) HXA.out
  have tk : decide (hour < x.known) = false := decide_eq_false hkn
  have HQ := hI (show R = !voidedBy hour x.number (l.drop (i + 1)) by rw [HR.out, decide_eq_true (by omega : x.known <= hour)]; rfl)
  clear hkn
  go_enter Tryz.func85, Tryz.ntmps85
  go_upto_region 1 with fail
  rw [<- hwa]
  clear hwa
  go_wp2_with fail
  clear a0 a1 a2 a3 a4 a5 a6 af d1
  go_loopw [7] (CntI hour l n i w.heap.size (.cells #[.int .i64 c.id, .int .i64 c.policy, .int .i64 c.risk, .int .i64 c.hour, .int .i64 c.peril, .int .i64 c.area, .slice (some ⟨b, off, none⟩) n cap] 27 (0, 0)) x.number w) (fun t _ => n - (intOf t).toNat)
  case atStart => exact ⟨i + 1, by go_num, by omega, by omega, rfl, HB0.out, HXA.out⟩
  case round =>
   obtain ⟨k, rfl, hik, hkn, hv, hb, hx⟩ := hrel
   obtain ⟨wo, rfl⟩ : ∃ wo : World, wo = wr := ⟨_, rfl⟩
   obtain ⟨b0, hb0⟩ : ∃ b0, b0 = w.heap.size := ⟨_, rfl⟩
   rw [<- hb0] at hb ⊢
   have HB := hI hb
   have HX := hI hx
   have HVB := hI hv
   have HB00 := hI hb0
   obtain ⟨a0, a1, a2, a3, a4, a5, a6, af⟩ := blk7 hb
   clear hb hx hv hb0 HB0
   by_cases hkn2 : k < n
   ·have hkl : k < l.length := by have := HN.out; omega
    have hkv : k < vs.length := by have := HV.out; rw [this] at hkl; simpa using hkl
    have HLK := hI (show l[k] = vs[k].x by simp [HV.out])
    obtain ⟨bb, oo, e, e0, e1, e2, e3, e4, e5, e6⟩ := rows_seven (HROWS.out.ext HX.out) hkv
    simp only [Option.some.injEq, Addr.mk.injEq, and_true] at e
    obtain ⟨rfl, rfl⟩ := e
    obtain ⟨y, hy⟩ : ∃ y, y = vs[k].x := ⟨_, rfl⟩
    rw [<- hy] at e0 e2 e6 HLK
    have hgy : l.getD k ev0 = y := by rw [List.getD_eq_getElem?_getD, List.getElem?_eq_getElem hkl, Option.getD_some, HLK.out]
    have HST := hI (voidedBy_step hour x.number hkl)
    rw [HLK.out] at HST
    have HC := hI (fun W (hW : Ext w W) => HIH.out k W hik hkn2 hW)
    rw [hgy] at HC
    obtain ⟨B, hB⟩ : ∃ B, B = countsB hour y (l.drop (k + 1)) := ⟨_, rfl⟩
    rw [<- hB] at HC HST
    have d0 := HX.out.cell HC0.out
    clear hy hgy hB e0 e1 e3 e4 e5 HIH
    have t1 : decide ((k : Int) < (n : Int)) = true := decide_eq_true (by omega)
    have tk0 : (0 : Int) <= (k : Int) := by omega
    have tk1 : (k : Int) < (n : Int) := by omega
    cases hq7 : (y.kind == 7)
    ·have HN7 := hI (show isVoid y = false from hq7)
     go_wp2_with fail
     go_quiet (fail)
     go_wp2_with fail
     go_roundw
     case rel => exact ⟨k + 1, by go_num, by omega, by omega, by rw [HVB.out, HST.out, HN7.out]; rfl, HB.out, HX.out.drewN _⟩
     case measure => simp [intOf]; omega
    have HN7 := hI (show isVoid y = true from hq7)
    cases hqt : (y.target == x.number)
    ·have HNT := hI hqt
     go_wp2_with fail
     go_quiet (fail)
     go_wp2_with fail
     go_roundw
     case rel => exact ⟨k + 1, by go_num, by omega, by omega, by rw [HVB.out, HST.out, HN7.out, HNT.out]; rfl, HB.out, HX.out.drewN _⟩
     case measure => simp [intOf]; omega
    have HNT := hI hqt
    go_upto_region 6 with fail
    refine wp_region_growLG (n := 53) (m := 28) [27] (GrGC wo) GrE (GrP (cnt6R b0 b off n cap i k hour c y x B)) (by kernel_rfl) (by kernel_rfl) (Nat.le_of_ble_eq_true rfl) ?gd ((Ext.refl wo).drew) ?_ ?_ ?_
    case gd =>
     intro i o j b hi ho hg
     rcases ltc28 hi with rfl | rfl | rfl | rfl | rfl | rfl | rfl | rfl | rfl | rfl | rfl | rfl | rfl | rfl | rfl | rfl | rfl | rfl | rfl | rfl | rfl | rfl | rfl | rfl | rfl | rfl | rfl | rfl <;> (cases ho; first | (cases hg; done) | (cases hg; intro v W h; exact h))
    ·intro i k v W W' hi hk hne hout h hE
     have hE : Ext W W' := hE
     have hi' := ltc28 hi
     clear hi hk hne hout
     rcases hi' with rfl | rfl | rfl | rfl | rfl | rfl | rfl | rfl | rfl | rfl | rfl | rfl | rfl | rfl | rfl | rfl | rfl | rfl | rfl | rfl | rfl | rfl | rfl | rfl | rfl | rfl | rfl | rfl
     ·exact h
     ·exact h
     ·exact h
     ·exact h
     ·exact h
     ·exact h
     ·exact h
     ·exact h
     ·exact h
     ·exact h
     ·exact h
     ·exact h
     ·exact h
     ·exact h
     ·exact h
     ·exact h
     ·exact h
     ·exact h
     ·exact h
     ·exact h
     ·exact h
     ·exact h
     ·exact h
     ·exact h
     ·exact h
     ·exact h
     ·exact h
     exact h
    ·intro q op hq ho L vs W hqL hcL hW hd ρ hρ
     have hq' := ltc28 hq
     clear hq
     have o3 : ρ (.tmp 3) = .pointer (some ⟨b0, 0, none⟩) := hρ.out 3 rfl
     have i0 := hρ.i 0 25
     have o7 : ρ (.tmp 7) = .int .i64 k := hρ.out 7 rfl
     have i1 := hρ.i 1 26
     have i2 := hρ.i 2 27
     have i3 := hρ.i 3 28
     have i4 := hρ.i 4 29
     have i5 := hρ.i 5 30
     have i6 := hρ.i 6 31
     have i8 := hρ.i 8 33
     have i9 := hρ.i 9 34
     have i10 := hρ.i 10 35
     have i11 := hρ.i 11 36
     have i12 := hρ.i 12 37
     have i14 := hρ.i 14 39
     have o1 : ρ (.tmp 1) = .int .i64 i := hρ.out 1 rfl
     have i15 := hρ.i 15 40
     have i16 := hρ.i 16 41
     have i17 := hρ.i 17 42
     have i18 := hρ.i 18 43
     have i13 := hρ.i 13 38
     have i19 := hρ.i 19 44
     have i7 := hρ.i 7 32
     have i20 := hρ.i 20 45
     have i21 := hρ.i 21 46
     have o2 : ρ (.tmp 2) = .int .i64 hour := hρ.out 2 rfl
     have i23 := hρ.i 23 48
     have i24 := hρ.i 24 49
     have i25 := hρ.i 25 50
     have i22 := hρ.i 22 47
     have i26 := hρ.i 26 51
     have hc := hρ.const
     have hfn := hρ.func
     clear hρ
     have HG := hI hW
     have HW := hI (show Ext wo W from hW)
     have HQL := hI hqL
     clear hW hqL hcL
     rcases hq' with rfl | rfl | rfl | rfl | rfl | rfl | rfl | rfl | rfl | rfl | rfl | rfl | rfl | rfl | rfl | rfl | rfl | rfl | rfl | rfl | rfl | rfl | rfl | rfl | rfl | rfl | rfl | rfl
     ·cases ho
      clear hd
      unfold GivesOp
      go_simp
      exact ⟨Ext.refl _, HW.out, rfl⟩
     ·cases ho
      have h0 : vs 0 = _ := hd ⟨0, .data⟩ (by simp) rfl
      rw [h0] at i0
      clear hd
      have g0 := HW.out.cell a6
      unfold GivesOp
      go_simp
      exact ⟨Ext.refl _, HW.out, rfl⟩
     ·cases ho
      clear hd
      unfold GivesOp
      go_simp
      exact ⟨Ext.refl _, HW.out, rfl⟩
     ·cases ho
      have h1 : vs 1 = _ := hd ⟨1, .data⟩ (by simp) rfl
      rw [h1] at i1
      have h2 : vs 2 = _ := hd ⟨2, .data⟩ (by simp) rfl
      rw [h2] at i2
      clear hd
      unfold GivesOp
      go_simp
      exact ⟨Ext.refl _, HW.out, rfl⟩
     ·cases ho
      have h3 : vs 3 = _ := hd ⟨3, .data⟩ (by simp) rfl
      rw [h3] at i3
      clear hd
      unfold GivesOp
      go_simp
      exact ⟨Ext.refl _, HW.out, rfl⟩
     ·cases ho
      have h4 : vs 4 = _ := hd ⟨4, .data⟩ (by simp) rfl
      rw [h4] at i4
      clear hd
      have g0 := HW.out.cell e2
      unfold GivesOp
      go_simp
      exact ⟨Ext.refl _, HW.out, rfl⟩
     ·cases ho
      have h5 : vs 5 = _ := hd ⟨5, .data⟩ (by simp) rfl
      rw [h5] at i5
      clear hd
      unfold GivesOp
      go_simp
      exact ⟨Ext.refl _, HW.out, rfl⟩
     ·cases ho
      have h6 : vs 6 = _ := hd ⟨6, .data⟩ (by simp) rfl
      rw [h6] at i6
      clear hd
      unfold GivesOp
      go_simp
      exact ⟨Ext.refl _, HW.out, rfl⟩
     ·cases ho
      clear hd
      unfold GivesOp
      go_simp
      exact ⟨Ext.refl _, HW.out, rfl⟩
     ·cases ho
      have h8 : vs 8 = _ := hd ⟨8, .data⟩ (by simp) rfl
      rw [h8] at i8
      clear hd
      have g0 := HW.out.cell a6
      unfold GivesOp
      go_simp
      exact ⟨Ext.refl _, HW.out, rfl⟩
     ·cases ho
      clear hd
      unfold GivesOp
      go_simp
      exact ⟨Ext.refl _, HW.out, rfl⟩
     ·cases ho
      have h9 : vs 9 = _ := hd ⟨9, .data⟩ (by simp) rfl
      rw [h9] at i9
      have h10 : vs 10 = _ := hd ⟨10, .data⟩ (by simp) rfl
      rw [h10] at i10
      clear hd
      unfold GivesOp
      go_simp
      exact ⟨Ext.refl _, HW.out, rfl⟩
     ·cases ho
      have h11 : vs 11 = _ := hd ⟨11, .data⟩ (by simp) rfl
      rw [h11] at i11
      clear hd
      unfold GivesOp
      go_simp
      exact ⟨Ext.refl _, HW.out, rfl⟩
     ·cases ho
      have h12 : vs 12 = _ := hd ⟨12, .data⟩ (by simp) rfl
      rw [h12] at i12
      clear hd
      have g0 := HW.out.cell e6
      unfold GivesOp
      go_simp
      exact ⟨Ext.refl _, HW.out, rfl⟩
     ·cases ho
      clear hd
      unfold GivesOp
      go_simp
      exact ⟨Ext.refl _, HW.out, rfl⟩
     ·cases ho
      have h14 : vs 14 = _ := hd ⟨14, .data⟩ (by simp) rfl
      rw [h14] at i14
      clear hd
      have g0 := HW.out.cell a6
      unfold GivesOp
      go_simp
      exact ⟨Ext.refl _, HW.out, rfl⟩
     ·cases ho
      clear hd
      unfold GivesOp
      go_simp
      exact ⟨Ext.refl _, HW.out, rfl⟩
     ·cases ho
      have h15 : vs 15 = _ := hd ⟨15, .data⟩ (by simp) rfl
      rw [h15] at i15
      have h16 : vs 16 = _ := hd ⟨16, .data⟩ (by simp) rfl
      rw [h16] at i16
      clear hd
      unfold GivesOp
      go_simp
      exact ⟨Ext.refl _, HW.out, rfl⟩
     ·cases ho
      have h17 : vs 17 = _ := hd ⟨17, .data⟩ (by simp) rfl
      rw [h17] at i17
      clear hd
      unfold GivesOp
      go_simp
      exact ⟨Ext.refl _, HW.out, rfl⟩
     ·cases ho
      have h18 : vs 18 = _ := hd ⟨18, .data⟩ (by simp) rfl
      rw [h18] at i18
      clear hd
      have g0 := HW.out.cell d0
      unfold GivesOp
      go_simp
      exact ⟨Ext.refl _, HW.out, rfl⟩
     ·cases ho
      have h13 : vs 13 = _ := hd ⟨13, .data⟩ (by simp) rfl
      rw [h13] at i13
      have h19 : vs 19 = _ := hd ⟨19, .data⟩ (by simp) rfl
      rw [h19] at i19
      clear hd
      unfold GivesOp
      go_simp
      exact ⟨Ext.refl _, HW.out, rfl⟩
     ·cases ho
      have h7 : vs 7 = _ := hd ⟨7, .data⟩ (by simp) rfl
      rw [h7] at i7
      have h20 : vs 20 = _ := hd ⟨20, .data⟩ (by simp) rfl
      rw [h20] at i20
      clear hd
      unfold GivesOp
      go_simp
      exact ⟨Ext.refl _, HW.out, rfl⟩
     ·cases ho
      have h21 : vs 21 = _ := hd ⟨21, .data⟩ (by simp) rfl
      rw [h21] at i21
      clear hd
      unfold GivesOp
      go_simp
      exact ⟨Ext.refl _, HW.out, rfl⟩
     ·cases ho
      clear hd
      have g0 := HW.out.cell a0
      have g1 := HW.out.cell a1
      have g2 := HW.out.cell a2
      have g3 := HW.out.cell a3
      have g4 := HW.out.cell a4
      have g5 := HW.out.cell a5
      have g6 := HW.out.cell a6
      unfold GivesOp
      go_simp
      exact ⟨Ext.refl _, HW.out, rfl⟩
     ·cases ho
      clear hd
      unfold GivesOp
      go_simp
      exact ⟨Ext.refl _, HW.out, rfl⟩
     ·cases ho
      clear hd
      unfold GivesOp
      go_simp
      exact ⟨Ext.refl _, HW.out, rfl⟩
     ·cases ho
      have h23 : vs 23 = _ := hd ⟨23, .data⟩ (by simp) rfl
      rw [h23] at i23
      have h24 : vs 24 = _ := hd ⟨24, .data⟩ (by simp) rfl
      rw [h24] at i24
      have h25 : vs 25 = _ := hd ⟨25, .data⟩ (by simp) rfl
      rw [h25] at i25
      clear hd
      unfold GivesOp
      go_simp
      refine (HC.out W (HX.out.trans HW.out)).mono ?_
      rintro r w5 ⟨rfl, hx5⟩
      exact ⟨_, rfl, hx5, HW.out.trans hx5, rfl⟩
     cases ho
     have h22 : vs 22 = _ := hd ⟨22, .data⟩ (by simp) rfl
     rw [h22] at i22
     have h26 : vs 26 = _ := hd ⟨26, .data⟩ (by simp) rfl
     rw [h26] at i26
     clear hd
     unfold GivesOp
     go_simp
     exact ⟨Ext.refl _, HW.out, rfl⟩
    intro L vs W hLm hW hR
    rw [if_pos (by decide +kernel)]
    have h27 : vs 27 = .bool B := hR 27 (by simp) (by omega)
    simp only [acts, dstAt, List.range, List.range.loop, List.foldl_cons, List.foldl_nil, h27]
    go_simp
    have hW2 : Ext wo W := hW
    clear hR hW hLm h27
    cases B
    ·go_wp2_with fail
     go_roundw
     case rel => exact ⟨k + 1, by go_num, by omega, by omega, by rw [HVB.out, HST.out, HN7.out, HNT.out]; rfl, hW2.blk HB.out, HX.out.trans hW2⟩
     case measure => simp [intOf]; omega
    go_wp2_with fail
    go_ret
    exact givesE_bool (by rw [HQ.out, HVB.out, HST.out, HN7.out, HNT.out]; rfl) (HX.out.trans hW2)
   have t1 : decide ((k : Int) < (n : Int)) = false := decide_eq_false (by omega)
   have HE := hI (show k = l.length by have := HN.out; omega)
   go_wp2_with fail
   go_ret
   exact givesE_bool (by rw [HQ.out, HVB.out, HE.out, List.drop_length]; rfl) HX.out
theorem it_flatC (l : List ItV) : (l.flatMap ItV.cells).length = l.length * 4 := by
 have := length_flatMap_of ItV.cells 4 (fun _ => rfl) l
 omega
theorem it_srcC {w : World} {l : List ItV} {a : OA} {n c : Nat} (h : IsRows w 4 ItV.cells l a n c) : 0 < n -> ∃ b off, a = some ⟨b, off, none⟩ /\ ∀ j (hj : j < (l.flatMap ItV.cells).length), w.cell? ⟨b, off + j, none⟩ = some (l.flatMap ItV.cells)[j] := by
 intro hn
 have hl : 0 < l.length := by have := h.1; omega
 obtain ⟨b, off, rfl, _⟩ := h.2.2.2 0 hl
 refine ⟨b, off, rfl, fun j hj => ?_⟩
 have hlen := it_flatC l
 have hi : j / 4 < l.length := by omega
 obtain ⟨b', off', e3, hc⟩ := h.2.2.2 (j / 4) hi
 simp only [Option.some.injEq, Addr.mk.injEq, and_true] at e3
 obtain ⟨rfl, rfl⟩ := e3
 have h6 := hc (j % 4) (by rw [ItV.len]; omega)
 have e4 : off + j / 4 * 4 + j % 4 = off + j := by omega
 rw [e4] at h6
 rw [h6]
 have := flatMap_at ItV.cells 4 (fun _ => rfl) l (j / 4) hi (j % 4) (by rw [ItV.len]; omega)
 rw [show j / 4 * 4 + j % 4 = j by omega, List.getElem?_eq_getElem hj] at this
 exact this.symm
theorem it_onesC (l : List ItV) : ∀ u ∈ l.flatMap ItV.cells, u.oneCell' = true := by
 intro u hu
 obtain ⟨x, _, hx⟩ := List.mem_flatMap.1 hu
 simp only [ItV.cells, List.mem_cons, List.not_mem_nil, or_false] at hx
 rcases hx with rfl | rfl | rfl | rfl <;> rfl
theorem int_flatC (l : ZI) : (l.flatMap intCells).length = l.length * 1 := by
 have := length_flatMap_of intCells 1 (fun _ => rfl) l
 omega
theorem int_mapC (l : ZI) : l.flatMap intCells = l.map (Value.int .i64) := by
 induction l with
 | nil => rfl
 | cons x r ih => rw [List.flatMap_cons, ih]; rfl
theorem int_srcC {w : World} {l : ZI} {a : OA} {n : Nat} (h : IsIntF w l a n) : 0 < n -> ∃ b off, a = some ⟨b, off, none⟩ /\ ∀ j (hj : j < (l.flatMap intCells).length), w.cell? ⟨b, off + j, none⟩ = some (l.flatMap intCells)[j] := by
 intro hn
 obtain ⟨b, off, rfl, _⟩ := h.2 0 (by have := h.1; omega)
 refine ⟨b, off, rfl, fun j hj => ?_⟩
 obtain ⟨b', off', e, hc⟩ := h.2 j (by simpa [int_mapC] using hj)
 simp only [Option.some.injEq, Addr.mk.injEq, and_true] at e
 obtain ⟨rfl, rfl⟩ := e
 rw [hc]
 simp [int_mapC]
theorem int_onesC (l : ZI) : ∀ u ∈ l.flatMap intCells, u.oneCell' = true := by
 intro u hu
 rw [int_mapC] at hu
 obtain ⟨x, _, rfl⟩ := List.mem_map.1 hu
 rfl
def ClnQ (e : TypeId) (size n : Nat) (xs : List Value) (w : World) (r : Ending) (w' : World) : Prop := ∃ v, r = .returned v /\ w'.ownsRow w.heap.size e size v n xs /\ Ext w w'
theorem cloneInts_calls (l : ZI) (a : OA) (n c : Nat) (w : World) (h : IsIntF w l a n) (hn : n <= 1000000) : Calls Tryz.prog 49 #[.slice a n c] w (ClnQ 3 1 n (l.flatMap intCells) w) := by
 have q := fun w (a : OA) n c n' c' => Lib.run_eql_slice_nil (P := Tryz.prog) w 31 3 a n c n' c' elemInts.ht
 have HS := hI (int_srcC h)
 have HL := hI (show (l.flatMap intCells).length = n * 1 by rw [int_flatC, h.1])
 cases a with
 | none =>
  have hn0 : n = 0 := by
   rcases Nat.eq_zero_or_pos n with h0 | h0
   ·exact h0
   obtain ⟨b, off, e, _⟩ := int_srcC h h0
   cases e
  have HZ := hI hn0
  have HLZ := hI (show l.flatMap intCells = [] by have h0 := h.1; rw [hn0] at h0; rw [List.eq_nil_of_length_eq_zero h0.symm]; rfl)
  clear hn0 h
  go_enter Tryz.func49, Tryz.ntmps49
  go_wp2_with fail
  go_ret
  exact ⟨.slice none 0 0, rfl, by rw [HZ.out, HLZ.out]; exact ⟨rfl, Or.inl ⟨rfl, rfl⟩⟩, Ext.refl _⟩
 | some p =>
  have HW := hI (show Ext w (w.alloc (.cells #[] 3)) from (Ext.refl _).alloc _)
  have HO := hI (show (w.alloc (.cells #[] 3)).ownsRow w.heap.size 3 1 (.slice (some ⟨w.heap.size, 0, none⟩) 0 0) 0 [] from ⟨rfl, Or.inr ⟨w.heap.size, 0, #[], rfl, Nat.le_refl _, alloc_new w _, Nat.le_refl _, by unfold maxLen; omega, rfl, rfl⟩⟩)
  have HON := hI (int_onesC l)
  clear h
  go_enter Tryz.func49, Tryz.ntmps49
  go_wp2_with (at_builtin; refine wpList_append_all elemInts rfl _ _ rfl w.heap.size _ 0 [] rfl HO.out (some p) n c (l.flatMap intCells) rfl HL.out ?f0 HON.out (by omega) (by omega) ?f1 ?_)
  case f0 =>
   intro hp
   obtain ⟨b, off, e, hc⟩ := HS.out hp
   exact ⟨b, off, e, fun j hj => HW.out.cell (hc j hj)⟩
  case f1 => simp
  intro v' w' hown hg hb
  have HX := hI (show Ext w w' from HW.out.grown hg (fun k hk => by simp [Value.ownBlock] at hk; omega))
  have HOW := hI (show w'.ownsRow w.heap.size 3 1 v' n (l.flatMap intCells) by simpa using hown)
  clear hown hg hb
  go_wp2_with fail
  go_ret
  exact ⟨v', rfl, HOW.out, HX.out⟩
theorem cloneIts_calls (l : List ItV) (a : OA) (n c : Nat) (w : World) (h : IsRows w 4 ItV.cells l a n c) (hn : n <= 1000000) : Calls Tryz.prog 48 #[.slice a n c] w (ClnQ 72 4 n (l.flatMap ItV.cells) w) := by
 have q := fun w (a : OA) n c n' c' => Lib.run_eql_slice_nil (P := Tryz.prog) w 28 72 a n c n' c' elemIt.ht
 have HS := hI (it_srcC h)
 have HL := hI (show (l.flatMap ItV.cells).length = n * 4 by rw [it_flatC, h.1])
 cases a with
 | none =>
  have hn0 : n = 0 := by
   rcases Nat.eq_zero_or_pos n with h0 | h0
   ·exact h0
   obtain ⟨b, off, e, _⟩ := it_srcC h h0
   cases e
  have HZ := hI hn0
  have HLZ := hI (show l.flatMap ItV.cells = [] by have h0 := h.1; rw [hn0] at h0; rw [List.eq_nil_of_length_eq_zero h0.symm]; rfl)
  clear hn0 h
  go_enter Tryz.func48, Tryz.ntmps48
  go_wp2_with fail
  go_ret
  exact ⟨.slice none 0 0, rfl, by rw [HZ.out, HLZ.out]; exact ⟨rfl, Or.inl ⟨rfl, rfl⟩⟩, Ext.refl _⟩
 | some p =>
  have HW := hI (show Ext w (w.alloc (.cells #[] 72)) from (Ext.refl _).alloc _)
  have HO := hI (show (w.alloc (.cells #[] 72)).ownsRow w.heap.size 72 4 (.slice (some ⟨w.heap.size, 0, none⟩) 0 0) 0 [] from ⟨rfl, Or.inr ⟨w.heap.size, 0, #[], rfl, Nat.le_refl _, alloc_new w _, Nat.le_refl _, by unfold maxLen; omega, rfl, rfl⟩⟩)
  have HON := hI (it_onesC l)
  clear h
  go_enter Tryz.func48, Tryz.ntmps48
  go_wp2_with (at_builtin; refine wpList_append_all elemIt rfl _ _ rfl w.heap.size _ 0 [] rfl HO.out (some p) n c (l.flatMap ItV.cells) rfl HL.out ?f0 HON.out (by omega) (by omega) ?f1 ?_)
  case f0 =>
   intro hp
   obtain ⟨b, off, e, hc⟩ := HS.out hp
   exact ⟨b, off, e, fun j hj => HW.out.cell (hc j hj)⟩
  case f1 => simp
  intro v' w' hown hg hb
  have HX := hI (show Ext w w' from HW.out.grown hg (fun k hk => by simp [Value.ownBlock] at hk; omega))
  have HOW := hI (show w'.ownsRow w.heap.size 72 4 v' n (l.flatMap ItV.cells) by simpa using hown)
  clear hown hg hb
  go_wp2_with fail
  go_ret
  exact ⟨v', rfl, HOW.out, HX.out⟩
def itsKn (l : List Ev) : Bool × List It := if (itsK l).1 = true then itsK l else (false, [])
theorem rep_yes {v : EvV} (h : v.x.kind = 1) (W : World) : (Instr.typeAssert (kindV v) 20 98 true).run Tryz.prog W = .ok (.tuple #[.agg #[.slice v.a v.n v.c], .bool true]) W := by
 rw [kindV_1 h]; kernel_rfl
theorem rep_no {v : EvV} (h : v.x.kind ≠ 1) (W : World) : (Instr.typeAssert (kindV v) 20 98 true).run Tryz.prog W = .ok (.tuple #[.agg #[.slice none 0 0], .bool false]) W := by
 rcases (by omega : v.x.kind = 2 \/ v.x.kind = 3 \/ v.x.kind = 4 \/ v.x.kind = 5 \/ v.x.kind = 6 \/ v.x.kind = 7 \/ (v.x.kind < 1 \/ 7 < v.x.kind)) with e | e | e | e | e | e | e
 ·rw [kindV_2 e]; kernel_rfl
 ·rw [kindV_3 e]; kernel_rfl
 ·rw [kindV_4 e]; kernel_rfl
 ·rw [kindV_5 e]; kernel_rfl
 ·rw [kindV_6 e]; kernel_rfl
 ·rw [kindV_7 e]; kernel_rfl
 rw [kindV_0 e]; kernel_rfl
theorem ass_yes {v : EvV} (h : v.x.kind = 2) (W : World) : (Instr.typeAssert (kindV v) 20 99 true).run Tryz.prog W = .ok (.tuple #[.agg #[.slice v.a v.n v.c], .bool true]) W := by
 rw [kindV_2 h]; kernel_rfl
theorem ass_no {v : EvV} (h : v.x.kind ≠ 2) (W : World) : (Instr.typeAssert (kindV v) 20 99 true).run Tryz.prog W = .ok (.tuple #[.agg #[.slice none 0 0], .bool false]) W := by
 rcases (by omega : v.x.kind = 1 \/ v.x.kind = 3 \/ v.x.kind = 4 \/ v.x.kind = 5 \/ v.x.kind = 6 \/ v.x.kind = 7 \/ (v.x.kind < 1 \/ 7 < v.x.kind)) with e | e | e | e | e | e | e
 ·rw [kindV_1 e]; kernel_rfl
 ·rw [kindV_3 e]; kernel_rfl
 ·rw [kindV_4 e]; kernel_rfl
 ·rw [kindV_5 e]; kernel_rfl
 ·rw [kindV_6 e]; kernel_rfl
 ·rw [kindV_7 e]; kernel_rfl
 rw [kindV_0 e]; kernel_rfl
def CItQ (l : List Ev) (w : World) (e : Ending) (w' : World) : Prop := ∃ ia ni ic, e = .returned (.tuple #[.slice ia ni ic, .bool (itsKn l).1]) /\ IsIts w' (itsKn l).2 ia ni ic /\ Ext w w'
def CItL (l : List Ev) (n : Nat) (w : World) (ok t i : Value) (wr : World) : Prop := ∃ (k : Nat) (ia : OA) (ni ic : Nat), ok = .bool (itsK (l.take k)).1 /\ t = .slice ia ni ic /\ i = .int .i64 k /\ k <= n /\ IsIts wr (itsK (l.take k)).2 ia ni ic /\ Ext w wr
theorem cells_set0 : (VS : List ItV) -> (k : Nat) -> (u : ItV) -> (hk : k < VS.length) -> u.x = VS[k].x -> (VS.flatMap ItV.cells).set (k * 4) (.slice u.a u.n u.c) = (VS.set k u).flatMap ItV.cells
 | [], k, _, hk, _ => by simp at hk
 | v :: r, 0, u, _, hu => by
  have hu : u.x = v.x := hu
  simp [ItV.cells, hu]
 | v :: r, k + 1, u, hk, hu => by
  have ih := cells_set0 r k u (by simpa using hk) (by simpa using hu)
  rw [List.flatMap_cons, List.set_cons_succ, List.flatMap_cons, <- ih, show (k + 1) * 4 = k * 4 + v.cells.length by rw [ItV.len]; omega, List.set_append_right _ _ (by omega)]
  simp
theorem own_set0 {W : World} {base n g cap k : Nat} {VS : List ItV} {u : ItV} (h : W.ownsRow base 72 4 (.slice (some ⟨g, 0, none⟩) n cap) n (VS.flatMap ItV.cells)) (hk : k < VS.length) (hu : u.x = VS[k].x) :
  (W.setCell ⟨g, k * 4, none⟩ (.slice u.a u.n u.c)).ownsRow base 72 4 (.slice (some ⟨g, 0, none⟩) n cap) n ((VS.set k u).flatMap ItV.cells) := by
 obtain ⟨h0, h1⟩ := h
 rcases h1 with ⟨h1, _⟩ | ⟨g', cap', cur, e, r1, r2, r3, r4, r5, r6⟩
 ·cases h1
 injection e with e1 e2 e3
 injection e1 with e1
 injection e1 with e1
 subst e1 e3
 have hs := heap_setCell_same W g (k * 4) cur _ (.slice u.a u.n u.c) r2
 refine ⟨by rw [it_flatC, List.length_set, <- it_flatC]; exact h0, Or.inr ⟨g, cap, _, rfl, r1, hs, r3, r4, by simpa using r5, ?_⟩⟩
 rw [Array.toList_setIfInBounds, List.take_set, r6, cells_set0 VS k u hk hu]
theorem own_g {W : World} {base n k : Nat} {a : OA} {c : Nat} {VS : List ItV} (h : W.ownsRow base 72 4 (.slice a n c) n (VS.flatMap ItV.cells)) (hn : n = VS.length) (hk : k < n) : ∃ g, a = some ⟨g, 0, none⟩ /\ base <= g /\ g < W.heap.size /\ W.frozen? ⟨g, k * 4, none⟩ = false /\ ∀ j (hj : j < 4), W.cell? ⟨g, k * 4 + j, none⟩ = some ((VS[k]'(by omega)).cells[j]'(by rw [ItV.len]; exact hj)) := by
 have hk' : k < VS.length := by omega
 have hrow := IsRows.of_owns (f := ItV.cells) (fun _ => rfl) (by rw [<- hn]; exact h)
 rcases h.2 with ⟨h1, h2⟩ | ⟨g, cap', cur, e, r1, r2, r3, r4, r5, r6⟩
 ·omega
 injection e with e1 e2 e3
 subst e1
 refine ⟨g, rfl, r1, (Array.getElem?_eq_some_iff.1 r2).1, blk_free r2 _, fun j hj => ?_⟩
 obtain ⟨a', c', e', hr⟩ := hrow
 injection e' with e4 _ _
 subst e4
 obtain ⟨b, off, e5, hc⟩ := hr.2.2.2 k hk'
 simp only [Option.some.injEq, Addr.mk.injEq, and_true] at e5
 obtain ⟨rfl, rfl⟩ := e5
 have := hc j (by rw [ItV.len]; exact hj)
 rwa [Nat.zero_add] at this
theorem effGo_mem (hour : Int) : (l : List Ev) -> (v : ZI) -> ∀ x ∈ effGo hour v l, x ∈ l
 | [], _, x, h => by simp [effGo] at h
 | y :: r, v, x, h => by
  unfold effGo at h
  by_cases hc : hour < y.known \/ v.any (· == y.number) = true
  ·rw [if_pos hc] at h; exact List.mem_cons_of_mem _ (effGo_mem hour r v x h)
  rw [if_neg hc] at h
  rcases List.mem_cons.1 h with e | h
  ·exact e ▸ List.mem_cons_self ..
  exact List.mem_cons_of_mem _ (effGo_mem hour r _ x h)
theorem effL_mem {l : List Ev} {hour : Int} {x : Ev} (h : x ∈ effL l hour) : x ∈ l := by
 unfold effL at h
 by_cases hs : soundEvs [] l = true
 ·rw [if_pos hs] at h
  have := effGo_mem hour _ _ x (List.mem_reverse.1 h)
  exact List.mem_reverse.1 this
 rw [if_neg hs] at h; simp at h
theorem sub_maskC {w w' : World} {M : ZN} (h : Ext w w') (hM : ∀ k ∈ M, w.heap.size <= k) : Sub w (mask w' M) := fun p v hp => by
 rw [mask_cell, if_neg (fun hm => by have := hM _ hm; have := block_lt hp; omega)]
 exact h.cell hp
theorem itsK_few {l : List Ev} (h : ∀ x ∈ l, x.items.length <= 1000000 /\ ∀ y ∈ x.items, y.facts.length <= 1000000) : (itsK l).2.length <= 1000000 /\ ∀ y ∈ (itsK l).2, y.facts.length <= 1000000 := by
 rcases itsK_mem l (false, []) with e | ⟨x, hx, e⟩
 ·unfold itsK; rw [e]; simp
 unfold itsK; rw [e]; exact h x hx
def CItC (its : List It) (n base : Nat) (v : Value) (w : World) (i : Value) (wr : World) : Prop := ∃ (k : Nat) (VS : List ItV), i = .int .i64 k /\ k <= n /\ n = VS.length /\ VS.map (·.x) = its /\ wr.ownsRow base 72 4 v n (VS.flatMap ItV.cells) /\ (∀ u ∈ VS, IsIntF (mask wr (rowOf v)) u.x.facts u.a u.n) /\ Ext w wr
theorem cItems_calls (c : Clm) (a : OA) (n cap : Nat) (hour : Int) (w : World) (hi : IsEvs w c.events a n cap) (hn2 : n <= 1000000) (hfit : ∀ x ∈ c.events, fitEv x) (hfew : ∀ x ∈ c.events, x.items.length <= 1000000 /\ ∀ y ∈ x.items, y.facts.length <= 1000000) :
  Calls Tryz.prog 16 #[ClmArg c a n cap, .int .i64 hour] w (CItQ (effL c.events hour) w) := by
 obtain ⟨wa, hwa⟩ : ∃ wa, wa = w.alloc (.cells #[.int .i64 c.id, .int .i64 c.policy, .int .i64 c.risk, .int .i64 c.hour, .int .i64 c.peril, .int .i64 c.area, .slice a n cap] 27) := ⟨_, rfl⟩
 have HXA := hI (show Ext w wa by rw [hwa]; exact (Ext.refl _).alloc _)
 have HB0 := hI (show wa.heap[w.heap.size]? = some (.cells #[.int .i64 c.id, .int .i64 c.policy, .int .i64 c.risk, .int .i64 c.hour, .int .i64 c.peril, .int .i64 c.area, .slice a n cap] 27 (0, 0)) by rw [hwa]; exact alloc_new w _)
 have HE := hI (effective_calls c a n cap hour wa (hi.ext HXA.out) (by omega) hfit)
 unfold ClmArg at HE
 obtain ⟨l, hl⟩ : ∃ l, l = effL c.events hour := ⟨_, rfl⟩
 have HLL := hI (show l.length <= n by rw [hl]; have := effL_len c.events hour; have := hi.len; omega)
 have HFEW := hI (show ∀ x ∈ l, x.items.length <= 1000000 /\ ∀ y ∈ x.items, y.facts.length <= 1000000 by rw [hl]; exact fun x hx => hfew x (effL_mem hx))
 unfold EffQ at HE
 rw [<- hl] at HE ⊢
 clear hl hi hfit hfew
 unfold ClmArg
 obtain ⟨b0, b1, b2, b3, b4, b5, b6, bf⟩ := blk7 HB0.out
 go_enter Tryz.func16, Tryz.ntmps16
 go_upto_region 1 with fail
 rw [<- hwa]
 clear hwa
 go_wp2_with fail
 refine HE.out.mono ?_
 rintro r w1 ⟨ra, rn, rc, rfl, hev, hx1⟩
 have HEV := hI hev
 have HX1 := hI (HXA.out.trans hx1)
 have HRN := hI hev.len
 have hrn : rn <= 1000000000000 := by have := HRN.out; have := HLL.out; omega
 clear hev hx1 HE b0 b1 b2 b3 b4 b5 b6 bf HB0 HXA
 go_wp2_with fail
 go_loopw [6, 7, 17] (CItL l rn w1) (fun _ _ i _ => rn - (intOf i).toNat)
 case atStart => exact ⟨0, none, 0, 0, rfl, rfl, rfl, Nat.zero_le _, IsIts.nil _, Ext.refl _⟩
 case round =>
  obtain ⟨k, ia, ni, ic, rfl, rfl, rfl, hk, hits, hx⟩ := hrel
  obtain ⟨wo, rfl⟩ : ∃ wo : World, wo = wr := ⟨_, rfl⟩
  have HIT := hI hits
  have HX := hI hx
  clear hits hx
  by_cases hkn : k < rn
  ·have hkl : k < l.length := by have := HRN.out; omega
   have HST := hI (itsK_take hkl)
   obtain ⟨K, hK⟩ : ∃ K, K = itsK (l.take k) := ⟨_, rfl⟩
   rw [<- hK] at HST HIT ⊢
   obtain ⟨K1, K2⟩ := K
   clear hK
   have t1 : decide ((k : Int) < (rn : Int)) = true := decide_eq_true (by omega)
   have HXE := hI (HEV.out.ext HX.out)
   obtain ⟨b, off, v, rfl, hvx, hits, hrow⟩ := HXE.out.at hkl
   obtain ⟨c0, c1, c2, c3, c4, c5, c6⟩ := hrow.seven
   have HIK := hI hits
   have HVX := hI hvx
   clear hvx hits hrow
   dsimp only at HIT ⊢
   obtain ⟨wb, hwb⟩ : ∃ wb, wb = wo.alloc (.cells #[.int .i64 v.x.number, .int .i64 v.x.known, .int .i64 v.x.kind, .slice v.a v.n v.c, .int .i64 v.x.cur, .int .i64 v.x.amount, .int .i64 v.x.target] 30) := ⟨_, rfl⟩
   have HXB := hI (show Ext wo wb by rw [hwb]; exact (Ext.refl _).alloc _)
   have HBE := hI (show wb.heap[wo.heap.size]? = some (.cells #[.int .i64 v.x.number, .int .i64 v.x.known, .int .i64 v.x.kind, .slice v.a v.n v.c, .int .i64 v.x.cur, .int .i64 v.x.amount, .int .i64 v.x.target] 30 (0, 0)) by rw [hwb]; exact alloc_new wo _)
   have HKC := hI (fun W => kindOf_calls v W)
   unfold EvV.val at HKC
   have HR1 := hI (fun (h : v.x.kind = 1) => rep_yes h)
   have HR0 := hI (fun (h : v.x.kind ≠ 1) => rep_no h)
   have HA1 := hI (fun (h : v.x.kind = 2) => ass_yes h)
   have HA0 := hI (fun (h : v.x.kind ≠ 2) => ass_no h)
   obtain ⟨KV, hKV⟩ : ∃ KV, KV = kindV v := ⟨_, rfl⟩
   rw [<- hKV] at HKC HR1 HR0 HA1 HA0
   clear hKV
   go_upto_region 5 with fail
   rw [<- hwb]
   clear hwb c0 c1 c2 c3 c4 c5 c6
   obtain ⟨y0, y1, y2, y3, y4, y5, y6, yf⟩ := blk7 HBE.out
   go_wp2_with fail
   refine (HKC.out wb).mono ?_
   rintro r w5 ⟨rfl, hx5⟩
   have HX5 := hI ((HX.out.trans HXB.out).trans hx5)
   have HIK5 := hI (HIK.out.ext (HXB.out.trans hx5))
   have HIT5 := hI (HIT.out.ext (HXB.out.trans hx5))
   clear hx5 HKC y0 y1 y2 y3 y4 y5 y6 yf HBE HIK HIT HXE HXB HX
   rcases (by omega : v.x.kind = 1 \/ v.x.kind = 2 \/ (v.x.kind ≠ 1 /\ v.x.kind ≠ 2)) with h1 | h2 | ⟨h1, h2⟩
   ·have hta := HR1.out h1
    have HQ := hI (show itsK (l.take (k + 1)) = (true, l[k].items) by rw [HST.out, itStep, <- HVX.out, if_pos h1])
    obtain ⟨wz, hwz⟩ : ∃ wz, wz = w5.alloc (.cells #[.slice v.a v.n v.c] 98) := ⟨_, rfl⟩
    have HXZ := hI (show Ext w5 wz by rw [hwz]; exact (Ext.refl _).alloc _)
    have HBZ := hI (show wz.heap[w5.heap.size]? = some (.cells #[.slice v.a v.n v.c] 98 (0, 0)) by rw [hwz]; exact alloc_new w5 _)
    obtain ⟨z0, zf⟩ := blk1 HBZ.out
    clear h1 HR1 HR0 HA1 HA0
    go_upto_region 8 with fail
    rw [<- hwz]
    clear hwz
    go_quiet (fail)
    go_wp2_with fail
    go_roundw
    case rel => exact ⟨k + 1, _, _, _, by rw [HQ.out], rfl, by go_num, by omega, by rw [HQ.out]; exact HIK5.out.ext (HXZ.out.drewN _), (HX5.out.trans HXZ.out).drewN _⟩
    case measure => simp [intOf]; omega
   ·have hta := HR0.out (by omega)
    have htb := HA1.out h2
    have HQ := hI (show itsK (l.take (k + 1)) = (K1, l[k].items) by rw [HST.out, itStep, <- HVX.out, if_neg (by omega), if_pos h2])
    obtain ⟨wz, hwz⟩ : ∃ wz, wz = w5.alloc (.cells #[.slice v.a v.n v.c] 99) := ⟨_, rfl⟩
    have HXZ := hI (show Ext w5 wz by rw [hwz]; exact (Ext.refl _).alloc _)
    have HBZ := hI (show wz.heap[w5.heap.size]? = some (.cells #[.slice v.a v.n v.c] 99 (0, 0)) by rw [hwz]; exact alloc_new w5 _)
    obtain ⟨z0, zf⟩ := blk1 HBZ.out
    clear h2 HR1 HR0 HA1 HA0
    go_upto_region 11 with fail
    rw [<- hwz]
    clear hwz
    go_wp2_with fail
    go_roundw
    case rel => exact ⟨k + 1, _, _, _, by rw [HQ.out], rfl, by go_num, by omega, by rw [HQ.out]; exact HIK5.out.ext HXZ.out, HX5.out.trans HXZ.out⟩
    case measure => simp [intOf]; omega
   have hta := HR0.out h1
   have htb := HA0.out h2
   have HQ := hI (show itsK (l.take (k + 1)) = (K1, K2) by rw [HST.out, itStep, <- HVX.out, if_neg h1, if_neg h2])
   clear h1 h2 HR1 HR0 HA1 HA0
   go_wp2_with fail
   go_roundw
   case rel => exact ⟨k + 1, _, _, _, by rw [HQ.out], rfl, by go_num, by omega, by rw [HQ.out]; exact HIT5.out, HX5.out⟩
   case measure => simp [intOf]; omega
  have t1 : decide ((k : Int) < (rn : Int)) = false := decide_eq_false (by omega)
  have hke : l.take k = l := List.take_of_length_le (by have := HRN.out; omega)
  rw [hke] at HIT ⊢
  clear hke
  unfold CItQ
  have HFW := hI (itsK_few HFEW.out)
  cases hb : (itsK l).1
  ·have HQ := hI (show itsKn l = (false, []) by unfold itsKn; rw [hb]; rfl)
   clear hb
   go_wp2_with fail
   go_ret2
   exact ⟨none, 0, 0, by rw [HQ.out]; rfl, by rw [HQ.out]; exact IsIts.nil _, HX1.out.trans HX.out⟩
  have HQ := hI (show itsKn l = itsK l by unfold itsKn; rw [hb]; rfl)
  have HBB := hI hb
  clear hb
  obtain ⟨its, hits⟩ : ∃ its, its = (itsK l).2 := ⟨_, rfl⟩
  rw [<- hits] at HIT HFW
  have HIE := hI hits
  have hni : ni <= 1000000 := by have := HIT.out.len; have := HFW.out.1; omega
  obtain ⟨VS, hrw, hvm, hvf⟩ := HIT.out
  have HRW := hI hrw
  have HVM := hI hvm
  have HVF := hI hvf
  clear hits hrw hvm hvf HIT
  go_wp2_with fail
  refine (cloneIts_calls VS ia ni ic wo HRW.out hni).mono ?_
  rintro r w7 ⟨v7, rfl, hown7, hx7⟩
  obtain ⟨a7, c7, rfl⟩ := owns_formG hown7
  have HOW7 := hI hown7
  have HX7 := hI hx7
  clear hown7 hx7
  go_wp2_with fail
  go_loopw [40] (CItC its ni wo.heap.size (.slice a7 ni c7) wo) (fun i _ => ni - (intOf i).toNat)
  case atStart => exact ⟨0, VS, rfl, Nat.zero_le _, HRW.out.1, HVM.out.symm, HOW7.out, fun u hu => (HVF.out u hu).mono (sub_maskC HX7.out (fun k hk => (HOW7.out.lt k (mem_rowOf.1 hk)).1)), HX7.out⟩
  case round =>
   obtain ⟨j, US, rfl, hj, hnU, hmap, hown, hfac, hx8⟩ := hrel
   obtain ⟨wq, rfl⟩ : ∃ wq : World, wq = wr := ⟨_, rfl⟩
   have HNU := hI hnU
   have HMP := hI hmap
   have HOWN := hI hown
   have HFA := hI hfac
   have HX8 := hI hx8
   clear hnU hmap hown hfac hx8
   by_cases hjn : j < ni
   ·have hjU : j < US.length := by have := HNU.out; omega
    have t2 : decide ((j : Int) < (ni : Int)) = true := decide_eq_true (by omega)
    have tj0 : (0 : Int) <= (j : Int) := by omega
    have tj1 : (j : Int) < (ni : Int) := by omega
    obtain ⟨g, rfl, hbg, hgl, hfz, hcs⟩ := own_g HOWN.out HNU.out hjn
    have q0 := hcs 0 (by omega)
    obtain ⟨u, hu⟩ : ∃ u, u = US[j] := ⟨_, rfl⟩
    rw [<- hu] at q0
    have HU := hI hu
    simp only [ItV.cells, List.getElem_cons_zero, Nat.add_zero] at q0
    have HI := hI (show IsIntF (mask wq [g]) u.x.facts u.a u.n from HFA.out u (by rw [HU.out]; exact List.getElem_mem hjU))
    have hun : u.n <= 1000000 := by
     have h1 := HI.out.1
     have h2 := HFW.out.2 u.x (by rw [<- HMP.out, HU.out]; exact List.mem_map_of_mem (List.getElem_mem hjU))
     omega
    clear hu hcs
    go_wp2_with fail
    refine (cloneInts_calls u.x.facts u.a u.n u.c wq (HI.out.mono (mask_sub _ _)) hun).mono ?_
    rintro r w9 ⟨v9, rfl, hown9, hx9⟩
    obtain ⟨a9, c9, rfl⟩ := owns_formG hown9
    have HOW9 := hI hown9
    have HX9 := hI hx9
    have p0 := hx9.cell q0
    have HF9 := hI (show w9.frozen? ⟨g, j * 4, none⟩ = false by
     have := hx9.block g hgl
     obtain ⟨_, h1⟩ := owns_ext HOWN.out hx9
     rcases h1 with ⟨h1, _⟩ | ⟨g', cap', cur, e, r1, r2, _⟩
     ·cases h1
     injection e with e1 e2 e3
     injection e1 with e1
     injection e1 with e1
     subst e1
     exact blk_free r2 _)
    have pf := HF9.out
    clear hown9 hx9 q0 hfz HF9
    go_wp2_with fail
    go_roundw
    case rel =>
     have hch : Chg [g] w9 (w9.setCell ⟨g, j * 4, none⟩ (.slice a9 u.n c9)) := (Chg.refl _ _).setCell (Or.inl (by simp)) _
     have hmk : Sub (mask w9 [g]) (mask (w9.setCell ⟨g, j * 4, none⟩ (.slice a9 u.n c9)) [g]) := mask_step hch (by simp)
     refine ⟨j + 1, US.set j ⟨u.x, a9, u.n, c9⟩, by go_num, by omega, by rw [List.length_set]; exact HNU.out, ?_, ?_, ?_, ?_⟩
     ·rw [List.map_set, <- HMP.out]
      apply List.ext_getElem (by simp)
      intro i h1 h2
      rw [List.getElem_set]
      by_cases e : j = i
      ·subst e; rw [if_pos rfl, HU.out]; simp
      rw [if_neg e]
     ·exact own_set0 (u := ⟨u.x, a9, u.n, c9⟩) (owns_ext HOWN.out HX9.out) hjU (by rw [HU.out])
     ·intro y hy
      rcases List.mem_or_eq_of_mem_set hy with h | h
      ·exact ((HFA.out y h).mono (mask_step (HX9.out.chg [g]) (by simp [rowOf, Value.ownBlock]))).mono hmk
      subst h
      have hl9 : u.n = u.x.facts.length := HI.out.1
      obtain ⟨fa, fc, e, hint⟩ := ints_own (M := [g]) (f := u.x.facts) (by rw [<- hl9]; exact HOW9.out) (fun k hk => by have := (HOW9.out.lt k hk).1; simp; omega)
      injection e with e1 e2 e3
      subst e1
      rw [<- hl9] at hint
      exact hint.mono hmk
     exact hch.ext (HX8.out.trans HX9.out) (fun y hy => by simp at hy; omega)
    case measure => simp [intOf]; omega
   have t2 : decide ((j : Int) < (ni : Int)) = false := decide_eq_false (by omega)
   go_wp2_with fail
   go_ret2
   obtain ⟨ax, cx, e, hrr⟩ := IsRows.of_owns (f := ItV.cells) (fun _ => rfl) (by rw [<- HNU.out]; exact HOWN.out)
   injection e with e1 e2 e3
   subst e1
   subst e3
   rw [<- HNU.out] at hrr
   exact ⟨_, ni, _, by rw [HQ.out, HBB.out]; rfl, by rw [HQ.out, <- HIE.out]; exact ⟨US, hrr, HMP.out.symm, fun u hu => (HFA.out u hu).mono (mask_sub _ _)⟩, HX1.out.trans (HX.out.trans HX8.out)⟩
theorem effFwd_step (hour : Int) {l : List Ev} {k : Nat} (hk : k < l.length) : effFwd hour (l.drop k) = if countsB hour l[k] (l.drop (k + 1)) = true then l[k] :: effFwd hour (l.drop (k + 1)) else effFwd hour (l.drop (k + 1)) := by
 rw [List.drop_eq_getElem_cons hk]
 rfl
theorem effFwd_len (hour : Int) : (l : List Ev) -> (effFwd hour l).length <= l.length
 | [] => Nat.le_refl _
 | x :: r => by
  rw [effFwd]
  have := effFwd_len hour r
  by_cases h : countsB hour x r = true
  ·rw [if_pos h]; simp; omega
  rw [if_neg h]; simp; omega
theorem own_snocEw {w : World} {base : Nat} {v : Value} {vs : List EvV} {k : Nat} {u : EvV} (hk : k = vs.length) (h : w.ownsRow base 30 7 v (k + 1) (vs.flatMap EvV.cells ++ (#[Value.int .i64 u.x.number, .int .i64 u.x.known, .int .i64 u.x.kind, .slice u.a u.n u.c, .int .i64 u.x.cur, .int .i64 u.x.amount, .int .i64 u.x.target] : Array Value).toList)) : w.ownsRow base 30 7 v (vs ++ [u]).length ((vs ++ [u]).flatMap EvV.cells) := by
 have : (vs ++ [u]).length = k + 1 := by simp [hk]
 rw [this]
 simpa [EvV.cells] using h
def REvL (hour : Int) (l : List Ev) (vs : List EvV) (n base : Nat) (w : World) (v i : Value) (wr : World) : Prop := ∃ (KP : List EvV) (k : Nat), i = .int .i64 k /\ k <= n /\ KP.length <= k /\ (∀ u ∈ KP, u ∈ vs) /\ KP.map (·.x) ++ effFwd hour (l.drop k) = effFwd hour l /\ wr.ownsRow base 30 7 v KP.length (KP.flatMap EvV.cells) /\ Ext w wr
def REvQ (hour : Int) (l : List Ev) (w : World) (e : Ending) (w' : World) : Prop := ∃ ra rn rc, e = .returned (.slice ra rn rc) /\ IsEvs w' (effFwd hour l) ra rn rc /\ Ext w w'
theorem rEvents_calls (c : Clm) (a : OA) (n cap : Nat) (hour : Int) (w : World) (hi : IsEvs w c.events a n cap) (hn2 : n <= 1000000000000) :
  Calls Tryz.prog 43 #[ClmArg c a n cap, .int .i64 hour] w (REvQ hour c.events w) := by
 have HCN := hI (fun (k : Nat) (W : World) (hk : k < n) (hW : Ext w W) => rcounts_calls c a n cap hour hn2 (n - k) k W (Nat.le_refl _) hk (hi.ext hW))
 have HN := hI hi.len
 obtain ⟨vs, hrows, hvs, hits⟩ := hi
 obtain ⟨l, hl⟩ : ∃ l, l = c.events := ⟨_, rfl⟩
 rw [<- hl] at HCN HN hvs ⊢
 have HV := hI hvs
 have HROWS := hI hrows
 have HITS := hI hits
 clear hrows hvs hits hl
 unfold ClmArg at HCN ⊢
 obtain ⟨wa, hwa⟩ : ∃ wa, wa = w.alloc (.cells #[.int .i64 c.id, .int .i64 c.policy, .int .i64 c.risk, .int .i64 c.hour, .int .i64 c.peril, .int .i64 c.area, .slice a n cap] 27) := ⟨_, rfl⟩
 have HXA := hI (show Ext w wa by rw [hwa]; exact (Ext.refl _).alloc _)
 have HB0 := hI (show wa.heap[w.heap.size]? = some (.cells #[.int .i64 c.id, .int .i64 c.policy, .int .i64 c.risk, .int .i64 c.hour, .int .i64 c.peril, .int .i64 c.area, .slice a n cap] 27 (0, 0)) by rw [hwa]; exact alloc_new w _)
 go_enter Tryz.func43, Tryz.ntmps43
 go_upto_region 1 with fail
 rw [<- hwa]
 clear hwa
 go_wp2_with fail
 go_loopw [5, 6] (REvL hour l vs n wa.heap.size wa) (fun _ i _ => n - (intOf i).toNat)
 case atStart => exact ⟨[], 0, rfl, Nat.zero_le _, Nat.zero_le _, by simp, rfl, ⟨rfl, Or.inl ⟨rfl, rfl⟩⟩, Ext.refl _⟩
 case round =>
  obtain ⟨KP, k, rfl, hk, hkl, hmem, hinv, hown, hx⟩ := hrel
  obtain ⟨wo, rfl⟩ : ∃ wo : World, wo = wr := ⟨_, rfl⟩
  have HMEM := hI hmem
  have HINV := hI hinv
  have HX := hI hx
  obtain ⟨kn, hkn⟩ : ∃ kn, kn = KP.length := ⟨_, rfl⟩
  have HKN := hI hkn
  rw [<- hkn] at hown hkl
  have HOWN := hI hown
  have HBR := hI (hx.blk HB0.out)
  obtain ⟨a0, a1, a2, a3, a4, a5, a6, af⟩ := blk7 HBR.out
  clear hmem hinv hx hkn hown
  by_cases hlt : k < n
  ·have hll : k < l.length := by have := HN.out; omega
   have hkv : k < vs.length := by have := HV.out; rw [this] at hll; simpa using hll
   have t1 : decide ((k : Int) < (n : Int)) = true := decide_eq_true (by omega)
   have HLK := hI (show l[k] = vs[k].x by simp [HV.out])
   have HST := hI (effFwd_step hour hll)
   have hgd : l.getD k ev0 = l[k] := by rw [List.getD_eq_getElem?_getD, List.getElem?_eq_getElem hll, Option.getD_some]
   have HCK := hI (HCN.out k wo hlt (HXA.out.trans HX.out))
   rw [hgd] at HCK
   obtain ⟨B, hB⟩ : ∃ B, B = countsB hour l[k] (l.drop (k + 1)) := ⟨_, rfl⟩
   rw [<- hB] at HCK HST
   clear hB hgd
   go_wp2_with fail
   refine HCK.out.mono ?_
   rintro r w5 ⟨rfl, hx5⟩
   have HX5 := hI (HX.out.trans hx5)
   have HO5 := hI (owns_ext HOWN.out hx5)
   have HX05 := hI hx5
   obtain ⟨d0, d1, d2, d3, d4, d5, d6, df⟩ := blk7 (hx5.blk HBR.out)
   clear hx5 HCK a0 a1 a2 a3 a4 a5 a6 af HBR HOWN
   cases hB : B
   ·have HBB := hI hB
    clear hB
    go_wp2_with fail
    go_roundw
    case rel => exact ⟨KP, k + 1, by go_num, by omega, by have := HKN.out; omega, HMEM.out, by rw [<- HINV.out, HST.out, HBB.out]; rfl, by rw [<- HKN.out]; exact HO5.out, HX5.out⟩
    case measure => simp [intOf]; omega
   have HBB := hI hB
   clear hB
   obtain ⟨b, off, rfl, c0, c1, c2, c3, c4, c5, c6⟩ := rows_seven (HROWS.out.ext (HXA.out.trans HX5.out)) hkv
   have hsz := HX5.out.size
   go_wp2_with (at_builtin; refine wpList_append_at elemEv rfl _ _ rfl wa.heap.size _ kn _ rfl HO5.out _ 1 1 rfl (by simp) rfl (by simp [Value.oneCell']) (by unfold maxLen; omega) (by omega) (by omega) ?_)
   intro v8 w8 hown8 hc8 hw8
   have HO8 := hI (own_snocEw (u := vs[k]) HKN.out hown8)
   have HX8 := hI (hc8.ext HX5.out (fun y hy => (HO5.out.lt y (mem_rowOf.1 hy)).1))
   obtain ⟨a8, c8, hv8⟩ := owns_formG hown8
   subst hv8
   clear hown8 hc8 hw8 c0 c1 c2 c3 c4 c5 c6 d0 d1 d2 d3 d4 d5 d6 df
   go_wp2_with fail
   go_roundw
   case rel =>
    have e1 : (KP ++ [vs[k]]).length = kn + 1 := by rw [List.length_append, <- HKN.out]; rfl
    refine ⟨KP ++ [vs[k]], k + 1, by go_num, by omega, by rw [e1]; omega, ?_, ?_, ?_, HX8.out⟩
    ·intro u hu
     rcases List.mem_append.1 hu with h | h
     ·exact HMEM.out u h
     simp only [List.mem_singleton] at h; subst h; exact List.getElem_mem hkv
    ·rw [<- HINV.out, HST.out, HBB.out, List.map_append, HLK.out]
     simp
    rw [e1]; have := HO8.out; rwa [e1] at this
   case measure => simp [intOf]; omega
  have t1 : decide ((k : Int) < (n : Int)) = false := decide_eq_false (by omega)
  have HQ := hI (show effFwd hour l = KP.map (·.x) by
   have := HINV.out
   rw [show k = l.length by have := HN.out; omega, List.drop_length] at this
   simpa [effFwd] using this.symm)
  obtain ⟨fa, fc, e, hrr⟩ := IsRows.of_owns (f := EvV.cells) (fun _ => rfl) (by rw [<- HKN.out]; exact HOWN.out)
  subst e
  have HRR := hI hrr
  clear hrr
  go_wp2_with fail
  go_ret
  exact ⟨fa, _, fc, rfl, ⟨KP, HRR.out, HQ.out, fun u hu => (HITS.out u (HMEM.out u hu)).ext (HXA.out.trans HX.out)⟩, HXA.out.trans HX.out⟩
theorem rEffs_calls (c : Clm) (a : OA) (n cap : Nat) (hour : Int) (w : World) (hi : IsEvs w c.events a n cap) (hn2 : n <= 1000000000000) :
  Calls Tryz.prog 20 #[ClmArg c a n cap, .int .i64 hour] w (IntsQ ((effFwd hour c.events).map (·.number)) w) := by
 obtain ⟨wa, hwa⟩ : ∃ wa, wa = w.alloc (.cells #[.int .i64 c.id, .int .i64 c.policy, .int .i64 c.risk, .int .i64 c.hour, .int .i64 c.peril, .int .i64 c.area, .slice a n cap] 27) := ⟨_, rfl⟩
 have HXA := hI (show Ext w wa by rw [hwa]; exact (Ext.refl _).alloc _)
 have HB0 := hI (show wa.heap[w.heap.size]? = some (.cells #[.int .i64 c.id, .int .i64 c.policy, .int .i64 c.risk, .int .i64 c.hour, .int .i64 c.peril, .int .i64 c.area, .slice a n cap] 27 (0, 0)) by rw [hwa]; exact alloc_new w _)
 have HE := hI (rEvents_calls c a n cap hour wa (hi.ext HXA.out) hn2)
 unfold ClmArg at HE
 obtain ⟨l, hl⟩ : ∃ l, l = effFwd hour c.events := ⟨_, rfl⟩
 have HLL := hI (show l.length <= n by rw [hl]; have := effFwd_len hour c.events; have := hi.len; omega)
 unfold REvQ at HE
 rw [<- hl] at HE ⊢
 clear hl hi
 unfold ClmArg
 obtain ⟨b0, b1, b2, b3, b4, b5, b6, bf⟩ := blk7 HB0.out
 go_enter Tryz.func20, Tryz.ntmps20
 go_upto_region 1 with fail
 rw [<- hwa]
 clear hwa
 go_wp2_with fail
 refine HE.out.mono ?_
 rintro r w1 ⟨ra, rn, rc, rfl, hev, hx1⟩
 have HEV := hI hev
 have HX1 := hI (HXA.out.trans hx1)
 have HRN := hI hev.len
 have hrn : rn <= 1000000000000 := by have := HRN.out; have := HLL.out; omega
 clear hev hx1 HE b0 b1 b2 b3 b4 b5 b6 bf HB0 HXA
 go_wp2_with fail
 go_loopw [5, 7] (EffN l rn w1.heap.size w1) (fun _ i _ => rn - (intOf i).toNat)
 case atStart => exact ⟨[], rfl, Nat.zero_le _, rfl, ⟨rfl, Or.inl ⟨rfl, rfl⟩⟩, Ext.refl _⟩
 case round =>
  obtain ⟨f, rfl, hk, hfe, hown, hx⟩ := hrel
  obtain ⟨wo, rfl⟩ : ∃ wo : World, wo = wr := ⟨_, rfl⟩
  obtain ⟨k, hkf⟩ : ∃ k, k = f.length := ⟨_, rfl⟩
  rw [<- hkf] at hown hk hfe ⊢
  have HKF := hI hkf
  have HFE := hI hfe
  have HOWN := hI hown
  have HX := hI hx
  clear hkf hfe hown hx
  by_cases hkn : k < rn
  ·have hkl : k < l.length := by have := HRN.out; omega
   have t1 : decide ((k : Int) < (rn : Int)) = true := decide_eq_true (by omega)
   have HXE := hI (HEV.out.ext HX.out)
   obtain ⟨b, off, v, rfl, hvx, hits, hrow⟩ := HXE.out.at hkl
   obtain ⟨c0, c1, c2, c3, c4, c5, c6⟩ := hrow.seven
   have HVX := hI hvx
   have hsz := HX.out.size
   clear hvx hits hrow
   go_wp2_with (at_builtin; refine wpList_append_at elemInts rfl _ _ rfl w1.heap.size _ k _ rfl HOWN.out _ 1 1 rfl ?f0 rfl ?f1 ?f2 ?f3 ?f4 ?_)
   case f0 => simp
   case f1 => simp [Value.oneCell']
   case f2 => unfold maxLen; omega
   case f3 => omega
   case f4 => omega
   intro v8 w8 hown8 hc8 hw8
   have HO8 := hI (own_snoc HKF.out hown8)
   have HX8 := hI (hc8.ext HX.out (fun y hy => (HOWN.out.lt y (mem_rowOf.1 hy)).1))
   obtain ⟨a8, c8, hv8⟩ := owns_formG hown8
   subst hv8
   clear hown8 hc8 hw8 c0 c1 c2 c3 c4 c5 c6
   go_wp2_with fail
   go_roundw
   case rel =>
    have e1 : (f ++ [v.x.number]).length = k + 1 := by rw [List.length_append, <- HKF.out]; rfl
    refine ⟨f ++ [v.x.number], by rw [e1]; go_num, by omega, ?_, ?_, HX8.out⟩
    ·rw [e1, List.take_succ_eq_append_getElem hkl, List.map_append, <- HFE.out, <- HVX.out]
     rfl
    exact HO8.out
   case measure => simp [intOf]; omega
  have t1 : decide ((k : Int) < (rn : Int)) = false := decide_eq_false (by omega)
  have hke : k = l.length := by have := HRN.out; omega
  have HQ := hI (show f = l.map (·.number) by have := HFE.out; rwa [hke, List.take_length] at this)
  obtain ⟨fa, fc, e, hints⟩ := ints_own (M := []) (by rw [<- HKF.out]; exact HOWN.out) (fun k _ => by simp)
  subst e
  rw [<- HKF.out] at hints
  have HI := hI hints
  clear hints hke
  go_wp2_with fail
  go_ret
  refine ⟨fa, fc, ?_, ?_, HX1.out.trans HX.out⟩
  ·rw [<- HQ.out, <- HKF.out]; rfl
  rw [<- HQ.out, <- HKF.out]
  exact HI.out.mono (mask_sub _ _)
def RItQ (l : List Ev) (w : World) (e : Ending) (w' : World) : Prop := ∃ ia ni ic, e = .returned (.tuple #[.slice ia ni ic, .bool (itsKn l).1]) /\ IsIts w' (itsKn l).2 ia ni ic /\ Ext w w'
def RItL (l : List Ev) (n : Nat) (w : World) (t ok i : Value) (wr : World) : Prop := ∃ (k : Nat) (ia : OA) (ni ic : Nat), t = .slice ia ni ic /\ ok = .bool (itsK (l.take k)).1 /\ i = .int .i64 k /\ k <= n /\ IsIts wr (itsK (l.take k)).2 ia ni ic /\ Ext w wr
theorem rItems_calls (c : Clm) (a : OA) (n cap : Nat) (hour : Int) (w : World) (hi : IsEvs w c.events a n cap) (hn2 : n <= 1000000000000) :
  Calls Tryz.prog 17 #[ClmArg c a n cap, .int .i64 hour] w (RItQ (effFwd hour c.events) w) := by
 obtain ⟨wa, hwa⟩ : ∃ wa, wa = w.alloc (.cells #[.int .i64 c.id, .int .i64 c.policy, .int .i64 c.risk, .int .i64 c.hour, .int .i64 c.peril, .int .i64 c.area, .slice a n cap] 27) := ⟨_, rfl⟩
 have HXA := hI (show Ext w wa by rw [hwa]; exact (Ext.refl _).alloc _)
 have HB0 := hI (show wa.heap[w.heap.size]? = some (.cells #[.int .i64 c.id, .int .i64 c.policy, .int .i64 c.risk, .int .i64 c.hour, .int .i64 c.peril, .int .i64 c.area, .slice a n cap] 27 (0, 0)) by rw [hwa]; exact alloc_new w _)
 have HE := hI (rEvents_calls c a n cap hour wa (hi.ext HXA.out) hn2)
 unfold ClmArg at HE
 obtain ⟨l, hl⟩ : ∃ l, l = effFwd hour c.events := ⟨_, rfl⟩
 have HLL := hI (show l.length <= n by rw [hl]; have := effFwd_len hour c.events; have := hi.len; omega)
 unfold REvQ at HE
 rw [<- hl] at HE ⊢
 clear hl hi
 unfold ClmArg
 obtain ⟨b0, b1, b2, b3, b4, b5, b6, bf⟩ := blk7 HB0.out
 go_enter Tryz.func17, Tryz.ntmps17
 go_upto_region 1 with fail
 rw [<- hwa]
 clear hwa
 go_wp2_with fail
 refine HE.out.mono ?_
 rintro r w1 ⟨ra, rn, rc, rfl, hev, hx1⟩
 have HEV := hI hev
 have HX1 := hI (HXA.out.trans hx1)
 have HRN := hI hev.len
 have hrn : rn <= 1000000000000 := by have := HRN.out; have := HLL.out; omega
 clear hev hx1 HE b0 b1 b2 b3 b4 b5 b6 bf HB0 HXA
 go_wp2_with fail
 go_loopw [7, 8, 9] (RItL l rn w1) (fun _ _ i _ => rn - (intOf i).toNat)
 case atStart => exact ⟨0, none, 0, 0, rfl, rfl, rfl, Nat.zero_le _, IsIts.nil _, Ext.refl _⟩
 case round =>
  obtain ⟨k, ia, ni, ic, rfl, rfl, rfl, hk, hits, hx⟩ := hrel
  obtain ⟨wo, rfl⟩ : ∃ wo : World, wo = wr := ⟨_, rfl⟩
  have HIT := hI hits
  have HX := hI hx
  clear hits hx
  by_cases hkn : k < rn
  ·have hkl : k < l.length := by have := HRN.out; omega
   have HST := hI (itsK_take hkl)
   obtain ⟨K, hK⟩ : ∃ K, K = itsK (l.take k) := ⟨_, rfl⟩
   rw [<- hK] at HST HIT ⊢
   obtain ⟨K1, K2⟩ := K
   clear hK
   have t1 : decide ((k : Int) < (rn : Int)) = true := decide_eq_true (by omega)
   have HXE := hI (HEV.out.ext HX.out)
   obtain ⟨b, off, v, rfl, hvx, hits, hrow⟩ := HXE.out.at hkl
   obtain ⟨c0, c1, c2, c3, c4, c5, c6⟩ := hrow.seven
   have HIK := hI hits
   have HVX := hI hvx
   clear hvx hits hrow
   dsimp only at HIT ⊢
   rcases (by omega : v.x.kind = 1 \/ v.x.kind = 2 \/ (v.x.kind ≠ 1 /\ v.x.kind ≠ 2)) with h1 | h2 | ⟨h1, h2⟩
   ·have k1 : (v.x.kind == 1) = true := by simp [h1]
    have k2 : (v.x.kind == 2) = false := by simp [h1]
    have HQ := hI (show itsK (l.take (k + 1)) = (true, l[k].items) by rw [HST.out, itStep, <- HVX.out, if_pos h1])
    clear h1
    cases K1
    all_goals
     go_wp2_with fail
     go_roundw
     case rel => exact ⟨k + 1, _, _, _, rfl, by rw [HQ.out], by go_num, by omega, by rw [HQ.out]; exact HIK.out, HX.out⟩
     case measure => simp [intOf]; omega
   ·have k1 : (v.x.kind == 1) = false := by simp [h2]
    have k2 : (v.x.kind == 2) = true := by simp [h2]
    have HQ := hI (show itsK (l.take (k + 1)) = (K1, l[k].items) by rw [HST.out, itStep, <- HVX.out, if_neg (by omega), if_pos h2])
    clear h2
    cases K1
    all_goals
     go_wp2_with fail
     go_roundw
     case rel => exact ⟨k + 1, _, _, _, rfl, by rw [HQ.out], by go_num, by omega, by rw [HQ.out]; exact HIK.out, HX.out⟩
     case measure => simp [intOf]; omega
   have k1 : (v.x.kind == 1) = false := by simp [h1]
   have k2 : (v.x.kind == 2) = false := by simp [h2]
   have HQ := hI (show itsK (l.take (k + 1)) = (K1, K2) by rw [HST.out, itStep, <- HVX.out, if_neg h1, if_neg h2])
   clear h1 h2
   go_wp2_with fail
   go_roundw
   case rel => exact ⟨k + 1, _, _, _, rfl, by rw [HQ.out], by go_num, by omega, by rw [HQ.out]; exact HIT.out, HX.out⟩
   case measure => simp [intOf]; omega
  have t1 : decide ((k : Int) < (rn : Int)) = false := decide_eq_false (by omega)
  have hke : l.take k = l := List.take_of_length_le (by have := HRN.out; omega)
  rw [hke] at HIT ⊢
  clear hke
  unfold RItQ
  cases hb : (itsK l).1
  ·have HQ := hI (show itsKn l = (false, []) by unfold itsKn; rw [hb]; rfl)
   clear hb
   go_wp2_with fail
   go_ret2
   exact ⟨none, 0, 0, by rw [HQ.out]; rfl, by rw [HQ.out]; exact IsIts.nil _, HX1.out.trans HX.out⟩
  have HQ := hI (show itsKn l = itsK l by unfold itsKn; rw [hb]; rfl)
  have HBB := hI hb
  clear hb
  go_wp2_with fail
  go_ret2
  exact ⟨ia, ni, ic, by rw [HQ.out, HBB.out]; rfl, by rw [HQ.out]; exact HIT.out, HX1.out.trans HX.out⟩
theorem rAdd_calls (l : ZI) (a : OA) (n c : Nat) (x : Int) (w : World) (hi : IsIntF w l a n) (hn2 : n <= 1000000000000) :
  Calls Tryz.prog 52 #[.slice a n c, .int .i64 x] w (IntsQ (addPt l x) w) := by
 have HC := hI (radd_calls l a n c x w hi hn2)
 clear hi
 go_enter Tryz.func52, Tryz.ntmps52
 go_wp2_with fail
 refine HC.out.mono ?_
 rintro r w5 ⟨fa, fc, rfl, hi5, hx5⟩
 have HI := hI hi5
 have HX := hI hx5
 clear hi5 hx5 HC
 go_wp2_with fail
 go_ret
 exact ⟨fa, fc, rfl, HI.out, HX.out⟩
theorem addPt_lenK : (l : ZI) -> (x : Int) -> (addPt l x).length <= l.length + 1
 | [], x => by simp [addPt]
 | y :: r, x => by
  rw [addPt]
  have := addPt_lenK r x
  split
  ·simp
  split <;> simp <;> omega
def KnF (l : List Ev) (k : Nat) : ZI := ((l.take k).map (·.known)).foldl addPt []
theorem knF_succ {l : List Ev} {k : Nat} (hk : k < l.length) : KnF l (k + 1) = addPt (KnF l k) l[k].known := by
 unfold KnF
 rw [List.take_succ_eq_append_getElem hk, List.map_append, List.foldl_append]
 rfl
theorem knF_len (l : List Ev) : (k : Nat) -> (KnF l k).length <= k
 | 0 => by simp [KnF]
 | k + 1 => by
  by_cases hk : k < l.length
  ·rw [knF_succ hk]; have := addPt_lenK (KnF l k) l[k].known; have := knF_len l k; omega
  have : KnF l (k + 1) = KnF l k := by unfold KnF; rw [List.take_of_length_le (by omega), List.take_of_length_le (by omega)]
  rw [this]; have := knF_len l k; omega
def KnI (l : List Ev) (n : Nat) (w : World) (v j : Value) (wr : World) : Prop := ∃ (k : Nat) (fa : OA) (fc : Nat), v = .slice fa (KnF l k).length fc /\ j = .int .i64 k /\ k <= n /\ IsIntF wr (KnF l k) fa (KnF l k).length /\ Ext w wr
def KnO (l : List Ev) (w : World) (v i : Value) (wr : World) : Prop := ∃ (q : Nat) (fa : OA) (fc : Nat), v = .slice fa (KnF l (q * l.length)).length fc /\ i = .int .i64 q /\ q <= 1 /\ IsIntF wr (KnF l (q * l.length)) fa (KnF l (q * l.length)).length /\ Ext w wr
def PfArg (B : Nat) : Value := .agg #[.slice none 0 0, .slice none 0 0, .slice (some ⟨B, 0, none⟩) 1 1, .slice none 0 0]
theorem rKnown_calls (c : Clm) (a : OA) (n cap B : Nat) (w : World) (hb : w.heap[B]? = some (.cells (ClmCells c a n cap) 27 (0, 0))) (hi : IsEvs w c.events a n cap) (hn2 : n <= 1000000) :
  Calls Tryz.prog 23 #[PfArg B] w (IntsQ (knownL c.events) w) := by
 have HN := hI hi.len
 obtain ⟨l, hl⟩ : ∃ l, l = c.events := ⟨_, rfl⟩
 have HI := hI (show IsEvs w l a n cap by rw [hl]; exact hi)
 rw [<- hl] at HN ⊢
 have HBC := hI (fun (W : World) (hW : Ext w W) => hW.blk hb)
 clear hi hl hb
 unfold PfArg
 unfold ClmCells at HBC
 obtain ⟨wa, hwa⟩ : ∃ wa, wa = w.alloc (.cells #[.slice none 0 0, .slice none 0 0, .slice (some ⟨B, 0, none⟩) 1 1, .slice none 0 0] 65) := ⟨_, rfl⟩
 have HXA := hI (show Ext w wa by rw [hwa]; exact (Ext.refl _).alloc _)
 have HB0 := hI (show wa.heap[w.heap.size]? = some (.cells #[.slice none 0 0, .slice none 0 0, .slice (some ⟨B, 0, none⟩) 1 1, .slice none 0 0] 65 (0, 0)) by rw [hwa]; exact alloc_new w _)
 go_enter Tryz.func23, Tryz.ntmps23
 go_upto_region 1 with fail
 rw [<- hwa]
 clear hwa
 go_wp2_with fail
 go_loopw [3, 4, 5] (fun v i _ => KnO l wa v i) (fun _ i _ _ => 1 - (intOf i).toNat)
 case atStart => exact ⟨0, none, 0, by simp [KnF], rfl, by omega, by simp only [Nat.zero_mul]; exact ⟨rfl, fun i h => by simp [KnF] at h⟩, Ext.refl _⟩
 case round =>
  obtain ⟨q, fa, fc, rfl, rfl, hq, hif, hx⟩ := hrel
  obtain ⟨wo, rfl⟩ : ∃ wo : World, wo = wr := ⟨_, rfl⟩
  have HIF := hI hif
  have HX := hI hx
  obtain ⟨b0, b1, b2, b3, bf⟩ := blk4c (hx.blk HB0.out)
  clear hif hx
  rcases (by omega : q = 0 \/ q = 1) with rfl | rfl
  ·simp only [Nat.zero_mul] at HIF ⊢
   rw [show ((0 : Nat) : Int) = 0 from rfl]
   have he : (KnF l 0).length = 0 := rfl
   go_wp2_with fail
   clear b0 b1 b2 b3 bf
   go_loopw [3, 5] (KnI l n wo) (fun _ j _ => n - (intOf j).toNat)
   case atStart => exact ⟨0, fa, fc, rfl, rfl, by omega, HIF.out, Ext.refl _⟩
   case round =>
    obtain ⟨k, ga, gc, rfl, rfl, hk, hif2, hx2⟩ := hrel
    obtain ⟨wq, rfl⟩ : ∃ wq : World, wq = wr := ⟨_, rfl⟩
    have HIF2 := hI hif2
    have HX2 := hI (HX.out.trans hx2)
    have HX3 := hI hx2
    obtain ⟨b0, b1, b2, b3, bf⟩ := blk4c (HX2.out.blk HB0.out)
    obtain ⟨d0, d1, d2, d3, d4, d5, d6, df⟩ := blk7 (HBC.out wq (HXA.out.trans HX2.out))
    clear hif2 hx2
    have hkl2 := knF_len l k
    by_cases hkn : k < n
    ·have hkl : k < l.length := by have := HN.out; omega
     have t1 : decide ((k : Int) < (n : Int)) = true := decide_eq_true (by omega)
     have HST := hI (knF_succ hkl)
     obtain ⟨b, off, v, rfl, hvx, -, hrow⟩ := (HI.out.ext (HXA.out.trans HX2.out)).at hkl
     obtain ⟨c0, c1, c2, c3, c4, c5, c6⟩ := hrow.seven
     rw [<- hvx] at HST
     obtain ⟨F, hF⟩ : ∃ F, F = KnF l k := ⟨_, rfl⟩
     rw [<- hF] at HIF2 HST hkl2 ⊢
     clear hvx hrow c0 c2 c3 c4 c5 c6 hF
     go_wp2_with fail
     refine (rAdd_calls F ga F.length gc v.x.known wq HIF2.out (by omega)).mono ?_
     rintro r w5 ⟨ha, hc, rfl, hi5, hx5⟩
     have HI5 := hI hi5
     have HX5 := hI (HX3.out.trans hx5)
     clear hi5 hx5 b0 b1 b2 b3 bf d0 d1 d2 d3 d4 d5 d6 df c1
     go_wp2_with fail
     go_roundw
     case rel => exact ⟨k + 1, ha, hc, by rw [HST.out], by go_num, by omega, by rw [HST.out]; exact HI5.out, HX5.out⟩
     case measure => simp [intOf]; omega
    have t1 : decide ((k : Int) < (n : Int)) = false := decide_eq_false (by omega)
    have HKE := hI (show k = 1 * l.length by have := HN.out; omega)
    go_wp2_with fail
    go_roundw
    case rel => exact ⟨1, ga, gc, by rw [<- HKE.out], by go_num, by omega, by rw [<- HKE.out]; exact HIF2.out, HX2.out⟩
    case measure => simp [intOf]
  simp only [Nat.one_mul] at HIF ⊢
  rw [show ((1 : Nat) : Int) = 1 from rfl]
  have hfe : KnF l l.length = knownL l := by unfold KnF knownL; rw [List.take_length]
  rw [hfe] at HIF ⊢
  clear hfe
  go_wp2_with fail
  go_ret
  exact ⟨fa, fc, rfl, HIF.out, HXA.out.trans HX.out⟩
end Go.Proofs.YtpkljcgihobaiaaGreat
