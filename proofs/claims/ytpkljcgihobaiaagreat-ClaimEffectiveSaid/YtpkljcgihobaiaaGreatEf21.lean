/-
  Texts of the claim, joined: SmIt.
-/
import Derived.Test.YtpkljcgihobaiaaGreatEf19
namespace Go.Proofs.YtpkljcgihobaiaaGreat
set_option maxRecDepth 100000
set_option maxHeartbeats 32000000
open Go.RowKit
def GrGI (wr : World) (_ : ZN) (_ : Nat -> Value) (W : World) : Prop := Ext wr W
def SmI (n : Nat) (w : World) (i : Value) (wr : World) : Prop := ∃ k : Nat, i = .int .i64 k /\ k <= n /\ Ext w wr
def same6R (b1 o1 b2 o2 k m c d : Nat) (x : It) (v1 v2 : ItV) : Nat -> Value -> World -> Prop
 | 0, u, _ => u = .slice (some ⟨b1, o1, none⟩) m c
 | 1, u, _ => u = .int .i64 k
 | 2, u, _ => u = .pointer (some ⟨b1, o1 + k * 4, none⟩)
 | 3, u, _ => u = .pointer (some ⟨b1, o1 + k * 4 + 1, none⟩)
 | 4, u, _ => u = .int .i64 x.value
 | 5, u, _ => u = .slice (some ⟨b2, o2, none⟩) m d
 | 6, u, _ => u = .int .i64 k
 | 7, u, _ => u = .pointer (some ⟨b2, o2 + k * 4, none⟩)
 | 8, u, _ => u = .pointer (some ⟨b2, o2 + k * 4 + 1, none⟩)
 | 9, u, _ => u = .int .i64 x.value
 | 10, u, _ => u = .bool false
 | 11, u, _ => u = .bool false
 | 12, u, _ => u = .slice (some ⟨b1, o1, none⟩) m c
 | 13, u, _ => u = .int .i64 k
 | 14, u, _ => u = .pointer (some ⟨b1, o1 + k * 4, none⟩)
 | 15, u, _ => u = .pointer (some ⟨b1, o1 + k * 4 + 2, none⟩)
 | 16, u, _ => u = .int .i64 x.sum
 | 17, u, _ => u = .slice (some ⟨b2, o2, none⟩) m d
 | 18, u, _ => u = .int .i64 k
 | 19, u, _ => u = .pointer (some ⟨b2, o2 + k * 4, none⟩)
 | 20, u, _ => u = .pointer (some ⟨b2, o2 + k * 4 + 2, none⟩)
 | 21, u, _ => u = .int .i64 x.sum
 | 22, u, _ => u = .bool false
 | 23, u, _ => u = .bool false
 | 24, u, _ => u = .bool false
 | 25, u, _ => u = .slice (some ⟨b1, o1, none⟩) m c
 | 26, u, _ => u = .int .i64 k
 | 27, u, _ => u = .pointer (some ⟨b1, o1 + k * 4, none⟩)
 | 28, u, _ => u = .pointer (some ⟨b1, o1 + k * 4 + 3, none⟩)
 | 29, u, _ => u = .int .i64 x.gross
 | 30, u, _ => u = .slice (some ⟨b2, o2, none⟩) m d
 | 31, u, _ => u = .int .i64 k
 | 32, u, _ => u = .pointer (some ⟨b2, o2 + k * 4, none⟩)
 | 33, u, _ => u = .pointer (some ⟨b2, o2 + k * 4 + 3, none⟩)
 | 34, u, _ => u = .int .i64 x.gross
 | 35, u, _ => u = .bool false
 | 36, u, _ => u = .bool false
 | 37, u, _ => u = .bool false
 | 38, u, _ => u = .slice (some ⟨b1, o1, none⟩) m c
 | 39, u, _ => u = .int .i64 k
 | 40, u, _ => u = .pointer (some ⟨b1, o1 + k * 4, none⟩)
 | 41, u, _ => u = .pointer (some ⟨b1, o1 + k * 4, none⟩)
 | 42, u, _ => u = .slice v1.a v1.n v1.c
 | 43, u, _ => u = .slice (some ⟨b2, o2, none⟩) m d
 | 44, u, _ => u = .int .i64 k
 | 45, u, _ => u = .pointer (some ⟨b2, o2 + k * 4, none⟩)
 | 46, u, _ => u = .pointer (some ⟨b2, o2 + k * 4, none⟩)
 | 47, u, _ => u = .slice v2.a v2.n v2.c
 | 48, u, _ => u = .bool true
 | 49, u, _ => u = .bool false
 | _, u, _ => u = .bool false
set_option synthInstance.maxSize 100000 in
set_option synthInstance.maxHeartbeats 4000000 in
theorem rSameIts_calls (l : List It) (a : OA) (n c : Nat) (b : OA) (m d : Nat) (w : World) (h1 : IsIts w l a n c) (h2 : IsIts w l b m d) (hn2 : n <= 1000000) (hf : ∀ x ∈ l, x.facts.length <= 1000000) :
  Calls Tryz.prog 21 #[.slice a n c, .slice b m d] w (GivesE (.bool true) w) := by
 obtain rfl : m = n := by have := h1.len; have := h2.len; omega
 have HN := hI h1.len
 have H1 := hI h1
 have H2 := hI h2
 have HF := hI hf
 clear h1 h2 hf
 go_enter Tryz.func21, Tryz.ntmps21
 go_wp2_with fail
 go_loopw [5] (SmI m w) (fun i _ => m - (intOf i).toNat)
 case atStart => exact ⟨0, rfl, Nat.zero_le _, Ext.refl _⟩
 case round =>
  obtain ⟨k, rfl, hk, hx⟩ := hrel
  obtain ⟨wo, rfl⟩ : ∃ wo : World, wo = wr := ⟨_, rfl⟩
  have HX := hI hx
  clear hx
  by_cases hkn : k < m
  ·have hkl : k < l.length := by have := HN.out; omega
   have t1 : decide ((k : Int) < (m : Int)) = true := decide_eq_true (by omega)
   have tk0 : (0 : Int) <= (k : Int) := by omega
   have tk1 : (k : Int) < (m : Int) := by omega
   obtain ⟨b1, o1, v1, rfl, -, hf1, s0, s1, s2, s3⟩ := (H1.out.ext HX.out).at hkl
   obtain ⟨b2, o2, v2, rfl, -, hf2, r0, r1, r2, r3⟩ := (H2.out.ext HX.out).at hkl
   have hfl := HF.out _ (List.getElem_mem hkl)
   obtain ⟨x, hx⟩ : ∃ x, x = l[k] := ⟨_, rfl⟩
   rw [<- hx] at s1 s2 s3 r1 r2 r3 hf1 hf2 hfl
   have HF1 := hI hf1
   have HF2 := hI hf2
   have hvn : v1.n <= 1000000 := by have := hf1.1; omega
   clear hf1 hf2 hx hfl
   go_upto_region 6 with fail
   refine wp_region_growLG (n := 68) (m := 51) [50] (GrGI wo) GrE (GrP (same6R b1 o1 b2 o2 k m c d x v1 v2)) (by kernel_rfl) (by kernel_rfl) (Nat.le_of_ble_eq_true rfl) ?gd ((Ext.refl wo).drew) ?_ ?_ ?_
   case gd =>
    intro i o j b hi ho hg
    have hi' := (by decide +kernel : ∀ i, i < 51 -> (i = 0 \/ i = 1 \/ i = 2 \/ i = 3 \/ i = 4 \/ i = 5 \/ i = 6 \/ i = 7 \/ i = 8 \/ i = 9 \/ i = 10 \/ i = 11 \/ i = 12 \/ i = 13 \/ i = 14 \/ i = 15 \/ i = 16 \/ i = 17 \/ i = 18 \/ i = 19 \/ i = 20 \/ i = 21 \/ i = 22 \/ i = 23 \/ i = 24 \/ i = 25 \/ i = 26 \/ i = 27 \/ i = 28 \/ i = 29 \/ i = 30 \/ i = 31 \/ i = 32 \/ i = 33 \/ i = 34 \/ i = 35 \/ i = 36 \/ i = 37 \/ i = 38 \/ i = 39 \/ i = 40 \/ i = 41 \/ i = 42 \/ i = 43 \/ i = 44 \/ i = 45 \/ i = 46 \/ i = 47 \/ i = 48 \/ i = 49 \/ i = 50)) i hi
    rcases hi' with rfl | rfl | rfl | rfl | rfl | rfl | rfl | rfl | rfl | rfl | rfl | rfl | rfl | rfl | rfl | rfl | rfl | rfl | rfl | rfl | rfl | rfl | rfl | rfl | rfl | rfl | rfl | rfl | rfl | rfl | rfl | rfl | rfl | rfl | rfl | rfl | rfl | rfl | rfl | rfl | rfl | rfl | rfl | rfl | rfl | rfl | rfl | rfl | rfl | rfl | rfl <;> (cases ho; first | (cases hg; done) | (cases hg; intro v W h; exact h))
   ·intro i k v W W' hi hk hne hout h hE
    have hE : Ext W W' := hE
    have hi' := (by decide +kernel : ∀ i, i < 51 -> (i = 0 \/ i = 1 \/ i = 2 \/ i = 3 \/ i = 4 \/ i = 5 \/ i = 6 \/ i = 7 \/ i = 8 \/ i = 9 \/ i = 10 \/ i = 11 \/ i = 12 \/ i = 13 \/ i = 14 \/ i = 15 \/ i = 16 \/ i = 17 \/ i = 18 \/ i = 19 \/ i = 20 \/ i = 21 \/ i = 22 \/ i = 23 \/ i = 24 \/ i = 25 \/ i = 26 \/ i = 27 \/ i = 28 \/ i = 29 \/ i = 30 \/ i = 31 \/ i = 32 \/ i = 33 \/ i = 34 \/ i = 35 \/ i = 36 \/ i = 37 \/ i = 38 \/ i = 39 \/ i = 40 \/ i = 41 \/ i = 42 \/ i = 43 \/ i = 44 \/ i = 45 \/ i = 46 \/ i = 47 \/ i = 48 \/ i = 49 \/ i = 50)) i hi
    clear hi hk hne hout
    rcases hi' with rfl | rfl | rfl | rfl | rfl | rfl | rfl | rfl | rfl | rfl | rfl | rfl | rfl | rfl | rfl | rfl | rfl | rfl | rfl | rfl | rfl | rfl | rfl | rfl | rfl | rfl | rfl | rfl | rfl | rfl | rfl | rfl | rfl | rfl | rfl | rfl | rfl | rfl | rfl | rfl | rfl | rfl | rfl | rfl | rfl | rfl | rfl | rfl | rfl | rfl | rfl
    ·exact h
    ·exact h
    ·exact h
    ·exact h
    ·exact h
    ·exact h
    ·exact h
    ·exact h
    ·exact h
    ·exact h
    ·exact h
    ·exact h
    ·exact h
    ·exact h
    ·exact h
    ·exact h
    ·exact h
    ·exact h
    ·exact h
    ·exact h
    ·exact h
    ·exact h
    ·exact h
    ·exact h
    ·exact h
    ·exact h
    ·exact h
    ·exact h
    ·exact h
    ·exact h
    ·exact h
    ·exact h
    ·exact h
    ·exact h
    ·exact h
    ·exact h
    ·exact h
    ·exact h
    ·exact h
    ·exact h
    ·exact h
    ·exact h
    ·exact h
    ·exact h
    ·exact h
    ·exact h
    ·exact h
    ·exact h
    ·exact h
    ·exact h
    exact h
   ·intro q op hq ho L vs W hqL hcL hW hd ρ hρ
    have hq' := (by decide +kernel : ∀ q, q < 51 -> (q = 0 \/ q = 1 \/ q = 2 \/ q = 3 \/ q = 4 \/ q = 5 \/ q = 6 \/ q = 7 \/ q = 8 \/ q = 9 \/ q = 10 \/ q = 11 \/ q = 12 \/ q = 13 \/ q = 14 \/ q = 15 \/ q = 16 \/ q = 17 \/ q = 18 \/ q = 19 \/ q = 20 \/ q = 21 \/ q = 22 \/ q = 23 \/ q = 24 \/ q = 25 \/ q = 26 \/ q = 27 \/ q = 28 \/ q = 29 \/ q = 30 \/ q = 31 \/ q = 32 \/ q = 33 \/ q = 34 \/ q = 35 \/ q = 36 \/ q = 37 \/ q = 38 \/ q = 39 \/ q = 40 \/ q = 41 \/ q = 42 \/ q = 43 \/ q = 44 \/ q = 45 \/ q = 46 \/ q = 47 \/ q = 48 \/ q = 49 \/ q = 50)) q hq
    clear hq
    have o0 : ρ (.tmp 0) = .slice (some ⟨b1, o1, none⟩) m c := hρ.out 0 rfl
    have o5 : ρ (.tmp 5) = .int .i64 k := hρ.out 5 rfl
    have i0 := hρ.i 0 17
    have i1 := hρ.i 1 18
    have i2 := hρ.i 2 19
    have i3 := hρ.i 3 20
    have o1 : ρ (.tmp 1) = .slice (some ⟨b2, o2, none⟩) m d := hρ.out 1 rfl
    have i5 := hρ.i 5 22
    have i6 := hρ.i 6 23
    have i7 := hρ.i 7 24
    have i8 := hρ.i 8 25
    have i4 := hρ.i 4 21
    have i9 := hρ.i 9 26
    have i10 := hρ.i 10 27
    have i12 := hρ.i 12 29
    have i13 := hρ.i 13 30
    have i14 := hρ.i 14 31
    have i15 := hρ.i 15 32
    have i17 := hρ.i 17 34
    have i18 := hρ.i 18 35
    have i19 := hρ.i 19 36
    have i20 := hρ.i 20 37
    have i16 := hρ.i 16 33
    have i21 := hρ.i 21 38
    have i11 := hρ.i 11 28
    have i22 := hρ.i 22 39
    have i23 := hρ.i 23 40
    have i25 := hρ.i 25 42
    have i26 := hρ.i 26 43
    have i27 := hρ.i 27 44
    have i28 := hρ.i 28 45
    have i30 := hρ.i 30 47
    have i31 := hρ.i 31 48
    have i32 := hρ.i 32 49
    have i33 := hρ.i 33 50
    have i29 := hρ.i 29 46
    have i34 := hρ.i 34 51
    have i24 := hρ.i 24 41
    have i35 := hρ.i 35 52
    have i36 := hρ.i 36 53
    have i38 := hρ.i 38 55
    have i39 := hρ.i 39 56
    have i40 := hρ.i 40 57
    have i41 := hρ.i 41 58
    have i43 := hρ.i 43 60
    have i44 := hρ.i 44 61
    have i45 := hρ.i 45 62
    have i46 := hρ.i 46 63
    have i42 := hρ.i 42 59
    have i47 := hρ.i 47 64
    have i48 := hρ.i 48 65
    have i37 := hρ.i 37 54
    have i49 := hρ.i 49 66
    have hc := hρ.const
    have hfn := hρ.func
    clear hρ
    have HG := hI hW
    have HW := hI (show Ext wo W from hW)
    have HQL := hI hqL
    clear hW hqL hcL
    have kf0 := HW.out.cell s0
    have kf1 := HW.out.cell s1
    have kf2 := HW.out.cell s2
    have kf3 := HW.out.cell s3
    have kf4 := HW.out.cell r0
    have kf5 := HW.out.cell r1
    have kf6 := HW.out.cell r2
    have kf7 := HW.out.cell r3
    by_cases hs48 : q = 48
    ·subst hs48
     clear hq'
     cases ho
     have h42 : vs 42 = _ := hd ⟨42, .data⟩ (by simp) rfl
     rw [h42] at i42
     have h47 : vs 47 = _ := hd ⟨47, .data⟩ (by simp) rfl
     rw [h47] at i47
     clear hd
     unfold GivesOp
     go_simp
     refine (sameIntsF_calls x.facts x.facts _ _ _ _ _ _ W (HF1.out.mono HW.out.sub) (HF2.out.mono HW.out.sub) (by omega)).mono ?_
     rintro r5 w5 ⟨rfl, ⟨m5, rfl⟩⟩
     exact ⟨_, rfl, (Ext.refl W).drewN _, HW.out.trans ((Ext.refl W).drewN _), by rw [decide_eq_true rfl]; rfl⟩
    rcases hq' with rfl | rfl | rfl | rfl | rfl | rfl | rfl | rfl | rfl | rfl | rfl | rfl | rfl | rfl | rfl | rfl | rfl | rfl | rfl | rfl | rfl | rfl | rfl | rfl | rfl | rfl | rfl | rfl | rfl | rfl | rfl | rfl | rfl | rfl | rfl | rfl | rfl | rfl | rfl | rfl | rfl | rfl | rfl | rfl | rfl | rfl | rfl | rfl | rfl | rfl | rfl
    all_goals first | (exact absurd rfl hs48; done) | skip
    all_goals
     cases ho
     simp [isDataG, GrP, same6R] at hd
     clear hs48
     unfold GivesOp
     go_simp
     exact ⟨Ext.refl _, HW.out, rfl⟩
   intro L vs W hLm hW hR
   rw [if_pos (by decide +kernel)]
   have h50 : vs 50 = .bool false := hR 50 (by simp) (by omega)
   simp only [acts, dstAt, List.range, List.range.loop, List.foldl_cons, List.foldl_nil, h50]
   go_simp
   have hW2 : Ext wo W := hW
   clear hR hW hLm h50
   go_wp2_with fail
   go_roundw
   case rel => exact ⟨k + 1, by go_num, by omega, HX.out.trans hW2⟩
   case measure => simp [intOf]; omega
  have t1 : decide ((k : Int) < (m : Int)) = false := decide_eq_false (by omega)
  go_wp2_with fail
  go_ret
  exact givesE_bool rfl HX.out
end Go.Proofs.YtpkljcgihobaiaaGreat
