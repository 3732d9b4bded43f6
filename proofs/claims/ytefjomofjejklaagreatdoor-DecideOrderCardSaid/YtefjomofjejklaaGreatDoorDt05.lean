/-
  Texts of the claim, joined: RIdx, RSch, RNode, RNodes, RExp, RBack.
-/
import Derived.Test.YtefjomofjejklaaGreatDoorDt04
import Derived.Deep.DeepCutAuto
import Derived.StillTailTactics
namespace Go.Proofs.YtefjomofjejklaaGreatDoor
set_option maxRecDepth 100000
set_option maxHeartbeats 32000000
open Go.RowKit
theorem IsSchema.parts {w : World} {l : List Attr} {v : Value} (h : IsSchema w l v) : ∃ a n c, v = .agg #[.slice a n c] /\ n = l.length /\ n <= c /\ OkAddr a c /\ ∀ i (h : i < l.length), ∃ b off, a = some ⟨b, off, none⟩ /\ AttrAt w l[i] b (off + i * 5) := h
theorem IsSchema.ext {w w' : World} {l : List Attr} {v : Value} (h : IsSchema w l v) (he : Ext w w') : IsSchema w' l v := h.mono he.sub
def optV (o : Option Nat) : Value := .tuple #[.int .i64 (o.getD 0 : Nat), .bool o.isSome]
theorem find_hit {α : Type} {p : α -> Bool} {l : List α} {k : Nat} (hk : k < l.length) (h1 : p l[k] = true) (h2 : ∀ j (h : j < l.length), j < k -> p l[j] = false) : l.findIdx? p = some k := by
 rw [List.findIdx?_eq_some_iff_getElem]
 exact ⟨hk, h1, fun j hj => by rw [h2 j (by omega) hj]; simp⟩
theorem find_miss {α : Type} {p : α -> Bool} {l : List α} (h : ∀ j (h : j < l.length), p l[j] = false) : l.findIdx? p = none := by
 rw [List.findIdx?_eq_none_iff]
 intro x hx
 obtain ⟨i, hi, rfl⟩ := List.mem_iff_getElem.1 hx
 simp [h i hi]
theorem blk1 {w : World} {b : Nat} {v0 : Value} {t : TypeId} (h : w.heap[b]? = some (.cells #[v0] t (0, 0))) : w.cell? ⟨b, 0, none⟩ = some v0 /\ (∀ j, w.frozen? ⟨b, j, none⟩ = false) := ⟨blk_cell h 0, fun j => blk_free h j⟩
theorem dec_of_beq {a b : BA} {u : Bool} (h : (a.toList == b.toList) = u) : decide (a = b) = u := by rw [<- toList_beq]; exact h
theorem rIndex_calls (s : List Attr) (v : Value) (x : BA) (w : World) (hs : IsSchema w s v) (hl : s.length <= 1000000000000000) :
  Calls Tryz.prog 91 #[v, .string x] w (GivesE (optV (attrAt s x)) w) := by
 obtain ⟨a, n, c, rfl, hn, hnc, hoa, hat⟩ := hs.parts
 have HS := hI hs
 have HN := hI hn
 have hn2 : n <= 1000000000000000 := by omega
 clear hs hn hat hnc hoa
 go_enter Tryz.func91, Tryz.ntmps91
 go_wp2_with fail
 go_loopw [6] (fun t wr => ∃ k : Nat, t = .int .i64 k /\ k <= n /\ (∀ j (h : j < s.length), j < k -> decide (s[j].name = x) = false) /\ wr.heap[w.heap.size]? = some (.cells #[.slice a n c] 24 (0, 0)) /\ Ext w wr) (fun t _ => n - (intOf t).toNat)
 case atStart => exact ⟨0, rfl, by omega, fun j _ h => by omega, alloc_new w _, (Ext.refl w).alloc _⟩
 case round =>
  obtain ⟨k, rfl, hk, hno, hbx, hx⟩ := hrel
  have HNO := hI hno
  have HBX := hI hbx
  have HX := hI hx
  obtain ⟨bb0, bbf⟩ := blk1 hbx
  have hlt0 := blk_lt hbx
  clear hno hbx hx
  by_cases hkn : k < n
  ·have hks : k < s.length := by have := HN.out; omega
   obtain ⟨a', n', c', e', hx1, hx2, hx3, hat⟩ := (HS.out.ext HX.out).parts
   simp only [Value.agg.injEq, Array.mk.injEq, List.cons.injEq, Value.slice.injEq, and_true] at e'
   obtain ⟨rfl, rfl, rfl⟩ := e'
   clear hx1 hx2 hx3
   obtain ⟨b, off, rfl, aw, nw, cw, h0, h1, h2, h3, h4, h5⟩ := hat k hks
   have t1 : decide ((k : Int) < (n : Int)) = true := decide_eq_true (by omega)
   cases he : (s[k].name.toList == x.toList)
   ·have HE := hI (dec_of_beq he)
    clear hat h5
    go_wp2_with fail
    go_roundw
    case rel =>
     refine ⟨k + 1, by go_num, by omega, fun j hj hjk => ?_, HBX.out, HX.out⟩
     by_cases e : j = k
     ·subst e; exact HE.out
     exact HNO.out j hj (by omega)
    case measure => simp [intOf]; omega
   have HF := hI (show attrAt s x = some k from find_hit hks (dec_of_beq he) HNO.out)
   clear hat h5
   go_wp2_with fail
   go_ret2
   exact ⟨by rw [optV, HF.out]; rfl, HX.out⟩
  have t1 : decide ((k : Int) < (n : Int)) = false := decide_eq_false (by omega)
  have HF := hI (show attrAt s x = none from find_miss fun j hj => HNO.out j hj (by have := HN.out; omega))
  go_wp2_with fail
  go_ret2
  exact ⟨by rw [optV, HF.out]; rfl, HX.out⟩
theorem rFind_calls (l : List Cla) (a : OA) (n c : Nat) (x : BA) (w : World) (hs : IsClas w l a n c) (hl : n <= 1000000000000000) :
  Calls Tryz.prog 90 #[.slice a n c, .string x] w (Gives (optV (findAt l x)) w) := by
 have HS := hI hs
 have HN := hI hs.len
 clear hs
 go_enter Tryz.func90, Tryz.ntmps90
 go_wp2_with fail
 go_loop [6] (fun t => ∃ k : Nat, t = .int .i64 k /\ k <= n /\ (∀ j (h : j < l.length), j < k -> decide (l[j].name = x) = false)) (fun t => n - (intOf t).toNat)
 case atStart => exact ⟨0, rfl, by omega, fun j _ h => by omega⟩
 case round =>
  obtain ⟨k, rfl, hk, hno⟩ := hrel
  have HNO := hI hno
  clear hno
  by_cases hkn : k < n
  ·have hks : k < l.length := by have := HN.out; omega
   obtain ⟨b, off, v, rfl, hcla, hrow⟩ := HS.out.at hks
   obtain ⟨c0, c1, -, -, -, -, -, -, -, -⟩ := hrow.ten
   have hq2 := hcla.2.1
   rw [hq2] at c1
   have t1 : decide ((k : Int) < (n : Int)) = true := decide_eq_true (by omega)
   cases he : (l[k].name.toList == x.toList)
   ·have HE := hI (dec_of_beq he)
    clear hcla hrow hq2 c0
    go_wp2_with fail
    go_round
    case rel =>
     refine ⟨k + 1, by go_num, by omega, fun j hj hjk => ?_⟩
     by_cases e : j = k
     ·subst e; exact HE.out
     exact HNO.out j hj (by omega)
    case measure => simp [intOf]; omega
   have HF := hI (show findAt l x = some k from find_hit hks (dec_of_beq he) HNO.out)
   clear hcla hrow hq2 c0
   go_wp2_with fail
   go_ret2
   exact ⟨by rw [optV, HF.out]; rfl, rfl⟩
  have t1 : decide ((k : Int) < (n : Int)) = false := decide_eq_false (by omega)
  have HF := hI (show findAt l x = none from find_miss fun j hj => HNO.out j hj (by have := HN.out; omega))
  go_wp2_with fail
  go_ret2
  exact ⟨by rw [optV, HF.out]; rfl, rfl⟩
theorem rDef_calls (l : List Cla) (a : OA) (n c : Nat) (x : BA) (w : World) (hs : IsClas w l a n c) (hl : n <= 1000000000000000) :
  Calls Tryz.prog 125 #[.slice a n c, .string x] w (Gives (optV (defAt l x)) w) := by
 have HS := hI hs
 have HN := hI hs.len
 clear hs
 go_enter Tryz.func125, Tryz.ntmps125
 go_wp2_with fail
 go_loop [6] (fun t => ∃ k : Nat, t = .int .i64 k /\ k <= n /\ (∀ j (h : j < l.length), j < k -> ((l[j].kind == 1) && decide (l[j].name = x)) = false)) (fun t => n - (intOf t).toNat)
 case atStart => exact ⟨0, rfl, by omega, fun j _ h => by omega⟩
 case round =>
  obtain ⟨k, rfl, hk, hno⟩ := hrel
  have HNO := hI hno
  clear hno
  by_cases hkn : k < n
  ·have hks : k < l.length := by have := HN.out; omega
   obtain ⟨b, off, v, rfl, hcla, hrow⟩ := HS.out.at hks
   obtain ⟨c0, c1, -, -, -, -, -, -, -, -⟩ := hrow.ten
   have hq1 := hcla.1
   have hq2 := hcla.2.1
   rw [hq2] at c1
   rw [hq1] at c0
   have t1 : decide ((k : Int) < (n : Int)) = true := decide_eq_true (by omega)
   cases hkd : (l[k].kind == 1)
   ·have HE := hI (show ((l[k].kind == 1) && decide (l[k].name = x)) = false by rw [hkd]; rfl)
    clear hcla hrow hq2 hq1
    go_wp2_with fail
    go_round
    case rel =>
     refine ⟨k + 1, by go_num, by omega, fun j hj hjk => ?_⟩
     by_cases e : j = k
     ·subst e; exact HE.out
     exact HNO.out j hj (by omega)
    case measure => simp [intOf]; omega
   cases he : (l[k].name.toList == x.toList)
   ·have HE := hI (show ((l[k].kind == 1) && decide (l[k].name = x)) = false by rw [hkd, dec_of_beq he]; rfl)
    clear hcla hrow hq2 hq1
    go_wp2_with fail
    go_round
    case rel =>
     refine ⟨k + 1, by go_num, by omega, fun j hj hjk => ?_⟩
     by_cases e : j = k
     ·subst e; exact HE.out
     exact HNO.out j hj (by omega)
    case measure => simp [intOf]; omega
   have HF := hI (show defAt l x = some k from find_hit hks (by rw [hkd, dec_of_beq he]; rfl) HNO.out)
   clear hcla hrow hq2 hq1
   go_wp2_with fail
   go_ret2
   exact ⟨by rw [optV, HF.out]; rfl, rfl⟩
  have t1 : decide ((k : Int) < (n : Int)) = false := decide_eq_false (by omega)
  have HF := hI (show defAt l x = none from find_miss fun j hj => HNO.out j hj (by have := HN.out; omega))
  go_wp2_with fail
  go_ret2
  exact ⟨by rw [optV, HF.out]; rfl, rfl⟩
theorem rWithin_calls (l : ZB) (a : OA) (n c : Nat) (x : BA) (w : World) (hs : IsStrs w l a n c) (hl : n <= 1000000000000000) :
  Calls Tryz.prog 158 #[.slice a n c, .string x] w (Gives (.bool (l.any fun y => decide (y = x))) w) := by
 have HS := hI hs
 have HN := hI hs.1
 clear hs
 go_enter Tryz.func158, Tryz.ntmps158
 go_wp2_with fail
 go_loop [5] (fun t => ∃ k : Nat, t = .int .i64 k /\ k <= n /\ (∀ j (h : j < l.length), j < k -> decide (l[j] = x) = false)) (fun t => n - (intOf t).toNat)
 case atStart => exact ⟨0, rfl, by omega, fun j _ h => by omega⟩
 case round =>
  obtain ⟨k, rfl, hk, hno⟩ := hrel
  have HNO := hI hno
  clear hno
  by_cases hkn : k < n
  ·have hks : k < l.length := by have := HN.out; omega
   obtain ⟨b, off, rfl, c1⟩ := HS.out.2.2.2 k hks
   have t1 : decide ((k : Int) < (n : Int)) = true := decide_eq_true (by omega)
   cases he : (l[k].toList == x.toList)
   ·have HE := hI (dec_of_beq he)
    go_wp2_with fail
    go_round
    case rel =>
     refine ⟨k + 1, by go_num, by omega, fun j hj hjk => ?_⟩
     by_cases e : j = k
     ·subst e; exact HE.out
     exact HNO.out j hj (by omega)
    case measure => simp [intOf]; omega
   have HF := hI (show (l.any fun y => decide (y = x)) = true from List.any_eq_true.2 ⟨l[k], List.getElem_mem hks, dec_of_beq he⟩)
   go_wp2_with fail
   go_ret
   exact gives_bool (by rw [HF.out])
  have t1 : decide ((k : Int) < (n : Int)) = false := decide_eq_false (by omega)
  have HF := hI (show (l.any fun y => decide (y = x)) = false by
   rw [List.any_eq_false]
   intro y hy
   obtain ⟨j, hj, rfl⟩ := List.mem_iff_getElem.1 hy
   have := HNO.out j hj (by have := HN.out; omega)
   simp [this])
  go_wp2_with fail
  go_ret
  exact gives_bool (by rw [HF.out])
theorem rMost_calls (k : Int) (w : World) : Calls Tryz.prog 42 #[.int .i64 k] w (Gives (.int .i64 (mostOf k)) w) := by
 by_cases h5 : k = 5
 ·subst h5
  go_enter Tryz.func42, Tryz.ntmps42
  go_wp2_with fail
  go_ret
  exact ⟨rfl, rfl⟩
 by_cases h6 : k = 6
 ·subst h6
  go_enter Tryz.func42, Tryz.ntmps42
  go_wp2_with fail
  go_ret
  exact ⟨rfl, rfl⟩
 by_cases h7 : k = 7
 ·subst h7
  go_enter Tryz.func42, Tryz.ntmps42
  go_wp2_with fail
  go_ret
  exact ⟨rfl, rfl⟩
 by_cases h10 : k = 10
 ·subst h10
  go_enter Tryz.func42, Tryz.ntmps42
  go_wp2_with fail
  go_ret
  exact ⟨rfl, rfl⟩
 by_cases h8 : k = 8
 ·subst h8
  go_enter Tryz.func42, Tryz.ntmps42
  go_wp2_with fail
  go_ret
  exact ⟨rfl, rfl⟩
 have e5 : (k == 5) = false := by simp [h5]
 have e6 : (k == 6) = false := by simp [h6]
 have e7 : (k == 7) = false := by simp [h7]
 have e10 : (k == 10) = false := by simp [h10]
 have e8 : (k == 8) = false := by simp [h8]
 have HM := hI (show mostOf k = 0 by unfold mostOf; rw [if_neg (by omega), if_neg (by omega)])
 go_enter Tryz.func42, Tryz.ntmps42
 go_wp2_with fail
 go_ret
 exact ⟨by rw [HM.out]; rfl, rfl⟩
theorem blk5b {w : World} {b : Nat} {v0 v1 v2 v3 v4 : Value} {t : TypeId} (h : w.heap[b]? = some (.cells #[v0, v1, v2, v3, v4] t (0, 0))) :
  w.cell? ⟨b, 0, none⟩ = some v0 /\ w.cell? ⟨b, 1, none⟩ = some v1 /\ w.cell? ⟨b, 2, none⟩ = some v2 /\ w.cell? ⟨b, 3, none⟩ = some v3 /\ w.cell? ⟨b, 4, none⟩ = some v4 /\ (∀ j, w.frozen? ⟨b, j, none⟩ = false) :=
 ⟨blk_cell h 0, blk_cell h 1, blk_cell h 2, blk_cell h 3, blk_cell h 4, fun j => blk_free h j⟩
def Attr.fits (a : Attr) : Prop := a.name.size <= 1000000000000000 /\ a.words.length <= 1000000000000000 /\ ∀ x ∈ a.words, x.size <= 1000000000000000
theorem givesE_of {k : IntKind} {a b : Int} {w w' : World} (h : a = b) (hx : Ext w w') : GivesE (.int k b) w (.returned (.int k a)) w' := by subst h; exact ⟨rfl, hx⟩
theorem rattr_calls (x : Attr) (aw : OA) (nw cw : Nat) (w : World) (hw : IsStrs w x.words aw nw cw) (hf : x.fits) :
  Calls Tryz.prog 119 #[.agg #[.string x.name, .int .i64 x.kind, .slice aw nw cw, .int .i64 x.lo, .int .i64 x.hi]] w (GivesE (.int .i64 (attrErr x)) w) := by
 have HW := hI hw
 have HF := hI hf
 have hnw := hw.1
 have hnl : nw <= 1000000000000000 := by rw [hnw]; exact hf.2.1
 have HNW := hI hnw
 clear hw hf hnw
 obtain ⟨name, kind, words, lo, hi⟩ := x
 simp only at *
 by_cases h1 : kind = 1
 ·subst h1
  by_cases hlo : lo = 0
  ·subst hlo
   by_cases hhi : hi = 0
   ·subst hhi
    by_cases h0 : nw = 0
    ·have HE := hI (show attrErr ⟨name, 1, words, 0, 0⟩ = 19 by simp [attrErr, <- HNW.out, h0])
     subst h0
     go_enter Tryz.func119, Tryz.ntmps119
     go_wp2_with fail
     go_ret
     exact givesE_of (by rw [HE.out]) ((Ext.refl w).alloc _)
    have t0 : ((nw : Int) == 0) = false := by simp; omega
    by_cases h12 : 12 < nw
    ·have t12 : decide ((12 : Int) < (nw : Int)) = true := decide_eq_true (by omega)
     have HE := hI (show attrErr ⟨name, 1, words, 0, 0⟩ = 4 by
      simp only [attrErr, if_true, <- HNW.out]
      rw [if_neg (by simp), if_neg h0, if_pos h12])
     go_enter Tryz.func119, Tryz.ntmps119
     go_wp2_with fail
     go_ret
     exact givesE_of (by rw [HE.out]) ((Ext.refl w).alloc _)
    have t12 : decide ((12 : Int) < (nw : Int)) = false := decide_eq_false (by omega)
    cases hn : words.all nameB
    ·have HE := hI (show attrErr ⟨name, 1, words, 0, 0⟩ = 6 by
      simp only [attrErr, if_true, <- HNW.out]
      rw [if_neg (by simp), if_neg h0, if_neg h12, if_pos hn])
     have HB := hI hn
     clear hn
     go_enter Tryz.func119, Tryz.ntmps119
     go_wp2_with fail
     refine (names_calls words _ _ _ _ (HW.out.ext ((Ext.refl w).alloc _)) hnl HF.out.2.2).mono ?_
     rintro e w' ⟨rfl, rfl⟩
     rw [HB.out]
     go_wp2_with fail
     go_ret
     exact givesE_of (by rw [HE.out]) ((Ext.refl w).alloc _)
    have HB := hI hn
    cases hd : decide words.Nodup
    ·have HE := hI (show attrErr ⟨name, 1, words, 0, 0⟩ = 8 by
      simp only [attrErr, if_true, <- HNW.out]
      rw [if_neg (by simp), if_neg h0, if_neg h12, if_neg (by rw [hn]; simp), if_pos hd])
     have HB2 := hI hd
     clear hn hd
     go_enter Tryz.func119, Tryz.ntmps119
     go_wp2_with fail
     refine (names_calls words _ _ _ _ (HW.out.ext ((Ext.refl w).alloc _)) hnl HF.out.2.2).mono ?_
     rintro e w' ⟨rfl, rfl⟩
     rw [HB.out]
     go_wp2_with fail
     refine (distinct_calls words _ _ _ _ (HW.out.ext ((Ext.refl w).alloc _)) hnl).mono ?_
     rintro e w' ⟨rfl, q, rfl⟩
     rw [HB2.out]
     go_wp2_with fail
     go_ret
     exact givesE_of (by rw [HE.out]) (((Ext.refl w).alloc _).drewN _)
    have HE := hI (show attrErr ⟨name, 1, words, 0, 0⟩ = 0 by
     simp only [attrErr, if_true, <- HNW.out]
     rw [if_neg (by simp), if_neg h0, if_neg h12, if_neg (by rw [hn]; simp), if_neg (by rw [hd]; simp)])
    have HB2 := hI hd
    clear hn hd
    go_enter Tryz.func119, Tryz.ntmps119
    go_wp2_with fail
    refine (names_calls words _ _ _ _ (HW.out.ext ((Ext.refl w).alloc _)) hnl HF.out.2.2).mono ?_
    rintro e w' ⟨rfl, rfl⟩
    rw [HB.out]
    go_wp2_with fail
    refine (distinct_calls words _ _ _ _ (HW.out.ext ((Ext.refl w).alloc _)) hnl).mono ?_
    rintro e w' ⟨rfl, q, rfl⟩
    rw [HB2.out]
    go_wp2_with fail
    go_ret
    exact givesE_of (by rw [HE.out]) (((Ext.refl w).alloc _).drewN _)
   have t1 : (hi != 0) = true := by simp [hhi]
   have HE := hI (show attrErr ⟨name, 1, words, 0, hi⟩ = 20 by simp [attrErr, hhi])
   go_enter Tryz.func119, Tryz.ntmps119
   go_wp2_with fail
   go_ret
   exact givesE_of (by rw [HE.out]) ((Ext.refl w).alloc _)
  have t1 : (lo != 0) = true := by simp [hlo]
  have HE := hI (show attrErr ⟨name, 1, words, lo, hi⟩ = 20 by simp [attrErr, hlo])
  go_enter Tryz.func119, Tryz.ntmps119
  go_wp2_with fail
  go_ret
  exact givesE_of (by rw [HE.out]) ((Ext.refl w).alloc _)
 have e1 : (kind == 1) = false := by simp [h1]
 by_cases h2 : kind = 2
 ·subst h2
  have HE := hI (show attrErr ⟨name, 2, words, lo, hi⟩ = if 0 < nw then 20 else if hi < lo \/ numberB lo = false \/ numberB hi = false then 1 else 0 by
   simp only [attrErr, farB]
   rw [if_neg (by omega), if_pos trivial, <- HNW.out]
   simp)
  generalize attrErr ⟨name, 2, words, lo, hi⟩ = E at *
  go_enter Tryz.func119, Tryz.ntmps119
  go_wp2_with (go_at_call 154; refine (far_calls _ _).mono ?_; rintro e w' ⟨rfl, rfl⟩)
  all_goals (go_ret; exact givesE_of (by rw [HE.out]; simp_all <;> omega) ((Ext.refl w).alloc _))
 have e2 : (kind == 2) = false := by simp [h2]
 by_cases h3 : kind = 3
 ·subst h3
  have HE := hI (show attrErr ⟨name, 3, words, lo, hi⟩ = if 0 < nw \/ lo ≠ 0 \/ hi ≠ 0 then 20 else 0 by
   simp only [attrErr]
   rw [if_neg (by omega), if_neg (by omega), if_pos trivial, <- HNW.out])
  generalize attrErr ⟨name, 3, words, lo, hi⟩ = E at *
  go_enter Tryz.func119, Tryz.ntmps119
  go_wp2_with fail
  all_goals (go_ret; exact givesE_of (by rw [HE.out]; simp_all <;> omega) ((Ext.refl w).alloc _))
 have e3 : (kind == 3) = false := by simp [h3]
 have HE := hI (show attrErr ⟨name, kind, words, lo, hi⟩ = 11 by
  simp only [attrErr]
  rw [if_neg h1, if_neg h2, if_neg h3])
 generalize attrErr ⟨name, kind, words, lo, hi⟩ = E at *
 go_enter Tryz.func119, Tryz.ntmps119
 go_wp2_with fail
 go_ret
 exact givesE_of (by rw [HE.out]) ((Ext.refl w).alloc _)
def SchI (s : List Attr) (n : Nat) (a : OA) (c : Nat) (w : World) (t : Value) (wr : World) : Prop := ∃ k : Nat, t = .int .i64 k /\ k <= n /\ (∀ j, j < k -> attrIErr s j = 0) /\ wr.heap[w.heap.size]? = some (.cells #[.slice a n c] 24 (0, 0)) /\ Ext w wr
def SchJ (s : List Attr) (k : Nat) (wa : World) (t : Value) (wr : World) : Prop := ∃ m : Nat, t = .int .i64 m /\ m <= k /\ (∀ j (h : j < s.length), j < m -> decide (s[j].name = (s.getD k attr0).name) = false) /\ (∃ q, wr = wa.drewN q)
theorem getD_attr {s : List Attr} {i : Nat} (h : i < s.length) : s.getD i attr0 = s[i] := by simp [h]
theorem rSchema_calls (s : List Attr) (v : Value) (w : World) (hs : IsSchema w s v) (hf : ∀ x ∈ s, x.fits) (hl : s.length <= 1000000000000000) :
  Calls Tryz.prog 88 #[v] w (GivesE (.int .i64 (schemaErr s)) w) := by
 obtain ⟨a, n, c, rfl, hn, hnc, hoa, hat⟩ := hs.parts
 have HS := hI hs
 have HN := hI hn
 have HF := hI hf
 have hn2 : n <= 1000000000000000 := by omega
 clear hs hn hat hnc hoa hf
 by_cases h0 : n = 0
 ·have t0 : ((n : Int) == 0) = true := by simp [h0]
  have HE := hI (show schemaErr s = 19 by unfold schemaErr; rw [<- HN.out, if_pos h0])
  clear h0
  go_enter Tryz.func88, Tryz.ntmps88
  go_wp2_with fail
  go_ret
  exact givesE_of (by rw [HE.out]) ((Ext.refl w).alloc _)
 have t0 : ((n : Int) == 0) = false := by simp [h0]
 by_cases h6 : 6 < n
 ·have t6 : decide ((6 : Int) < (n : Int)) = true := decide_eq_true (by omega)
  have HE := hI (show schemaErr s = 4 by unfold schemaErr; rw [<- HN.out, if_neg h0, if_pos h6])
  go_enter Tryz.func88, Tryz.ntmps88
  go_wp2_with fail
  go_ret
  exact givesE_of (by rw [HE.out]) ((Ext.refl w).alloc _)
 have t6 : decide ((6 : Int) < (n : Int)) = false := decide_eq_false (by omega)
 have HE := hI (show schemaErr s = (firstI (attrIErr s) n).2 by unfold schemaErr; rw [<- HN.out, if_neg h0, if_neg h6])
 go_enter Tryz.func88, Tryz.ntmps88
 go_wp2_with fail
 go_loopw [3] (SchI s n a c w) (fun t _ => n - (intOf t).toNat)
 case atStart => exact ⟨0, rfl, by omega, fun j h => by omega, alloc_new w _, (Ext.refl w).alloc _⟩
 case round =>
  obtain ⟨k, rfl, hk, hno, hbx, hx⟩ := hrel
  obtain ⟨wo, rfl⟩ : ∃ wo : World, wo = wr := ⟨_, rfl⟩
  have HNO := hI hno
  have HBX := hI hbx
  have HX := hI hx
  obtain ⟨bb0, bbf⟩ := blk1 hbx
  have hlt0 := blk_lt hbx
  clear hno hbx hx
  by_cases hkn : k < n
  ·have hks : k < s.length := by have := HN.out; omega
   obtain ⟨a', n', c', e', hx1, hx2, hx3, hat⟩ := (HS.out.ext HX.out).parts
   simp only [Value.agg.injEq, Array.mk.injEq, List.cons.injEq, Value.slice.injEq, and_true] at e'
   obtain ⟨rfl, rfl, rfl⟩ := e'
   clear hx1 hx2 hx3
   obtain ⟨b, off, rfl, aw, nw, cw, h0, h1, h2, h3, h4, h5⟩ := hat k hks
   have H5 := hI h5
   have t1 : decide ((k : Int) < (n : Int)) = true := decide_eq_true (by omega)
   have hfk := HF.out _ (List.getElem_mem hks)
   have hfn := hfk.1
   have HFK := hI hfk
   have HAI := hI (show attrIErr s k = if nameB s[k].name = false then 6 else if (s.take k).any (fun b => decide (b.name = s[k].name)) = true then 8 else attrErr s[k] by unfold attrIErr; rw [getD_attr hks])
   clear hat h5 hfk
   cases hnb : nameB s[k].name
   ·have HNB := hI hnb
    have HR := hI (show schemaErr s = 6 by
     rw [HE.out, firstI_hit (k := k) (by rw [HAI.out, if_pos hnb]; omega) HNO.out n hkn]
     show attrIErr s k = 6
     rw [HAI.out, if_pos hnb])
    clear hnb HE
    go_wp2_with fail
    refine (rname_calls _ _ hfn).mono ?_
    rintro e w' ⟨rfl, rfl⟩
    rw [HNB.out]
    go_wp2_with fail
    go_ret
    exact givesE_of (by rw [HR.out]) (HX.out.alloc _)
   have HNB := hI hnb
   go_wp2_with fail
   refine (rname_calls _ _ hfn).mono ?_
   rintro e w' ⟨rfl, rfl⟩
   rw [HNB.out]
   clear h0 h1 h2 h3 h4 bb0 bbf
   go_upto_region 11 with fail
   obtain ⟨wa, hwa⟩ : ∃ wa, wa = wo.alloc (.cells #[.string s[k].name, .int .i64 s[k].kind, .slice aw nw cw, .int .i64 s[k].lo, .int .i64 s[k].hi] 101) := ⟨_, rfl⟩
   rw [<- hwa]
   have hxa : Ext wo wa := by rw [hwa]; exact (Ext.refl _).alloc _
   have hba : wa.heap[wo.heap.size]? = some (.cells #[.string s[k].name, .int .i64 s[k].kind, .slice aw nw cw, .int .i64 s[k].lo, .int .i64 s[k].hi] 101 (0, 0)) := by rw [hwa]; exact alloc_new wo _
   have HXA := hI hxa
   have HBA := hI hba
   have HB2 := hI (hxa.blk HBX.out)
   clear hwa hxa hba
   go_wp2_with fail
   go_loopw [5] (SchJ s k wa) (fun t _ => k - (intOf t).toNat)
   case atStart => exact ⟨0, rfl, by omega, fun j _ h => by omega, 0, rfl⟩
   case round =>
    obtain ⟨m, rfl, hm, hne, q, rfl⟩ := hrel
    have HNE := hI hne
    clear hne
    obtain ⟨d0, df⟩ := blk1 HB2.out
    obtain ⟨a0, a1, a2, a3, a4, af⟩ := blk5b HBA.out
    by_cases hmk : m < k
    ·have t2 : decide ((m : Int) < (k : Int)) = true := decide_eq_true (by omega)
     have hms : m < s.length := by omega
     obtain ⟨a', n', c', e', hx1, hx2, hx3, hat⟩ := (HS.out.ext (HX.out.trans HXA.out)).parts
     simp only [Value.agg.injEq, Array.mk.injEq, List.cons.injEq, Value.slice.injEq, and_true] at e'
     obtain ⟨rfl, rfl, rfl⟩ := e'
     obtain ⟨b', off', e'', aw', nw', cw', g0, g1, g2, g3, g4, g5⟩ := hat m hms
     simp only [Option.some.injEq, Addr.mk.injEq, and_true] at e''
     obtain ⟨rfl, rfl⟩ := e''
     have ti0 : (0 : Int) <= (m : Int) := by omega
     have ti1 : (m : Int) < (n : Int) := by omega
     clear hx1 hx2 hx3 hat g1 g2 g3 g4 g5 a1 a2 a3 a4
     cases he : (s[m].name.toList == s[k].name.toList)
     ·have HEQ := hI (dec_of_beq he)
      go_wp2_with fail
      go_quiet (fail)
      go_wp2_with fail
      go_roundw
      case rel =>
       refine ⟨m + 1, by go_num, by omega, fun j hj hjm => ?_, _, rfl⟩
       by_cases e : j = m
       ·subst e; rw [getD_attr hks]; exact HEQ.out
       exact HNE.out j hj (by omega)
      case measure => simp [intOf]; omega
     have h8 : attrIErr s k = 8 := by
      rw [HAI.out, if_neg (by rw [HNB.out]; simp), if_pos]
      rw [List.any_eq_true]
      exact ⟨s[m], List.mem_iff_getElem.2 ⟨m, by simp; omega, by simp⟩, dec_of_beq he⟩
     have HR := hI (show schemaErr s = 8 by
      rw [HE.out, firstI_hit (k := k) (by rw [h8]; omega) HNO.out n hkn]
      exact h8)
     clear h8
     go_wp2_with fail
     go_quiet (fail)
     go_wp2_with fail
     go_ret
     exact givesE_of (by rw [HR.out]) ((((HX.out.trans HXA.out).drewN q)).drewN _)
    have t2 : decide ((m : Int) < (k : Int)) = false := decide_eq_false (by omega)
    have hany : ((s.take k).any fun b => decide (b.name = s[k].name)) = false := by
     rw [List.any_eq_false]
     intro y hy
     obtain ⟨j, hj, rfl⟩ := List.mem_iff_getElem.1 hy
     have hjk : j < k := by simp at hj; omega
     have := HNE.out j (by omega) (by omega)
     rw [getD_attr hks] at this
     simp [this]
    have HAK := hI (show attrIErr s k = attrErr s[k] by rw [HAI.out, if_neg (by rw [HNB.out]; simp), if_neg (by rw [hany]; simp)])
    clear hany hnb
    go_wp2_with fail
    refine (rattr_calls s[k] aw nw cw _ (H5.out.ext (HXA.out.drewN q)) HFK.out).mono ?_
    rintro e w' ⟨rfl, hx7⟩
    have HX7 := hI (((HX.out.trans HXA.out).drewN q).trans hx7)
    have HB7 := hI (hx7.blk (show (wa.drewN q).heap[w.heap.size]? = _ from HB2.out))
    clear hx7 d0 df a0 a1 a2 a3 a4 af
    by_cases hz : attrErr s[k] = 0
    ·have tz : (attrErr s[k] != 0) = false := by simp [hz]
     have HZ := hI hz
     clear hz
     go_wp2_with fail
     go_roundw
     case rel =>
      refine ⟨k + 1, by go_num, by omega, fun j hj => ?_, HB7.out, HX7.out⟩
      by_cases e : j = k
      ·subst e; rw [HAK.out]; exact HZ.out
      exact HNO.out j (by omega)
     case measure => simp [intOf]; omega
    have tz : (attrErr s[k] != 0) = true := by simp [hz]
    have HR := hI (show schemaErr s = attrErr s[k] by
     rw [HE.out, firstI_hit (k := k) (by rw [HAK.out]; exact hz) HNO.out n hkn]
     exact HAK.out)
    clear hz
    go_wp2_with fail
    go_ret
    exact givesE_of (by rw [HR.out]) HX7.out
  have t1 : decide ((k : Int) < (n : Int)) = false := decide_eq_false (by omega)
  have HR := hI (show schemaErr s = 0 by rw [HE.out, firstI_zero n fun j hj => HNO.out j (by omega)])
  go_wp2_with fail
  go_ret
  exact givesE_of (by rw [HR.out]) HX.out
theorem alloc_atR {w : World} {o : Obj} {n : Nat} (h : n = w.heap.size) : (w.alloc o).heap[n]? = some o := by subst h; exact alloc_new w o
theorem optV_none : optV none = .tuple #[.int .i64 0, .bool false] := rfl
theorem optV_some (i : Nat) : optV (some i) = .tuple #[.int .i64 i, .bool true] := rfl
theorem attrAt_lt {s : List Attr} {x : BA} {i : Nat} (h : attrAt s x = some i) : i < s.length := by
 unfold attrAt at h
 rw [List.findIdx?_eq_some_iff_getElem] at h
 exact h.1
theorem IsSchema.cells {w : World} {s : List Attr} {a : OA} {n c : Nat} (h : IsSchema w s (.agg #[.slice a n c])) {i : Nat} (hi : i < s.length) : ∃ b off aw nw cw, a = some ⟨b, off, none⟩ /\ w.cell? ⟨b, off + i * 5, none⟩ = some (.string s[i].name) /\ w.cell? ⟨b, off + i * 5 + 1, none⟩ = some (.int .i64 s[i].kind) /\
  w.cell? ⟨b, off + i * 5 + 2, none⟩ = some (.slice aw nw cw) /\ w.cell? ⟨b, off + i * 5 + 3, none⟩ = some (.int .i64 s[i].lo) /\ w.cell? ⟨b, off + i * 5 + 4, none⟩ = some (.int .i64 s[i].hi) /\ IsStrs w s[i].words aw nw cw := by
 obtain ⟨a', n', c', e', _, _, _, hat⟩ := h.parts
 simp only [Value.agg.injEq, Array.mk.injEq, List.cons.injEq, Value.slice.injEq, and_true] at e'
 obtain ⟨rfl, rfl, rfl⟩ := e'
 obtain ⟨b, off, rfl, aw, nw, cw, h0, h1, h2, h3, h4, h5⟩ := hat i hi
 exact ⟨b, off, aw, nw, cw, rfl, h0, h1, h2, h3, h4, h5⟩
theorem IsSchema.slice {w : World} {s : List Attr} {v : Value} (h : IsSchema w s v) : ∃ a n c, v = .agg #[.slice a n c] /\ n = s.length := by
 obtain ⟨a, n, c, rfl, hn, _⟩ := h.parts
 exact ⟨a, n, c, rfl, hn⟩
theorem rnodeErr_calls (s : List Attr) (sv : Value) (l : List Cla) (a : OA) (n c : Nat) (e : Ex) (ev : Value) (w : World) (hs : IsSchema w s sv) (hf : ∀ x ∈ s, x.fits) (hsl : s.length <= 1000000000000000) (hl : IsClas w l a n c) (hn : n <= 1000000000000000) (he : IsEx w e ev) (hew : e.words.length <= 1000000000000000) :
  Calls Tryz.prog 123 #[sv, .slice a n c, ev] w (GivesE (.int .i64 (nodeErr s l e.op e.name e.words e.lo e.hi)) w) := by
 obtain ⟨sa, sn, sc, rfl, hsn⟩ := hs.slice
 obtain ⟨aw, nw, cw, aa, na, ca, rfl, hw, hna, hca, ha, hx⟩ := he.parts
 have HS := hI hs
 have HF := hI hf
 have HL := hI hl
 have HW := hI hw
 have HSN := hI hsn
 have HNW := hI hw.1
 have hnw : nw <= 1000000000000000 := by rw [hw.1]; exact hew
 have hsn2 : sn <= 1000000000000000 := by omega
 clear hs hf hl hw hsn he hna hca ha hx hew
 unfold exV
 obtain ⟨op, name, words, lo, hi, args⟩ := e
 simp only [Ex.op, Ex.name, Ex.words, Ex.lo, Ex.hi] at *
 obtain ⟨wa, hwa⟩ : ∃ wa, wa = (w.alloc (.cells #[.slice sa sn sc] 24)).alloc (.cells #[.int .i64 op, .string name, .slice aw nw cw, .int .i64 lo, .int .i64 hi, .slice aa na ca] 45) := ⟨_, rfl⟩
 have hxa : Ext w wa := by rw [hwa]; exact ((Ext.refl _).alloc _).alloc _
 have hb0 : wa.heap[w.heap.size]? = some (.cells #[.slice sa sn sc] 24 (0, 0)) := by rw [hwa]; exact blk_alloc (alloc_new w _)
 have hb1 : wa.heap[w.heap.size + 1]? = some (.cells #[.int .i64 op, .string name, .slice aw nw cw, .int .i64 lo, .int .i64 hi, .slice aa na ca] 45 (0, 0)) := by rw [hwa]; exact alloc_atR (by simp)
 have HI := hI (rIndex_calls s _ name wa (HS.out.ext hxa) (by have := HSN.out; omega))
 have HXA := hI hxa
 have HB0 := hI hb0
 have HB1 := hI hb1
 clear hxa hb0 hb1
 obtain ⟨E, hE⟩ : ∃ E, E = nodeErr s l op name words lo hi := ⟨_, rfl⟩
 rw [<- hE]
 have HE := hI hE
 clear hE
 cases ho : attrAt s name with
 | none =>
  rw [ho, optV_none] at HI
  have HO := hI ho
  go_enter Tryz.func123, Tryz.ntmps123
  go_wp2_with fail
  rw [<- hwa]
  refine HI.out.mono ?_
  rintro r w3 ⟨rfl, hx3⟩
  obtain ⟨d0, df⟩ := blk1 (hx3.blk HB0.out)
  obtain ⟨f0, f1, f2, f3, f4, f5, ff⟩ := blk6 (hx3.blk HB1.out)
  have hlt := blk_lt (hx3.blk HB1.out)
  have HX3 := hI (HXA.out.trans hx3)
  clear hx3 ho HI
  by_cases h3 : op = 3
  ·subst h3
   cases hd : defAt l name with
   | none =>
    have HR := hI (show E = 7 by rw [HE.out]; simp [nodeErr, HO.out, hd])
    have HD := hI (rDef_calls l a n c name w3 (HL.out.ext HX3.out) hn)
    rw [hd, optV_none] at HD
    clear hd
    go_wp2_with fail
    refine HD.out.mono ?_
    rintro r w4 ⟨rfl, rfl⟩
    go_wp2_with fail
    go_ret
    exact givesE_of (by rw [HR.out]) HX3.out
   | some d =>
    have HR := hI (show E = 0 by rw [HE.out]; simp [nodeErr, HO.out, hd])
    have HD := hI (rDef_calls l a n c name w3 (HL.out.ext HX3.out) hn)
    rw [hd, optV_some] at HD
    clear hd
    go_wp2_with fail
    refine HD.out.mono ?_
    rintro r w4 ⟨rfl, rfl⟩
    go_wp2_with fail
    go_ret
    exact givesE_of (by rw [HR.out]) HX3.out
  have e3 : (op == 3) = false := by simp [h3]
  by_cases h4 : op = 4
  ·subst h4
   have HR := hI (show E = 7 by rw [HE.out]; simp [nodeErr, HO.out])
   go_wp2_with fail
   go_ret
   exact givesE_of (by rw [HR.out]) HX3.out
  have e4 : (op == 4) = false := by simp [h4]
  by_cases h5 : op = 5
  ·subst h5
   have HR := hI (show E = 7 by rw [HE.out]; simp [nodeErr, HO.out])
   go_wp2_with fail
   go_ret
   exact givesE_of (by rw [HR.out]) HX3.out
  have e5 : (op == 5) = false := by simp [h5]
  have HR := hI (show E = 0 by rw [HE.out]; simp [nodeErr, h3, h4, h5])
  go_wp2_with fail
  go_ret
  exact givesE_of (by rw [HR.out]) HX3.out
 | some i =>
  rw [ho, optV_some] at HI
  have HO := hI ho
  have his := attrAt_lt ho
  have hin : i < sn := by have := HSN.out; omega
  go_enter Tryz.func123, Tryz.ntmps123
  go_wp2_with fail
  rw [<- hwa]
  refine HI.out.mono ?_
  rintro r w3 ⟨rfl, hx3⟩
  obtain ⟨d0, df⟩ := blk1 (hx3.blk HB0.out)
  obtain ⟨f0, f1, f2, f3, f4, f5, ff⟩ := blk6 (hx3.blk HB1.out)
  have hlt := blk_lt (hx3.blk HB1.out)
  have HX3 := hI (HXA.out.trans hx3)
  have HB13 := hI (hx3.blk HB1.out)
  obtain ⟨sb, soff, xw, xn, xc, rfl, g0, g1, g2, g3, g4, g5⟩ := (HS.out.ext HX3.out).cells his
  have HG5 := hI g5
  have HGD := hI (getD_attr his)
  have ti0 : (0 : Int) <= (i : Int) := by omega
  have ti1 : (i : Int) < (sn : Int) := by omega
  have hfi := HF.out _ (List.getElem_mem his)
  have hxn : xn <= 1000000000000000 := by rw [g5.1]; exact hfi.2.1
  clear hx3 ho HI g5 hfi
  by_cases h3 : op = 3
  ·subst h3
   have HD := hI (rDef_calls l a n c name w3 (HL.out.ext HX3.out) hn)
   by_cases hk : s[i].kind = 3
   ·have tk : (s[i].kind != 3) = false := by simp [hk]
    have HR := hI (show E = 0 by rw [HE.out]; simp only [nodeErr, if_true, HO.out, HGD.out]; simp [hk])
    clear hk
    go_wp2_with fail
    refine HD.out.mono ?_
    rintro r w4 ⟨rfl, rfl⟩
    unfold optV
    go_wp2_with fail
    go_ret
    exact givesE_of (by rw [HR.out]) HX3.out
   have tk : (s[i].kind != 3) = true := by simp [hk]
   have HR := hI (show E = 9 by rw [HE.out]; simp only [nodeErr, if_true, HO.out, HGD.out]; simp [hk])
   clear hk
   go_wp2_with fail
   refine HD.out.mono ?_
   rintro r w4 ⟨rfl, rfl⟩
   unfold optV
   go_wp2_with fail
   go_ret
   exact givesE_of (by rw [HR.out]) HX3.out
  have e3 : (op == 3) = false := by simp [h3]
  by_cases h4 : op = 4
  ·subst h4
   by_cases hk : s[i].kind = 1
   ·have tk : (s[i].kind != 1) = false := by simp [hk]
    have HR := hI (show E = if (words.all fun x => s[i].words.any fun y => decide (y = x)) = false then 7 else 0 by rw [HE.out]; simp only [nodeErr, HO.out, HGD.out]; simp [hk])
    clear hk
    go_upto_region 15 with fail
    obtain ⟨wb, hwb⟩ : ∃ wb, wb = w3.alloc (.cells #[.string s[i].name, .int .i64 s[i].kind, .slice xw xn xc, .int .i64 s[i].lo, .int .i64 s[i].hi] 101) := ⟨_, rfl⟩
    rw [<- hwb]
    have hxb : Ext w3 wb := by rw [hwb]; exact (Ext.refl _).alloc _
    have hbb : wb.heap[w3.heap.size]? = some (.cells #[.string s[i].name, .int .i64 s[i].kind, .slice xw xn xc, .int .i64 s[i].lo, .int .i64 s[i].hi] 101 (0, 0)) := by rw [hwb]; exact alloc_new w3 _
    have HBB := hI hbb
    have HB6 := hI (hxb.blk HB13.out)
    have HXB := hI (HX3.out.trans hxb)
    have HGB := hI (HG5.out.ext hxb)
    have HWB := hI (HW.out.ext HXB.out)
    clear hwb hxb hbb d0 df f0 f1 f2 f3 f4 f5 ff g0 g1 g2 g3 g4 HG5
    go_wp2_with fail
    go_loopw [12] (fun t wr => ∃ k : Nat, t = .int .i64 k /\ k <= nw /\ (∀ j (h : j < words.length), j < k -> (s[i].words.any fun y => decide (y = words[j])) = true) /\ Ext wb wr) (fun t _ => nw - (intOf t).toNat)
    case atStart => exact ⟨0, rfl, by omega, fun j _ h => by omega, Ext.refl _⟩
    case round =>
     obtain ⟨k, rfl, hk, hall, hxr⟩ := hrel
     have HALL := hI hall
     have HXR := hI hxr
     obtain ⟨p0, p1, p2, p3, p4, pf⟩ := blk5b (hxr.blk HBB.out)
     obtain ⟨q0, q1, q2, q3, q4, q5, qf⟩ := blk6 (hxr.blk HB6.out)
     clear hall hxr
     by_cases hkn : k < nw
     ·have hkw : k < words.length := by have := HNW.out; omega
      have t1 : decide ((k : Int) < (nw : Int)) = true := decide_eq_true (by omega)
      obtain ⟨wb', woff, rfl, cw0⟩ := (HWB.out.ext HXR.out).2.2.2 k hkw
      have tk0 : (0 : Int) <= (k : Int) := by omega
      have tk1 : (k : Int) < (nw : Int) := by omega
      have HWI := hI (fun (q : Nat) => rWithin_calls s[i].words xw xn xc words[k] (wr.drewN q) (HGB.out.ext (HXR.out.drewN q)) hxn)
      cases hany : (s[i].words.any fun y => decide (y = words[k]))
      ·have HA := hI hany
       rw [hany] at HWI
       have HR2 := hI (show E = 7 by
        rw [HR.out, if_pos]
        rw [List.all_eq_false]
        exact ⟨words[k], List.getElem_mem hkw, by rw [hany]; simp⟩)
       clear hany
       go_wp2_with fail
       go_quiet ((go_at_call 158; exact quiet_gives (HWI.out _)))
       go_wp2_with fail
       go_ret
       exact givesE_of (by rw [HR2.out]) ((HXB.out.trans HXR.out).drewN _)
      have HA := hI hany
      rw [hany] at HWI
      clear hany
      go_wp2_with fail
      go_quiet ((go_at_call 158; exact quiet_gives (HWI.out _)))
      go_wp2_with fail
      go_roundw
      case rel =>
       refine ⟨k + 1, by go_num, by omega, fun j hj hjk => ?_, HXR.out.drewN _⟩
       by_cases e : j = k
       ·subst e; exact HA.out
       exact HALL.out j hj (by omega)
      case measure => simp [intOf]; omega
     have t1 : decide ((k : Int) < (nw : Int)) = false := decide_eq_false (by omega)
     have HR2 := hI (show E = 0 by
      rw [HR.out, if_neg]
      rw [Bool.not_eq_false, List.all_eq_true]
      intro y hy
      obtain ⟨j, hj, rfl⟩ := List.mem_iff_getElem.1 hy
      exact HALL.out j hj (by have := HNW.out; omega))
     go_wp2_with fail
     go_ret
     exact givesE_of (by rw [HR2.out]) (HXB.out.trans HXR.out)
   have tk : (s[i].kind != 1) = true := by simp [hk]
   have HR := hI (show E = 9 by rw [HE.out]; simp only [nodeErr, HO.out, HGD.out]; simp [hk])
   clear hk
   go_wp2_with fail
   go_ret
   exact givesE_of (by rw [HR.out]) (HX3.out.alloc _)
  have e4 : (op == 4) = false := by simp [h4]
  by_cases h5 : op = 5
  ·subst h5
   by_cases hk : s[i].kind = 2
   ·have tk : (s[i].kind != 2) = false := by simp [hk]
    have HR := hI (show E = if lo < s[i].lo \/ s[i].hi < hi then 1 else 0 by rw [HE.out]; simp only [nodeErr, HO.out, HGD.out]; simp [hk])
    clear hk
    go_wp2_with fail
    all_goals (go_ret; exact givesE_of (by rw [HR.out]; simp_all <;> omega) (HX3.out.alloc _))
   have tk : (s[i].kind != 2) = true := by simp [hk]
   have HR := hI (show E = 9 by rw [HE.out]; simp only [nodeErr, HO.out, HGD.out]; simp [hk])
   clear hk
   go_wp2_with fail
   go_ret
   exact givesE_of (by rw [HR.out]) (HX3.out.alloc _)
  have e5 : (op == 5) = false := by simp [h5]
  have HR := hI (show E = 0 by rw [HE.out]; simp [nodeErr, h3, h4, h5])
  go_wp2_with fail
  go_ret
  exact givesE_of (by rw [HR.out]) HX3.out
theorem rnodesErr_calls (s : List Attr) (l : List Cla) (hf : ∀ x ∈ s, x.fits) (hsl : s.length <= 1000000000000000) (a : OA) (n c : Nat) (hn : n <= 1000000000000000) (m : Nat) : ∀ (e : Ex) (ev sv : Value) (w : World), e.size <= m -> m <= 1000000000000000 -> e.few -> IsSchema w s sv -> IsClas w l a n c -> IsEx w e ev ->
  Calls Tryz.prog 92 #[sv, .slice a n c, ev] w (GivesE (.int .i64 (nodesErr s l e)) w) := by
 induction m with
 | zero => intro e ev sv w h; have := size_pos e; omega
 | succ m ih =>
  intro e ev sv w hm hMM hfew hs hl he
  obtain ⟨sa, sn, sc, rfl, hsn⟩ := hs.slice
  have HN0 := hI (rnodeErr_calls s (.agg #[.slice sa sn sc]) l a n c e ev)
  obtain ⟨hfw, hfa⟩ := few_parts hfew
  obtain ⟨aw, nw, cw, aa, na, ca, rfl, hw, hna, hca, ha, hx⟩ := he.parts
  have hS : e.size = 1 + sizes e.args := e.size_eq
  have hla := length_le_sizes e.args
  have hna2 : na <= 1000000000000000 := by omega
  have hsz : sizes e.args <= m := by omega
  have HE := hI he
  have HS := hI hs
  have HL := hI hl
  have HX := hI hx
  have HNA := hI hna
  have HF := hI hf
  have HFW := hI hfw
  have HFA := hI hfa
  have HEQ := hI (nodesErr_eq s l e)
  have IH := hI ih
  clear hs hl he hx hna hw hca ha hS hla hsn hfw hfa hfew ih hf hm
  unfold exV at *
  obtain ⟨wa, hwa⟩ : ∃ wa, wa = (w.alloc (.cells #[.slice sa sn sc] 24)).alloc (.cells #[.int .i64 e.op, .string e.name, .slice aw nw cw, .int .i64 e.lo, .int .i64 e.hi, .slice aa na ca] 45) := ⟨_, rfl⟩
  have hxa : Ext w wa := by rw [hwa]; exact ((Ext.refl _).alloc _).alloc _
  have hb0 : wa.heap[w.heap.size]? = some (.cells #[.slice sa sn sc] 24 (0, 0)) := by rw [hwa]; exact blk_alloc (alloc_new w _)
  have hb1 : wa.heap[w.heap.size + 1]? = some (.cells #[.int .i64 e.op, .string e.name, .slice aw nw cw, .int .i64 e.lo, .int .i64 e.hi, .slice aa na ca] 45 (0, 0)) := by rw [hwa]; exact alloc_atR (by simp)
  have HXA := hI hxa
  have HB0 := hI hb0
  have HB1 := hI hb1
  clear hxa hb0 hb1
  go_enter Tryz.func92, Tryz.ntmps92
  go_wp2_with fail
  rw [<- hwa]
  refine (HN0.out wa (HS.out.ext HXA.out) HF.out hsl (HL.out.ext HXA.out) hn (HE.out.ext HXA.out) HFW.out).mono ?_
  rintro r w1 ⟨rfl, hx1⟩
  have HX1 := hI (HXA.out.trans hx1)
  have HB01 := hI (hx1.blk HB0.out)
  have HB11 := hI (hx1.blk HB1.out)
  clear hx1 hwa
  obtain ⟨E, hE⟩ : ∃ E, E = nodeErr s l e.op e.name e.words e.lo e.hi := ⟨_, rfl⟩
  rw [<- hE]
  rw [<- hE] at HEQ
  clear hE
  by_cases hz : E = 0
  ·have tz : (E != 0) = false := by simp [hz]
   have HQ := hI (show nodesErr s l e = nodesErrL s l e.args by rw [HEQ.out, if_neg (by simp [hz])])
   clear hz
   go_wp2_with fail
   go_loopw [8] (fun t wr => ∃ k : Nat, t = .int .i64 k /\ k <= na /\ (∀ j (h : j < e.args.length), j < k -> nodesErr s l e.args[j] = 0) /\ Ext w1 wr) (fun t _ => na - (intOf t).toNat)
   case atStart => exact ⟨0, rfl, by omega, fun j _ h => by omega, Ext.refl _⟩
   case round =>
    obtain ⟨k, rfl, hk, hno, hxr⟩ := hrel
    have HNO := hI hno
    have HXR := hI (HX1.out.trans hxr)
    have HXR1 := hI hxr
    obtain ⟨d0, df⟩ := blk1 (hxr.blk HB01.out)
    obtain ⟨f0, f1, f2, f3, f4, f5, ff⟩ := blk6 (hxr.blk HB11.out)
    clear hno hxr
    by_cases hkn : k < na
    ·have hka : k < e.args.length := by have := HNA.out; omega
     have t1 : decide ((k : Int) < (na : Int)) = true := decide_eq_true (by omega)
     obtain ⟨b, off, rfl, aw1, nw1, cw1, aa1, na1, ca1, h0, h1, h2, h3, h4, h5, h6⟩ := ExsD.at e.args _ (ExsD.ext HXR.out e.args _ HX.out) k hka
     have H6 := hI h6
     have hs1 := sizes_take_succ e.args k hka
     have hs2 := sizes_take_le e.args (k + 1)
     have hk1 : e.args[k].size <= m := by omega
     have ti0 : (0 : Int) <= (k : Int) := by omega
     have ti1 : (k : Int) < (na : Int) := by omega
     clear h6 hs1 hs2
     go_wp2_with fail
     go_still_tail 7, (by kernel_rfl)
     change wpList _ _ _ _ _ wr.drew
     have hx2 : Ext wr wr.drew := (Ext.refl wr).drew
     generalize wr.drew = w2 at hx2 ⊢
     have HX2 := hI (HXR.out.trans hx2)
     have HX12 := hI (HXR1.out.trans hx2)
     have H62 := hI (H6.out.ext hx2)
     clear hx2 d0 df f0 f1 f2 f3 f4 f5 ff h0 h1 h2 h3 h4 h5
     go_wp2_with fail
     refine (IH.out e.args[k] _ _ w2 hk1 (by omega) (fewAll_at _ HFA.out k hka) (HS.out.ext HX2.out) (HL.out.ext HX2.out) H62.out).mono ?_
     rintro r w3 ⟨rfl, hx3⟩
     have HX3 := hI (HX2.out.trans hx3)
     have HX13 := hI (HX12.out.trans hx3)
     clear hx3
     by_cases hz : nodesErr s l e.args[k] = 0
     ·have tz : (nodesErr s l e.args[k] != 0) = false := by simp [hz]
      have HZ := hI hz
      clear hz
      go_wp2_with fail
      go_roundw
      case rel =>
       refine ⟨k + 1, by go_num, by omega, fun j hj hjk => ?_, HX13.out⟩
       by_cases e' : j = k
       ·subst e'; exact HZ.out
       exact HNO.out j hj (by omega)
      case measure => simp [intOf]; omega
     have tz : (nodesErr s l e.args[k] != 0) = true := by simp [hz]
     have HR := hI (show nodesErr s l e = nodesErr s l e.args[k] by rw [HQ.out]; exact nodesErrL_hit e.args k hka hz fun j hj => HNO.out j (by omega) hj)
     clear hz
     go_wp2_with fail
     go_ret
     exact givesE_of (by rw [HR.out]) HX3.out
    have t1 : decide ((k : Int) < (na : Int)) = false := decide_eq_false (by omega)
    have HR := hI (show nodesErr s l e = 0 by rw [HQ.out, nodesErrL_zero]; intro j hj; exact HNO.out j hj (by have := HNA.out; omega))
    go_wp2_with fail
    go_ret
    exact givesE_of (by rw [HR.out]) HXR.out
  have tz : (E != 0) = true := by simp [hz]
  have HQ := hI (show nodesErr s l e = E by rw [HEQ.out, if_pos hz])
  clear hz
  go_wp2_with fail
  go_ret
  exact givesE_of (by rw [HQ.out]) HX1.out
theorem defAt_ltR {l : List Cla} {s : BA} {d : Nat} (h : defAt l s = some d) : d < l.length := by
 unfold defAt at h
 rw [List.findIdx?_eq_some_iff_getElem] at h
 exact h.1
def dOf (l : List Cla) (f : Nat) : BA -> Option Nat := fun s => (defAt l s).map fun d => expF l f (l.getD d cla0).cond
theorem expF_succ (l : List Cla) (f : Nat) (e : Ex) : expF l (f + 1) e = expE (dOf l f) e := rfl
def ExpL (D : BA -> Option Nat) (base na : Nat) (args : List Ex) (w1 : World) (t i : Value) (wr : World) : Prop := ∃ k : Nat, i = .int .i64 k /\ k <= na /\ t = .int .i64 ((base + expL D (args.take k) : Nat) : Int) /\ base + expL D (args.take k) <= 4001 /\ Ext w1 wr
theorem exp_end {D : BA -> Option Nat} {base k : Nat} {args : List Ex} (h : 2000 < base + expL D (args.take k) \/ args.length <= k) : min (base + expL D (args.take k)) 2001 = min (base + expL D args) 2001 := by
 rcases h with h | h
 ·have := expL_take_le D args k
  omega
 rw [List.take_of_length_le h]
theorem rexp_calls (l : List Cla) (a : OA) (n c : Nat) (hn : n <= 1000000) (hsz : ∀ x ∈ l, x.cond.size <= 1000000000000000) : ∀ (f m : Nat) (e : Ex) (ev : Value) (w : World) (d : Nat), f + d = n + 1 -> e.size <= m -> m <= 1000000000000000 -> IsClas w l a n c -> IsEx w e ev ->
  Calls Tryz.prog 126 #[.slice a n c, ev, .int .i64 d] w (GivesE (.int .i64 (expF l f e)) w) := by
 intro f
 induction f with
 | zero =>
  intro m e ev w d hd hm hMM hl he
  obtain ⟨aw, nw, cw, aa, na, ca, rfl, hw, hna, hca, ha, hx⟩ := he.parts
  have t0 : decide (n < d) = true := decide_eq_true (by omega)
  have HR := hI (show expF l 0 e = 2001 from rfl)
  clear hw hna hca ha hx he hl
  unfold exV
  go_enter Tryz.func126, Tryz.ntmps126
  go_wp2_with fail
  go_ret
  exact givesE_of (by rw [HR.out]; rfl) ((Ext.refl w).alloc _)
 | succ f ihf =>
  intro m
  induction m with
  | zero => intro e ev w d _ h; have := size_pos e; omega
  | succ m ihm =>
   intro e ev w d hd hm hMM hl he
   obtain ⟨aw, nw, cw, aa, na, ca, rfl, hw, hna, hca, ha, hx⟩ := he.parts
   have hS : e.size = 1 + sizes e.args := e.size_eq
   have hla := length_le_sizes e.args
   have hna2 : na <= 1000000000000000 := by omega
   have hszm : sizes e.args <= m := by omega
   have hdn : d <= n := by omega
   have t0 : decide (n < d) = false := decide_eq_false (by omega)
   have HL := hI hl
   have HLN := hI hl.len
   have HX := hI hx
   have HNA := hI hna
   have HSZ := hI hsz
   have HEQ := hI (show expF l (f + 1) e = min ((if e.op = 3 then (dOf l f e.name).getD 1 else 1) + expL (dOf l f) e.args) 2001 by rw [expF_succ, expE_eq])
   have IHM := hI ihm
   have IHF := hI ihf
   have HD := hI hd
   clear hw hna hca ha hx he hl hS hla ihm ihf hm hd
   unfold exV
   obtain ⟨wa, hwa⟩ : ∃ wa, wa = w.alloc (.cells #[.int .i64 e.op, .string e.name, .slice aw nw cw, .int .i64 e.lo, .int .i64 e.hi, .slice aa na ca] 45) := ⟨_, rfl⟩
   have hxa : Ext w wa := by rw [hwa]; exact (Ext.refl _).alloc _
   have hb1 : wa.heap[w.heap.size]? = some (.cells #[.int .i64 e.op, .string e.name, .slice aw nw cw, .int .i64 e.lo, .int .i64 e.hi, .slice aa na ca] 45 (0, 0)) := by rw [hwa]; exact alloc_new w _
   have HXA := hI hxa
   have HB1 := hI hb1
   obtain ⟨f0, f1, f2, f3, f4, f5, ff⟩ := blk6 hb1
   have hltw := blk_lt hb1
   clear hxa hb1
   by_cases hdef : e.op = 3 /\ (defAt l e.name).isSome = true
   ·obtain ⟨h3, hds⟩ := hdef
    obtain ⟨dd, hdd⟩ := Option.isSome_iff_exists.1 hds
    have t3 : (e.op == 3) = true := by simp [h3]
    obtain ⟨base, hbase⟩ : ∃ base, base = expF l f (l.getD dd cla0).cond := ⟨_, rfl⟩
    have hbl : base <= 2001 := by rw [hbase]; exact expF_le _ _ _
    have HQ := hI (show expF l (f + 1) e = min (base + expL (dOf l f) e.args) 2001 by rw [HEQ.out, if_pos h3, hbase]; simp [dOf, hdd])
    have hddl := defAt_ltR hdd
    have hddn : dd < n := by have := HLN.out; omega
    have HDC := hI (rDef_calls l a n c e.name wa (HL.out.ext HXA.out) (by omega))
    rw [hdd, optV_some] at HDC
    obtain ⟨cb, coff, v, rfl, hcla, hrow⟩ := (HL.out.ext HXA.out).at hddl
    obtain ⟨c0, c1, c2, c3, c4, c5, c6, c7, c8, c9⟩ := hrow.ten
    have HCX := hI hcla.2.2.1
    have hgd : l.getD dd cla0 = l[dd] := by simp [hddl]
    rw [hgd] at hbase
    have HBS := hI hbase
    clear HEQ hds hdd h3 hcla hrow hbase hgd c0 c1 c8 c9
    go_enter Tryz.func126, Tryz.ntmps126
    go_wp2_with fail
    rw [<- hwa]
    clear hwa
    refine HDC.out.mono ?_
    rintro r w1 ⟨rfl, rfl⟩
    go_wp2_with fail
    have hd1 : f + (d + 1) = n + 1 := by have := HD.out; omega
    have hcs := HSZ.out l[dd] (List.getElem_mem hddl)
    refine (IHF.out 1000000000000000 l[dd].cond _ _ (d + 1) hd1 hcs (by omega) (HL.out.ext HXA.out) HCX.out).mono ?_
    rw [<- HBS.out]
    rintro r w2 ⟨rfl, hx2⟩
    have HX2 := hI (HXA.out.trans hx2)
    have HB2 := hI (hx2.blk HB1.out)
    clear hx2 f0 f1 f2 f3 f4 f5 ff c2 c3 c4 c5 c6 c7
    go_wp2_with fail
    go_loopw [9, 10] (ExpL (dOf l f) base na e.args w2) (fun _ i _ => na - (intOf i).toNat)
    case atStart => exact ⟨0, rfl, by omega, by simp [expL], by simp [expL]; omega, Ext.refl _⟩
    case round =>
     obtain ⟨k, rfl, hk, rfl, hle, hxr⟩ := hrel
     have HXR := hI hxr
     obtain ⟨f0, f1, f2, f3, f4, f5, ff⟩ := blk6 (hxr.blk HB2.out)
     clear hxr
     obtain ⟨N, hN⟩ : ∃ N, N = base + expL (dOf l f) (e.args.take k) := ⟨_, rfl⟩
     rw [<- hN] at hle ⊢
     have HNN := hI hN
     clear hN
     by_cases hgo : k < na /\ N <= 2000
     ·obtain ⟨hkn, hN2⟩ := hgo
      have hka : k < e.args.length := by have := HNA.out; omega
      have t1 : decide ((k : Int) < (na : Int)) = true := decide_eq_true (by omega)
      have t2 : decide ((N : Int) <= 2000) = true := decide_eq_true (by omega)
      obtain ⟨b, off, rfl, aw1, nw1, cw1, aa1, na1, ca1, h0, h1, h2, h3, h4, h5, h6⟩ := ExsD.at e.args _ (ExsD.ext (HX2.out.trans HXR.out) e.args _ HX.out) k hka
      have H6 := hI h6
      have hs1 := sizes_take_succ e.args k hka
      have hs2 := sizes_take_le e.args (k + 1)
      have hk1 : e.args[k].size <= m := by omega
      have HTS := hI (expL_take_succ (dOf l f) e.args k hka)
      have hel := expE_le (dOf l f) e.args[k]
      clear h6 hs1 hs2
      go_wp2_with fail
      refine (IHM.out e.args[k] _ _ d HD.out hk1 (by omega) (HL.out.ext (HX2.out.trans HXR.out)) H6.out).mono ?_
      rw [expF_succ]
      rintro r w3 ⟨rfl, hx3⟩
      have HX3 := hI (HXR.out.trans hx3)
      clear hx3 h0 h1 h2 h3 h4 h5 f0 f1 f2 f3 f4 f5 ff
      go_wp2_with fail
      go_roundw
      case rel => exact ⟨k + 1, by go_num, by omega, by rw [HTS.out, <- Nat.add_assoc, <- HNN.out]; go_num, by rw [HTS.out, <- Nat.add_assoc, <- HNN.out]; omega, HX3.out⟩
      case measure => simp [intOf]; omega
     have HR := hI (show (min N 2001 : Nat) = expF l (f + 1) e by
      rw [HQ.out, HNN.out]
      exact exp_end (by
       rw [<- HNN.out]
       by_cases h : k < na
       ·exact Or.inl (by have := fun h2 => hgo ⟨h, h2⟩; omega)
       exact Or.inr (by have := HNA.out; omega)))
     have hX := HX2.out.trans HXR.out
     have HXE := hI hX
     clear hX
     by_cases hkn : k < na
     ·have t1 : decide ((k : Int) < (na : Int)) = true := decide_eq_true (by omega)
      have t2 : decide ((N : Int) <= 2000) = false := decide_eq_false (by omega)
      clear hgo
      go_wp2_with fail
      all_goals (go_ret; exact givesE_of (by rw [<- HR.out]; omega) HXE.out)
     have t1 : decide ((k : Int) < (na : Int)) = false := decide_eq_false (by omega)
     clear hgo
     go_wp2_with fail
     all_goals (go_ret; exact givesE_of (by rw [<- HR.out]; omega) HXE.out)
   have HQ := hI (show expF l (f + 1) e = min (1 + expL (dOf l f) e.args) 2001 by
    rw [HEQ.out]
    by_cases h3 : e.op = 3
    ·rw [if_pos h3]
     have : defAt l e.name = none := by
      cases hd : defAt l e.name with
      | none => rfl
      | some q => exact absurd ⟨h3, by rw [hd]; rfl⟩ hdef
     simp [dOf, this]
    rw [if_neg h3])
   clear HEQ
   by_cases h3 : e.op = 3
   case' pos =>
    have hdn0 : defAt l e.name = none := by
     cases hd : defAt l e.name with
     | none => rfl
     | some q => exact absurd ⟨h3, by rw [hd]; rfl⟩ hdef
    have t3 : (e.op == 3) = true := by simp [h3]
    have HDC := hI (rDef_calls l a n c e.name wa (HL.out.ext HXA.out) (by omega))
    rw [hdn0, optV_none] at HDC
    clear hdn0 h3 hdef
    go_enter Tryz.func126, Tryz.ntmps126
    go_wp2_with fail
    rw [<- hwa]
    clear hwa
    refine HDC.out.mono ?_
    rintro r w1 ⟨rfl, rfl⟩
    clear HDC
    go_wp2_with fail
   case' neg =>
    have t3 : (e.op == 3) = false := by simp [h3]
    clear h3 hdef
    go_enter Tryz.func126, Tryz.ntmps126
    go_wp2_with fail
    rw [<- hwa]
    clear hwa
   all_goals
    clear f0 f1 f2 f3 f4 f5 ff
    go_loopw [11, 12] (ExpL (dOf l f) 1 na e.args wa) (fun _ i _ => na - (intOf i).toNat)
    case atStart => exact ⟨0, rfl, by omega, by simp [expL], by simp [expL], Ext.refl _⟩
    case round =>
     obtain ⟨k, rfl, hk, rfl, hle, hxr⟩ := hrel
     have HXR := hI hxr
     obtain ⟨f0, f1, f2, f3, f4, f5, ff⟩ := blk6 (hxr.blk HB1.out)
     clear hxr
     obtain ⟨N, hN⟩ : ∃ N, N = 1 + expL (dOf l f) (e.args.take k) := ⟨_, rfl⟩
     rw [<- hN] at hle ⊢
     have HNN := hI hN
     clear hN
     by_cases hgo : k < na /\ N <= 2000
     ·obtain ⟨hkn, hN2⟩ := hgo
      have hka : k < e.args.length := by have := HNA.out; omega
      have t1 : decide ((k : Int) < (na : Int)) = true := decide_eq_true (by omega)
      have t2 : decide ((N : Int) <= 2000) = true := decide_eq_true (by omega)
      obtain ⟨b, off, rfl, aw1, nw1, cw1, aa1, na1, ca1, h0, h1, h2, h3, h4, h5, h6⟩ := ExsD.at e.args _ (ExsD.ext (HXA.out.trans HXR.out) e.args _ HX.out) k hka
      have H6 := hI h6
      have hs1 := sizes_take_succ e.args k hka
      have hs2 := sizes_take_le e.args (k + 1)
      have hk1 : e.args[k].size <= m := by omega
      have HTS := hI (expL_take_succ (dOf l f) e.args k hka)
      have hel := expE_le (dOf l f) e.args[k]
      clear h6 hs1 hs2
      go_wp2_with fail
      refine (IHM.out e.args[k] _ _ d HD.out hk1 (by omega) (HL.out.ext (HXA.out.trans HXR.out)) H6.out).mono ?_
      rw [expF_succ]
      rintro r w3 ⟨rfl, hx3⟩
      have HX3 := hI (HXR.out.trans hx3)
      clear hx3 h0 h1 h2 h3 h4 h5 f0 f1 f2 f3 f4 f5 ff
      go_wp2_with fail
      go_roundw
      case rel => exact ⟨k + 1, by go_num, by omega, by rw [HTS.out, <- Nat.add_assoc, <- HNN.out]; go_num, by rw [HTS.out, <- Nat.add_assoc, <- HNN.out]; omega, HX3.out⟩
      case measure => simp [intOf]; omega
     have HR := hI (show (min N 2001 : Nat) = expF l (f + 1) e by
      rw [HQ.out, HNN.out]
      exact exp_end (by
       rw [<- HNN.out]
       by_cases h : k < na
       ·exact Or.inl (by have := fun h2 => hgo ⟨h, h2⟩; omega)
       exact Or.inr (by have := HNA.out; omega)))
     have hX := HXA.out.trans HXR.out
     have HXE := hI hX
     clear hX
     by_cases hkn : k < na
     ·have t1 : decide ((k : Int) < (na : Int)) = true := decide_eq_true (by omega)
      have t2 : decide ((N : Int) <= 2000) = false := decide_eq_false (by omega)
      clear hgo
      go_wp2_with fail
      all_goals (go_ret; exact givesE_of (by rw [<- HR.out]; omega) HXE.out)
     have t1 : decide ((k : Int) < (na : Int)) = false := decide_eq_false (by omega)
     clear hgo
     go_wp2_with fail
     all_goals (go_ret; exact givesE_of (by rw [<- HR.out]; omega) HXE.out)
theorem rExpanded_calls (l : List Cla) (a : OA) (n c : Nat) (hn : n <= 1000000) (hsz : ∀ x ∈ l, x.cond.size <= 1000000000000000) (e : Ex) (ev : Value) (w : World) (he : e.size <= 1000000000000000) (hl : IsClas w l a n c) (hx : IsEx w e ev) :
  Calls Tryz.prog 95 #[.slice a n c, ev] w (GivesE (.int .i64 (expanded l e)) w) := by
 have HL := hI hl
 have HX := hI hx
 have HLN := hI hl.len
 obtain ⟨aw, nw, cw, aa, na, ca, rfl, -, -, -, -, -⟩ := hx.parts
 have HC := hI (rexp_calls l a n c hn hsz (n + 1) 1000000000000000 e (exV e.op e.name aw nw cw e.lo e.hi aa na ca))
 clear hl hx
 unfold exV at *
 go_enter Tryz.func95, Tryz.ntmps95
 go_wp2_with fail
 refine (HC.out _ 0 (by omega) he (by omega) (HL.out.ext ((Ext.refl w).alloc _)) (HX.out.ext ((Ext.refl w).alloc _))).mono ?_
 rintro r w1 ⟨rfl, hx1⟩
 have HX1 := hI (((Ext.refl w).alloc _).trans hx1)
 clear hx1
 go_wp2_with fail
 go_ret
 exact givesE_of (by rw [expanded, HLN.out]) HX1.out
def wbN : List Wb -> Nat
 | [] => 0
 | .mk _ _ u :: r => 1 + wbN u + wbN r
theorem wbN_at : (l : List Wb) -> (k : Nat) -> (hk : k < l.length) -> wbN l[k].unl + 1 <= wbN l
 | [], k, hk => by simp at hk
 | .mk n c u :: r, 0, _ => by simp only [List.getElem_cons_zero, Wb.unl, wbN]; omega
 | .mk n c u :: r, k + 1, hk => by
  have := wbN_at r k (by simpa using hk)
  simp only [List.getElem_cons_succ, wbN]; omega
theorem wbN_len : (l : List Wb) -> l.length <= wbN l
 | [] => by simp [wbN]
 | .mk n c u :: r => by have := wbN_len r; simp only [List.length_cons, wbN]; omega
def bkSum : List Wb -> Nat
 | [] => 0
 | .mk _ _ u :: r => min (cntBacks u) 41 + bkSum r
theorem cnt_sum : (l : List Wb) -> cntBacks l = l.length + bkSum l
 | [] => by simp [cntBacks, bkSum]
 | .mk n c u :: r => by rw [cntBacks, bkSum, cnt_sum r]; simp; omega
theorem bkSum_take_succ : (l : List Wb) -> (k : Nat) -> (hk : k < l.length) -> bkSum (l.take (k + 1)) = bkSum (l.take k) + min (cntBacks l[k].unl) 41
 | [], k, hk => by simp at hk
 | .mk n c u :: r, 0, _ => by simp [bkSum, Wb.unl]
 | .mk n c u :: r, k + 1, hk => by
  have := bkSum_take_succ r k (by simpa using hk)
  simp [bkSum] at this ⊢
  omega
theorem bkSum_take_le : (l : List Wb) -> (k : Nat) -> bkSum (l.take k) <= bkSum l
 | [], k => by simp [bkSum]
 | .mk n c u :: r, 0 => by simp [bkSum]
 | .mk n c u :: r, k + 1 => by have := bkSum_take_le r k; simp [bkSum]; omega
def wbOk : List Wb -> Prop
 | [] => True
 | .mk n c u :: r => n.size <= 1000000000000000 /\ c.fits /\ c.few /\ c.size <= 1000000000000000 /\ wbOk u /\ wbOk r
theorem wbOk_at : (l : List Wb) -> wbOk l -> (k : Nat) -> (hk : k < l.length) -> l[k].name.size <= 1000000000000000 /\ l[k].cond.fits /\ l[k].cond.few /\ l[k].cond.size <= 1000000000000000 /\ wbOk l[k].unl
 | [], _, k, hk => by simp at hk
 | .mk n c u :: r, h, 0, _ => by rw [wbOk] at h; exact ⟨h.1, h.2.1, h.2.2.1, h.2.2.2.1, h.2.2.2.2.1⟩
 | .mk n c u :: r, h, k + 1, hk => by rw [wbOk] at h; simpa using wbOk_at r h.2.2.2.2.2 k (by simpa using hk)
def wbFits : List Wb -> Prop
 | [] => True
 | .mk n c u :: r => n.size <= 1000000000000000 /\ c.fits /\ c.few /\ c.slim /\ u.length <= 1000000000000000 /\ wbFits u /\ wbFits r
def Wb.fit (x : Wb) : Prop := x.name.size <= 1000000000000000 /\ x.cond.fits /\ x.cond.few /\ x.cond.slim /\ x.unl.length <= 1000000000000000 /\ wbFits x.unl
theorem wbFits_at : (l : List Wb) -> wbFits l -> (k : Nat) -> (hk : k < l.length) -> l[k].fit
 | [], _, k, hk => by simp at hk
 | .mk n c u :: r, h, 0, _ => by rw [wbFits] at h; exact ⟨h.1, h.2.1, h.2.2.1, h.2.2.2.1, h.2.2.2.2.1, h.2.2.2.2.2.1⟩
 | .mk n c u :: r, h, k + 1, hk => by rw [wbFits] at h; simpa using wbFits_at r h.2.2.2.2.2.2 k (by simpa using hk)
theorem wbFits_of_ok : (l : List Wb) -> wbOk l -> wbN l <= 1000000000000000 -> wbFits l
 | [], _, _ => by unfold wbFits; trivial
 | .mk n c u :: r, h, hn => by
  rw [wbOk] at h
  rw [wbN] at hn
  have hu := wbN_len u
  unfold wbFits
  exact ⟨h.1, h.2.1, h.2.2.1, slim_of_size c h.2.2.2.1, by omega, wbFits_of_ok u h.2.2.2.2.1 (by omega), wbFits_of_ok r h.2.2.2.2.2 (by omega)⟩
theorem rcount_calls (m : Nat) : ∀ (l : List Wb) (a : OA) (n c : Nat) (w : World), wbN l <= m -> n <= 1000000000000000 -> wbFits l -> WbsD w l a -> n = l.length ->
  Calls Tryz.prog 121 #[.slice a n c] w (Gives (.int .i64 (min (cntBacks l) 41 : Nat)) w) := by
 induction m with
 | zero =>
  intro l a n c w hm hn2 hfit hd hn
  have hl := wbN_len l
  have : l = [] := List.eq_nil_of_length_eq_zero (by omega)
  subst this
  subst hn
  have HR := hI (show (min (cntBacks []) 41 : Nat) = 0 by simp [cntBacks])
  generalize (min (cntBacks []) 41 : Nat) = R at *
  clear hd hfit
  go_enter Tryz.func121, Tryz.ntmps121
  go_wp2_with fail
  go_loop [3, 4] (fun t i => t = .int .i64 0 /\ i = .int .i64 0) (fun _ _ => 0)
  case atStart => exact ⟨rfl, rfl⟩
  case round =>
   obtain ⟨rfl, rfl⟩ := hrel
   go_wp2_with fail
   all_goals (go_ret; exact ⟨by rw [HR.out]; rfl, rfl⟩)
 | succ m ih =>
  intro l a n c w hm hn2 hfit hd hn
  have HFT := hI hfit
  have HD := hI hd
  have HN := hI hn
  have IH := hI ih
  have HCS := hI (cnt_sum l)
  clear hd hn ih hfit
  go_enter Tryz.func121, Tryz.ntmps121
  go_wp2_with fail
  go_loop [3, 4] (fun t i => ∃ k : Nat, i = .int .i64 k /\ k <= n /\ t = .int .i64 ((n + bkSum (l.take k) : Nat) : Int) /\ (k = 0 \/ n + bkSum (l.take k) <= 81)) (fun _ i => n - (intOf i).toNat)
  case atStart => exact ⟨0, rfl, by omega, by simp [bkSum], Or.inl rfl⟩
  case round =>
   obtain ⟨k, rfl, hk, rfl, hle⟩ := hrel
   have hk0 : bkSum (l.take k) <= 81 := by
    rcases hle with h | h
    ·subst h; simp [bkSum]
    omega
   obtain ⟨N, hN⟩ : ∃ N, N = n + bkSum (l.take k) := ⟨_, rfl⟩
   rw [<- hN]
   have hNb : N <= 1000000000000081 := by omega
   have HNN := hI hN
   clear hN hle
   by_cases hgo : k < n /\ N <= 40
   ·obtain ⟨hkn, hN40⟩ := hgo
    have hkl : k < l.length := by have := HN.out; omega
    have t1 : decide ((k : Int) < (n : Int)) = true := decide_eq_true (by omega)
    have t2 : decide ((N : Int) <= 40) = true := decide_eq_true (by omega)
    obtain ⟨b, off, rfl, v, hv0, hrow, hv2, hv3, hv4, hv5, hv6⟩ := WbsD.at l _ HD.out k hkl
    obtain ⟨c0, c1, c2, c3, c4, c5, c6, c7⟩ := hrow.eight
    have hwn := wbN_at l k hkl
    have HU := hI hv6
    have HUN := hI hv3
    have hft := wbFits_at l HFT.out k hkl
    have hvn : v.nu <= 1000000000000000 := by rw [hv3]; exact hft.2.2.2.2.1
    have HFU := hI hft.2.2.2.2.2
    have HTS := hI (bkSum_take_succ l k hkl)
    clear hrow hv0 hv2 hv3 hv4 hv5 hv6 hft
    go_wp2_with fail
    refine (IH.out l[k].unl _ _ _ w (by omega) hvn HFU.out HU.out HUN.out).mono ?_
    rintro r w1 ⟨rfl, rfl⟩
    obtain ⟨M, hM⟩ : ∃ M, M = (min (cntBacks l[k].unl) 41 : Nat) := ⟨_, rfl⟩
    have hMl : M <= 41 := by omega
    rw [<- hM]
    rw [<- hM] at HTS
    clear hM
    go_wp2_with fail
    go_round
    case rel => exact ⟨k + 1, by go_num, by omega, by rw [HTS.out, <- Nat.add_assoc, <- HNN.out]; go_num, Or.inr (by rw [HTS.out, <- Nat.add_assoc, <- HNN.out]; omega)⟩
    case measure => simp [intOf]; omega
   have HR := hI (show (min (cntBacks l) 41 : Nat) = min N 41 by
    have h1 := HCS.out
    have h2 := HN.out
    have h3 := HNN.out
    by_cases h : k < n
    ·have h4 : 40 < N := by have := fun h2 => hgo ⟨h, h2⟩; omega
     have h5 := bkSum_take_le l k
     omega
    have e : l.take k = l := List.take_of_length_le (by omega)
    rw [e] at h3
    omega)
   generalize (min (cntBacks l) 41 : Nat) = R at *
   by_cases hkn : k < n
   ·have t1 : decide ((k : Int) < (n : Int)) = true := decide_eq_true (by omega)
    have t2 : decide ((N : Int) <= 40) = false := decide_eq_false (by omega)
    clear hgo
    go_wp2_with fail
    all_goals (go_ret; exact ⟨congrArg (fun z : Int => Ending.returned (.int .i64 z)) (by have := HR.out; omega), rfl⟩)
   have t1 : decide ((k : Int) < (n : Int)) = false := decide_eq_false (by omega)
   clear hgo
   go_wp2_with fail
   all_goals (go_ret; exact ⟨congrArg (fun z : Int => Ending.returned (.int .i64 z)) (by have := HR.out; omega), rfl⟩)
end Go.Proofs.YtefjomofjejklaaGreatDoor
