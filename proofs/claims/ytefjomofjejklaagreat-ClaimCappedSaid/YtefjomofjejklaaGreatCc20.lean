/-
  Texts of the claim, joined: Splt, Red, RMem, Read1, Adj.
-/
import Derived.Test.YtefjomofjejklaaGreatCc19
import Derived.SliceStrings
namespace Go.Proofs.YtefjomofjejklaaGreat
set_option maxRecDepth 100000
set_option maxHeartbeats 32000000
open Go.RowKit
def ints2 (P : ZN) : ZI := P.map fun (x : Nat) => (x : Int)
def IB (P : ZN) : Obj := .cells (P.map (fun (x : Nat) => Value.int .i64 x)).toArray 3 (0, 0)
def okC (cs : Array Value) (n : Nat) : Prop := cs.size = n /\ ∀ j, j < n -> ∃ z : Int, cs[j]? = some (.int .i64 z)
theorem made_zero (n : Nat) : Obj.cells (madeCells (Value.int .i64 0).cells (n * 1)) 3 (0, 0) = IB (List.replicate n 0) := by
 unfold IB
 congr 1
 apply Array.ext
 ·simp [madeCells]
 intro i h1 h2
 simp [madeCells, Value.cells, Nat.mod_one]
theorem IB_cell {w : World} {g k : Nat} {P : ZN} (h : w.heap[g]? = some (IB P)) (hk : k < P.length) : w.cell? ⟨g, k, none⟩ = some (.int .i64 (P[k] : Nat)) := by
 rw [blk_cell h]; simp [hk]
theorem IB_free {w : World} {g : Nat} {P : ZN} (h : w.heap[g]? = some (IB P)) (k : Nat) : w.frozen? ⟨g, k, none⟩ = false := blk_free h k
theorem IB_set {w : World} {g : Nat} {P : ZN} (h : w.heap[g]? = some (IB P)) (k q : Nat) : (w.setCell ⟨g, k, none⟩ (.int .i64 (q : Nat))).heap[g]? = some (IB (P.set k q)) := by
 rw [heap_setCell_same _ _ _ _ _ _ h]
 unfold IB
 rw [List.map_set, List.setIfInBounds_toArray]
theorem okC_map {P : ZN} {n : Nat} (h : P.length = n) : okC (P.map (fun (x : Nat) => Value.int .i64 x)).toArray n := ⟨by simp [h], fun j hj => ⟨(P[j]'(by omega) : Nat), by simp [h, hj]⟩⟩
theorem okC_set {cs : Array Value} {n : Nat} (h : okC cs n) (k : Nat) (z : Int) : okC (cs.setIfInBounds k (.int .i64 z)) n := by
 refine ⟨by rw [Array.size_setIfInBounds]; exact h.1, fun j hj => ?_⟩
 rw [Array.getElem?_setIfInBounds]
 split
 ·rw [if_pos (by rw [h.1]; omega)]; exact ⟨z, rfl⟩
 exact h.2 j hj
theorem sum_set : (P : ZN) -> (k v : Nat) -> (h : k < P.length) -> (P.set k v).sum + P[k] = P.sum + v
 | x :: r, 0, v, _ => by simp; omega
 | x :: r, k + 1, v, h => by
  have := sum_set r k v (by simpa using h)
  simp only [List.set_cons_succ, List.sum_cons, List.getElem_cons_succ]
  omega
theorem div_le {B x S : Nat} (h : B < S) : B * x / S <= x := by
 refine Nat.div_le_of_le_mul ?_
 exact Nat.mul_le_mul_right x (Nat.le_of_lt h)
theorem div_small {B x S : Nat} (h : B < S) (hx : x <= 17592186044416) : divOk B x S = true := by
 unfold divOk
 have := div_le (x := x) h
 exact decide_eq_true (by omega)
theorem take_sum : (L : ZN) -> (k : Nat) -> (L.take k).sum <= L.sum
 | [], _ => by simp
 | x :: r, 0 => by simp
 | x :: r, k + 1 => by have := take_sum r k; simp only [List.take_succ_cons, List.sum_cons]; omega
theorem get_sum : (P : ZN) -> (k : Nat) -> (h : k < P.length) -> P[k] <= P.sum
 | x :: r, 0, _ => by simp
 | x :: r, k + 1, h => by
  have := get_sum r k (by simpa using h)
  simp only [List.sum_cons, List.getElem_cons_succ]
  omega
structure SpR (n B g1 g2 : Nat) (w : World) (P : ZN) (left : Int) (wr : World) : Prop where
 len : P.length = n
 parts : wr.heap[g1]? = some (IB P)
 rest : ∃ cs, wr.heap[g2]? = some (.cells cs 3 (0, 0)) /\ okC cs n
 left : left = (B : Int) - (P.sum : Nat)
 ext : Ext w wr
def SpL1 (L : ZN) (n B g1 g2 : Nat) (w : World) (u v : Value) (wr : World) : Prop := ∃ (k : Nat) (P : ZN) (left : Int), v = .int .i64 k /\ u = .int .i64 left /\ k <= n /\ SpR n B g1 g2 w P left wr /\ (∀ j (h : j < P.length), k <= j -> P[j] = 0) /\ P.sum * L.sum <= B * (L.take k).sum
def SpL2 (n B g1 g2 : Nat) (w : World) (u : Value) (wr : World) : Prop := ∃ (P : ZN) (left : Nat), u = .int .i64 left /\ SpR n B g1 g2 w P left wr
theorem sum_ints2 : (L : ZN) -> (ints2 L).sum = ((L.sum : Nat) : Int)
 | [] => rfl
 | x :: r => by
  have := sum_ints2 r
  unfold ints2 at this ⊢
  simp only [List.map_cons, List.sum_cons, this]
  omega
def PartsQ (B n : Nat) (w : World) (e : Ending) (w' : World) : Prop := ∃ (P : ZN) (b c : Nat), e = .returned (.tuple #[.slice (some ⟨b, 0, none⟩) n c, .int .i64 0]) /\ P.length = n /\ P.sum <= B /\ IsIntF w' (ints2 P) (some ⟨b, 0, none⟩) n /\ Ext w w' /\ w.heap.size <= b
theorem split_calls (B : Nat) (L : ZN) (a : OA) (n c : Nat) (w : World) (hl : IsIntF w (ints2 L) a n) (ho : ∀ x ∈ L, x <= 17592186044416) (hn0 : 0 < n) (hn : n <= 64) (hB : B < L.sum) (hB2 : B <= 17592186044416) :
  Calls Tryz.prog 95 #[.int .i64 B, .slice a n c] w (PartsQ B n w) := by
 have HL := hI hl
 have HN := hI hl.1
 have HO := hI ho
 have hok : okW (ints2 L) := by
  intro x hx
  unfold ints2 at hx
  rw [List.mem_map] at hx
  obtain ⟨y, hy, rfl⟩ := hx
  have := ho y hy
  omega
 have HOK := hI hok
 have hw := weights_calls (ints2 L) a n c w hl hok hn
 unfold WtsQ at hw
 rw [sum_ints2] at hw
 have HW := hI hw
 have hs := (okW_sum _ hok).2
 rw [sum_ints2, <- hl.1] at hs
 obtain ⟨S, hS⟩ : ∃ S, S = L.sum := ⟨_, rfl⟩
 rw [<- hS] at hB hs HW
 have HS := hI hS
 have hS2 : S <= 1125899906842624 := by omega
 have HV := hI (rAmt_calls (B : Int))
 have hv : amtB (B : Int) = true := by unfold amtB; simp; omega
 rw [hv] at HV
 have HDV := hI (fun x W (hx : x <= 17592186044416) => divide_calls B x S W (by omega) hx (by omega) (by omega))
 have z1 : ((n : Int) == 0) = false := by simp; omega
 have z2 : decide ((64 : Int) < (n : Int)) = false := decide_eq_false (by omega)
 have z3 : ((S : Int) == 0) = false := by simp; omega
 have z4 : decide ((B : Int) < 0) = false := decide_eq_false (by omega)
 clear hl ho hok hw hs hS hv
 go_enter Tryz.func95, Tryz.ntmps95
 go_wp2_with fail
 refine HW.out.mono ?_
 rintro r w1 ⟨rfl, hx1⟩
 have HX1 := hI hx1
 clear hx1
 go_wp2_with fail
 refine (HV.out w1).mono ?_
 rintro r w2 ⟨rfl, hx2⟩
 have HX2 := hI (HX1.out.trans hx2)
 clear hx2
 go_wp2_with fail
 obtain ⟨Z, hZ⟩ : ∃ Z, Z = (List.replicate n 0 : ZN) := ⟨_, rfl⟩
 have hZc : Obj.cells (madeCells (Value.int .i64 0).cells (n * 1)) 3 (0, 0) = IB Z := by
  rw [hZ]; exact made_zero n
 have HZ := hI hZ
 have hmk : ∀ W, Sem.run Tryz.prog (Instr.makeSlice 22 (.int .i64 (n : Int)) (.int .i64 (n : Int))) W = .ok (.slice (some ⟨W.heap.size, 0, none⟩) n n) (W.alloc (IB Z)) := fun W => by rw [<- hZc]; exact run_make1 elemInts W n (by omega) (by omega)
 clear hZc hZ
 go_cut [9, 10] (fun s9 s10 wx => ∃ g1 g2 : Nat, s9 = .slice (some ⟨g1, 0, none⟩) n n /\ s10 = .slice (some ⟨g2, 0, none⟩) n n /\ g1 ≠ g2 /\ w.heap.size <= g1 /\ w.heap.size <= g2 /\ wx.heap[g1]? = some (IB Z) /\ wx.heap[g2]? = some (IB Z) /\ Ext w wx)
 case first =>
  go_region
  all_goals go_wp2_with fail
  all_goals go_meet
  all_goals refine ⟨_, _, rfl, rfl, by omega, by have := HX2.out.size; omega, by have := HX2.out.size; omega, ?_, ?_, ?_⟩
  all_goals first | exact ((HX2.out.alloc _).alloc _).drew | exact (show ((w2.alloc (IB Z)).alloc (IB Z)).heap[w2.heap.size]? = _ from blk_alloc (alloc_new w2 _)) | exact (show ((w2.alloc (IB Z)).alloc (IB Z)).heap[w2.heap.size + 1]? = _ from alloc_at (by simp))
 case rest =>
 obtain ⟨g1, g2, rfl, rfl, hg, hg1, hg2, hz1, hz2, hx3⟩ := hcut
 obtain ⟨w3, rfl⟩ : ∃ W : World, W = wc := ⟨_, rfl⟩
 have HG := hI (And.intro hg (And.intro hg1 hg2))
 have HX3 := hI hx3
 have HZ1 := hI hz1
 have HZ2 := hI hz2
 clear hg hg1 hg2 hx3 hz1 hz2 hmk
 go_wp2_with fail
 go_loopw [11, 12] (SpL1 L n B g1 g2 w) (fun _ v _ => n - (intOf v).toNat)
 case atStart =>
  have hs0 : Z.sum = 0 := by rw [HZ.out]; simp
  refine ⟨0, Z, B, rfl, rfl, Nat.zero_le _, ⟨by rw [HZ.out]; simp, HZ1.out, ⟨_, HZ2.out, by rw [HZ.out]; exact okC_map (by simp)⟩, by rw [hs0]; simp, HX3.out⟩, fun j h _ => by simp [HZ.out], by rw [hs0]; simp⟩
 case round =>
  obtain ⟨k, P, left, rfl, rfl, hk, hr, h0, hsum⟩ := hrel
  obtain ⟨wo, rfl⟩ : ∃ wo : World, wo = wr := ⟨_, rfl⟩
  have HR := hI hr
  have H0 := hI h0
  have HSUM := hI hsum
  have hPl := hr.len
  have hleft := hr.left
  clear hr h0 hsum
  by_cases hkn : k < n
  ·have hkL : k < L.length := by have := HN.out; unfold ints2 at this; simp at this; omega
   have t1 : decide ((k : Int) < (n : Int)) = true := decide_eq_true (by omega)
   have tk0 : (0 : Int) <= (k : Int) := by omega
   have tk1 : (k : Int) < (n : Int) := by omega
   obtain ⟨b, off, rfl, c0⟩ := HL.out.2 k (by unfold ints2; simp; exact hkL)
   rw [show (ints2 L)[k]'(by unfold ints2; simp; exact hkL) = ((L[k] : Nat) : Int) by simp [ints2]] at c0
   have c0 := HR.out.ext.cell c0
   have hx44 := HO.out _ (List.getElem_mem hkL)
   have HTK := hI (show (L.take (k + 1)).sum = (L.take k).sum + L[k] by rw [List.take_succ_eq_append_getElem hkL, List.sum_append]; simp)
   obtain ⟨x, hx⟩ : ∃ x, x = L[k] := ⟨_, rfl⟩
   rw [<- hx] at c0 hx44 HTK
   clear hx
   have HPZ := hI (show P[k]? = some 0 by rw [List.getElem?_eq_getElem (by omega), H0.out k (by omega) (Nat.le_refl _)])
   have HPL := hI hPl
   have HLEFT := hI hleft
   have HLB := hI (show 0 <= (P.sum : Nat) /\ left <= 17592186044416 by omega)
   clear hPl hleft
   go_wp2_with fail
   refine (HDV.out x wo hx44).mono ?_
   rintro r w4 ⟨⟨q, s, rfl, hqs, -⟩, hx4⟩
   have hdo : divOk B x S = true := div_small hB hx44
   obtain ⟨hq, hs⟩ := hqs hdo
   have HQ := hI hq
   have hq44 : q <= 17592186044416 := by rw [hq]; exact Nat.le_trans (div_le hB) hx44
   have HX4 := hI hx4
   clear hqs hdo hq hs hx4
   obtain ⟨cs, hcs, hoc⟩ := HR.out.rest
   have HP4 := hI (HX4.out.blk HR.out.parts)
   have HC4 := hI (HX4.out.blk hcs)
   have HOC := hI hoc
   clear hcs hoc
   have d0 := IB_cell HP4.out (show k < P.length by have := HPL.out; omega)
   have df := IB_free HP4.out k
   obtain ⟨e0v, e0⟩ := HOC.out.2 k hkn
   have hc5 : (w4.setCell ⟨g1, k, none⟩ (.int .i64 (q : Int))).heap[g2]? = some (.cells cs 3 (0, 0)) := by
    rw [heap_setCell_other _ _ _ _ (fun e => HG.out.1 e.symm)]; exact HC4.out
   rw [<- blk_cell hc5 k] at e0
   have ef := blk_free hc5 k
   obtain ⟨w6, hw6⟩ : ∃ w6, w6 = (w4.setCell ⟨g1, k, none⟩ (.int .i64 (q : Int))).setCell ⟨g2, k, none⟩ (.int .i64 (s : Int)) := ⟨_, rfl⟩
   have HP6 := hI (show w6.heap[g1]? = some (IB (P.set k q)) by rw [hw6, heap_setCell_other _ _ _ _ HG.out.1]; exact IB_set HP4.out k q)
   have HC6 := hI (show ∃ cs, w6.heap[g2]? = some (.cells cs 3 (0, 0)) /\ okC cs n from ⟨_, by rw [hw6]; exact heap_setCell_same _ _ _ _ _ _ hc5, okC_set HOC.out k s⟩)
   have HX6 := hI (show Ext w w6 by rw [hw6]; exact ((HR.out.ext.trans HX4.out).setAbove HG.out.2.1 _).setAbove HG.out.2.2 _)
   clear hc5
   go_upto_region 19 with fail
   rw [<- hw6]
   clear hw6 d0 df e0 ef c0
   have d0 := IB_cell HP6.out (show k < (P.set k q).length by rw [List.length_set]; have := HPL.out; omega)
   rw [List.getElem_set_self] at d0
   have hl0 := HLB.out.2
   have hl1 : 0 <= left := by
    have h1 := HSUM.out
    have h2 : P.sum * L.sum <= B * L.sum := Nat.le_trans h1 (Nat.mul_le_mul_left B (take_sum L k))
    have h3 : P.sum <= B := Nat.le_of_mul_le_mul_right h2 (by rw [<- HS.out]; omega)
    have h4 := HLEFT.out
    omega
   go_wp2_with fail
   go_roundw
   case rel =>
    have hs := sum_set P k q (by have := HPL.out; omega)
    have hz : P[k]'(by have := HPL.out; omega) = 0 := by have h := HPZ.out; rw [List.getElem?_eq_getElem (by have := HPL.out; omega)] at h; exact Option.some.inj h
    refine ⟨k + 1, P.set k q, left - q, by go_num, rfl, by omega, ⟨by rw [List.length_set]; exact HPL.out, HP6.out, HC6.out, by have := HLEFT.out; omega, HX6.out⟩, fun j hj hkj => ?_, ?_⟩
    ·rw [List.getElem_set_ne (by omega)]
     exact H0.out j (by simpa using hj) (by omega)
    rw [HTK.out, Nat.mul_add]
    have h1 := HSUM.out
    have h2 : (P.set k q).sum = P.sum + q := by omega
    rw [h2, Nat.add_mul]
    have h3 : q * L.sum <= B * x := by rw [HQ.out, <- HS.out]; exact Nat.div_mul_le_self _ _
    omega
   case measure => simp [intOf]; omega
  have t1 : decide ((k : Int) < (n : Int)) = false := decide_eq_false (by omega)
  have hPB : P.sum <= B := by
   have h1 := HSUM.out
   rw [List.take_of_length_le (by have := HN.out; unfold ints2 at this; simp at this; omega), <- HS.out] at h1
   exact Nat.le_of_mul_le_mul_right h1 (by omega)
  obtain ⟨lf, hlf⟩ : ∃ lf : Nat, left = lf := ⟨B - P.sum, by omega⟩
  subst hlf
  have HRR := hI (show SpR n B g1 g2 w P lf wo from HR.out)
  go_wp2_with fail
  go_loopw [11] (SpL2 n B g1 g2 w) (fun u _ => (intOf u).toNat)
  case atStart => exact ⟨P, lf, rfl, HRR.out⟩
  case round =>
   clear HR HRR HSUM H0 hPl hleft hPB
   obtain ⟨P, lf, rfl, hr⟩ := hrel
   obtain ⟨w7, rfl⟩ : ∃ w7 : World, w7 = wr := ⟨_, rfl⟩
   have HR := hI hr
   have HPL := hI hr.len
   have hl1 := hr.left
   have hl2 : lf <= 17592186044416 := by omega
   have HLEFT := hI hl1
   clear hr hl1
   by_cases hlz : 0 < lf
   ·have t1 : decide ((0 : Int) < (lf : Int)) = true := decide_eq_true (by omega)
    obtain ⟨cs, hcs, hoc⟩ := HR.out.rest
    have HCS := hI hcs
    have HOC := hI hoc
    clear hcs hoc
    go_wp2_with fail
    go_loopw [13, 14] (fun u v wr => ∃ (bi i : Nat), u = .int .i64 bi /\ v = .int .i64 i /\ bi < n /\ i <= n /\ ∃ q, wr = w7.drewN q) (fun _ v _ => n - (intOf v).toNat)
    case atStart => exact ⟨0, 1, rfl, rfl, by omega, by omega, 0, rfl⟩
    case round =>
     obtain ⟨bi, i, rfl, rfl, hbi, hi, q, rfl⟩ := hrel
     by_cases hin : i < n
     ·have u1 : decide ((i : Int) < (n : Int)) = true := decide_eq_true (by omega)
      have u2 : (0 : Int) <= (i : Int) := by omega
      have u3 : (i : Int) < (n : Int) := by omega
      have u4 : (0 : Int) <= (bi : Int) := by omega
      have u5 : (bi : Int) < (n : Int) := by omega
      obtain ⟨z1v, c1⟩ := HOC.out.2 i hin
      obtain ⟨z2v, c2⟩ := HOC.out.2 bi hbi
      rw [<- blk_cell HCS.out i] at c1
      rw [<- blk_cell HCS.out bi] at c2
      cases hzz : decide (z2v < z1v)
      ·go_wp2_with fail
       go_quiet (fail)
       go_wp2_with fail
       go_roundw
       case rel => exact ⟨bi, i + 1, rfl, by go_num, hbi, by omega, _, rfl⟩
       case measure => simp [intOf]; omega
      go_wp2_with fail
      go_quiet (fail)
      go_wp2_with fail
      go_roundw
      case rel => exact ⟨i, i + 1, rfl, by go_num, hin, by omega, _, rfl⟩
      case measure => simp [intOf]; omega
     have u1 : decide ((i : Int) < (n : Int)) = false := decide_eq_false (by omega)
     have u4 : (0 : Int) <= (bi : Int) := by omega
     have u5 : (bi : Int) < (n : Int) := by omega
     obtain ⟨w8, hw8⟩ : ∃ w8, w8 = w7.drewN q := ⟨_, rfl⟩
     have HX8 := hI (show Ext w7 w8 by rw [hw8]; exact (Ext.refl _).drewN q)
     have HP8 := hI (HX8.out.blk HR.out.parts)
     have HC8 := hI (HX8.out.blk HCS.out)
     have hbP : bi < P.length := by have := HPL.out; omega
     have HSS := hI (sum_set P bi (P[bi] + 1) hbP)
     have d0 := IB_cell HP8.out hbP
     have df := IB_free HP8.out bi
     have HXL := hI (get_sum P bi hbP)
     obtain ⟨y, hy⟩ : ∃ y, y = P[bi] := ⟨_, rfl⟩
     rw [<- hy] at d0 HSS HXL
     have hy44 : y <= 17592186044416 := by have := HXL.out; have := HLEFT.out; omega
     obtain ⟨e0v, e0⟩ := HOC.out.2 bi hbi
     have hc9 : (w8.setCell ⟨g1, bi, none⟩ (.int .i64 ((y : Int) + 1))).heap[g2]? = some (.cells cs 3 (0, 0)) := by
      rw [heap_setCell_other _ _ _ _ (fun e => HG.out.1 e.symm)]; exact HC8.out
     rw [<- blk_cell hc9 bi] at e0
     have ef := blk_free hc9 bi
     obtain ⟨w9, hw9⟩ : ∃ w9, w9 = (w8.setCell ⟨g1, bi, none⟩ (.int .i64 ((y : Int) + 1))).setCell ⟨g2, bi, none⟩ (.int .i64 (-1)) := ⟨_, rfl⟩
     have HP9 := hI (show w9.heap[g1]? = some (IB (P.set bi (y + 1))) by rw [hw9, heap_setCell_other _ _ _ _ HG.out.1]; exact IB_set HP8.out bi (y + 1))
     have HC9 := hI (show ∃ cs, w9.heap[g2]? = some (.cells cs 3 (0, 0)) /\ okC cs n from ⟨_, by rw [hw9]; exact heap_setCell_same _ _ _ _ _ _ hc9, okC_set HOC.out bi (-1)⟩)
     have HX9 := hI (show Ext w w9 by rw [hw9]; exact ((HR.out.ext.trans HX8.out).setAbove HG.out.2.1 _).setAbove HG.out.2.2 _)
     clear hc9 hy
     rw [<- hw8]
     clear hw8
     go_wp2_with fail
     rw [<- hw9]
     clear hw9 d0 df e0 ef
     go_roundw
     case rel =>
      refine ⟨P.set bi (y + 1), lf - 1, by go_num, ⟨by rw [List.length_set]; exact HPL.out, HP9.out, HC9.out, ?_, HX9.out⟩⟩
      have := HSS.out
      have := HLEFT.out
      omega
     case measure => simp [intOf]; omega
   have t1 : decide ((0 : Int) < (lf : Int)) = false := decide_eq_false (by omega)
   go_wp2_with fail
   go_ret2
   refine ⟨P, g1, n, rfl, HPL.out, by have := HLEFT.out; omega, ⟨by unfold ints2; rw [List.length_map]; exact HPL.out.symm, fun i hi => ⟨g1, 0, rfl, ?_⟩⟩, HR.out.ext, HG.out.2.1⟩
   have hip : i < P.length := by unfold ints2 at hi; simpa using hi
   rw [Nat.zero_add, IB_cell HR.out.parts hip]
   simp [ints2]
def RedQ (M n : Nat) (w : World) (e : Ending) (w' : World) : Prop := ∃ (P : ZN) (a : OA) (c : Nat), e = .returned (.tuple #[.slice a n c, .int .i64 0]) /\ P.length = n /\ (∀ x ∈ P, x <= M) /\ IsIntF w' (ints2 P) a n /\ Ext w w' /\ ∀ k, (Value.slice a n c).ownBlock = some k -> w.heap.size <= k
theorem mem_sum : (P : ZN) -> ∀ x ∈ P, x <= P.sum
 | y :: r, x, h => by
  rcases List.mem_cons.1 h with rfl | h
  ·simp
  have := mem_sum r x h
  simp only [List.sum_cons]
  omega
theorem reduce_calls (M B : Nat) (L : ZN) (a : OA) (n c : Nat) (w : World) (hl : IsIntF w (ints2 L) a n) (ho : ∀ x ∈ L, x <= M) (hn : n <= 64) (hB : B <= M) (hM : M <= 17592186044416) :
  Calls Tryz.prog 56 #[.slice a n c, .int .i64 B] w (RedQ M n w) := by
 have HL := hI hl
 have HN := hI hl.1
 have HO := hI ho
 have hok : okW (ints2 L) := by
  intro x hx
  unfold ints2 at hx
  rw [List.mem_map] at hx
  obtain ⟨y, hy, rfl⟩ := hx
  have := ho y hy
  omega
 have hw := weights_calls (ints2 L) a n c w hl hok hn
 unfold WtsQ at hw
 rw [sum_ints2] at hw
 have HW := hI hw
 have hs := (okW_sum _ hok).2
 rw [sum_ints2, <- hl.1] at hs
 obtain ⟨S, hS⟩ : ∃ S, S = L.sum := ⟨_, rfl⟩
 rw [<- hS] at hs HW
 have HS := hI hS
 have hS2 : S <= 1125899906842624 := by omega
 have z1 : decide ((64 : Int) < (n : Int)) = false := decide_eq_false (by omega)
 have z2 : decide ((B : Int) < 0) = false := decide_eq_false (by omega)
 have z3 : decide ((17592186044416 : Int) < (B : Int)) = false := decide_eq_false (by omega)
 clear hl ho hok hw hs hS
 by_cases hSB : S <= B
 ·have z4 : decide (S <= B) = true := decide_eq_true hSB
  have HLI := hI (show ((ints2 L).flatMap intCells).length = n * 1 by rw [int_flatC, <- HN.out])
  have HSRC := hI (int_srcC HL.out)
  clear hSB
  go_enter Tryz.func56, Tryz.ntmps56
  go_wp2_with fail
  refine HW.out.mono ?_
  rintro r w1 ⟨rfl, hx1⟩
  have HX1 := hI hx1
  clear hx1
  go_wp2_with (at_builtin; refine wpList_append_all elemInts rfl _ _ rfl w1.heap.size _ 0 [] rfl (World.ownsRow_lit w1 #[] 0 (Nat.le_refl _) (by simp) rfl) a n c ((ints2 L).flatMap intCells) rfl HLI.out ?f0 (int_onesC _) (by omega) (by omega) ?f1 ?_)
  case f0 =>
   intro hp
   obtain ⟨b, off, e, hc⟩ := HSRC.out hp
   exact ⟨b, off, e, fun j hj => ((HX1.out.alloc _).cell (hc j hj))⟩
  case f1 => simp
  intro v2 w2 hown hg hb
  have HX := hI (show Ext w1 w2 from ((Ext.refl w1).alloc _).grown hg (fun k hk => by simp [Value.ownBlock] at hk; omega))
  obtain ⟨a2, c2, hv, hi2⟩ := ints_own (M := []) (f := ints2 L) (by have h := hown; rw [HN.out] at h; simpa using h) (fun _ _ => by simp)
  have hfr : ∀ k, v2.ownBlock = some k -> w.heap.size <= k := fun k hk => by have h1 := (hown.lt k hk).1; have h2 := HX1.out.size; omega
  subst hv
  rw [<- HN.out] at hi2 hfr
  have HFR := hI hfr
  have HI2 := hI (hi2.mono (mask_sub _ _))
  clear hown hg hb hi2 hfr
  rw [<- HN.out]
  go_wp2_with fail
  go_ret2
  exact ⟨L, a2, c2, rfl, by have := HN.out; unfold ints2 at this; simp at this; omega, HO.out, HI2.out, HX1.out.trans HX.out, HFR.out⟩
 have z4 : decide (S <= B) = false := decide_eq_false hSB
 have hn0 : 0 < n := by
  rcases Nat.eq_zero_or_pos n with h0 | h0
  ·have h1 := HN.out
   unfold ints2 at h1
   rw [h0, List.length_map] at h1
   have h2 := HS.out
   rw [List.eq_nil_of_length_eq_zero h1.symm] at h2
   simp at h2
   omega
  exact h0
 have HSP := hI (fun W (hW : Ext w W) => split_calls B L a n c W (HL.out.ext hW) (fun x hx => Nat.le_trans (HO.out x hx) hM) hn0 hn (by have := HS.out; omega) (by omega))
 clear hSB
 go_enter Tryz.func56, Tryz.ntmps56
 go_wp2_with fail
 refine HW.out.mono ?_
 rintro r w1 ⟨rfl, hx1⟩
 have HX1 := hI hx1
 clear hx1
 go_wp2_with fail
 refine (HSP.out w1 HX1.out).mono ?_
 rintro r w2 ⟨P, b2, c2, rfl, hpl, hps, hpi, hx2, hb2⟩
 have HB2 := hI (show w.heap.size <= b2 from Nat.le_trans HX1.out.size hb2)
 have HX2 := hI (HX1.out.trans hx2)
 have HP := hI (And.intro hpl (And.intro hps hpi))
 clear hpl hps hpi hx2 hb2
 go_wp2_with fail
 go_ret2
 exact ⟨P, _, c2, rfl, HP.out.1, fun x hx => by have h1 := mem_sum P x hx; have h2 := HP.out.2.1; omega, HP.out.2.2, HX2.out, fun k hk => by simp [Value.ownBlock] at hk; rw [<- hk]; exact HB2.out⟩
noncomputable def vlF (s : List Attr) (l : List Cla) (f : ZI) : Ex -> Bool := valF s l f (l.length + 1)
noncomputable def memB (s : List Attr) (l : List Cla) (c : Cla) (f : ZI) : Bool := (verB (vlF s l f) l).ver == 4 && claV (vlF s l f) c
noncomputable def memK (s : List Attr) (l : List Cla) (c : Cla) (its : List It) (k : Nat) : ZN := (List.range k).filter fun j => memB s l c ((its.map (·.facts)).getD j [])
theorem rMember_calls {s : List Attr} {l : List Cla} {f : ZI} (hc : (clausesErr s l).2 = 0) (hfa : factsAll s f = true) (hsf : ∀ x ∈ s, x.fits) {sa : OA} {sn sc : Nat} {a : OA} {n c : Nat} {fa : OA} {fn : Nat} (fc : Nat) (x : Cla) (hx : x ∈ l) (v : ClV) (val sm gr : Int) (w : World)
  (hs : IsSchema w s (.agg #[.slice sa sn sc])) (hl : IsClas w l a n c) (hi : IsIntF w f fa fn) (hv : IsCla w x v) :
  Calls Tryz.prog 93 #[.agg #[.slice sa sn sc], .slice a n c, .agg #[.int .i64 v.kind, .string v.name, .int .i64 v.x.op, .string v.x.name, .slice v.x.aw v.x.nw v.x.cw, .int .i64 v.x.lo, .int .i64 v.x.hi, .slice v.x.aa v.x.na v.x.ca, .slice v.au v.nu v.cu, .int .i64 v.amount], .agg #[.slice fa fn fc, .int .i64 val, .int .i64 sm, .int .i64 gr]] w (GivesE (.bool (memB s l x f)) w) := by
 have hin := verIn_of hc hfa hsf fc hs hl hi
 have HV := hI (fun W (hW : Ext w W) => rVerdict_calls hin W hW)
 have HA := hI (fun W (hW : Ext w W) => rApplies_calls hin.tr x v W hW (hin.ok x hx).1 (hin.ok x hx).2.1 (hin.ok x hx).2.2 (hv.mono hW.sub))
 obtain ⟨D, hD⟩ : ∃ D, D = verB (vlF s l f) l := ⟨_, rfl⟩
 obtain ⟨B, hB⟩ : ∃ B, B = claV (vlF s l f) x := ⟨_, rfl⟩
 have HQ := hI (show memB s l x f = (D.ver == 4 && B) by rw [hD, hB]; rfl)
 unfold vlF at hD hB
 rw [<- hD] at HV
 rw [<- hB] at HA
 obtain ⟨wa, hwa⟩ : ∃ wa, wa = ((w.alloc (.cells #[.slice sa sn sc] 25)).alloc (.cells #[.int .i64 v.kind, .string v.name, .int .i64 v.x.op, .string v.x.name, .slice v.x.aw v.x.nw v.x.cw, .int .i64 v.x.lo, .int .i64 v.x.hi, .slice v.x.aa v.x.na v.x.ca, .slice v.au v.nu v.cu, .int .i64 v.amount] 99)).alloc (.cells #[.slice fa fn fc, .int .i64 val, .int .i64 sm, .int .i64 gr] 120) := ⟨_, rfl⟩
 have HX := hI (show Ext w wa by rw [hwa]; exact (((Ext.refl _).alloc _).alloc _).alloc _)
 have H0 := hI (show wa.heap[w.heap.size]? = some (.cells #[.slice sa sn sc] 25 (0, 0)) by rw [hwa]; exact blk_alloc (blk_alloc (alloc_new w _)))
 have H1 := hI (show wa.heap[w.heap.size + 1]? = some (.cells #[.int .i64 v.kind, .string v.name, .int .i64 v.x.op, .string v.x.name, .slice v.x.aw v.x.nw v.x.cw, .int .i64 v.x.lo, .int .i64 v.x.hi, .slice v.x.aa v.x.na v.x.ca, .slice v.au v.nu v.cu, .int .i64 v.amount] 99 (0, 0)) by rw [hwa]; exact blk_alloc (alloc_at (by simp)))
 have H2 := hI (show wa.heap[w.heap.size + 1 + 1]? = some (.cells #[.slice fa fn fc, .int .i64 val, .int .i64 sm, .int .i64 gr] 120 (0, 0)) by rw [hwa]; exact alloc_at (by simp))
 clear hin hD hB hc hfa hs hl hi hv hx
 obtain ⟨s0, sf⟩ := blk1 H0.out
 obtain ⟨x0, x1, x2, x3, xf⟩ := blk4c H2.out
 go_enter Tryz.func93, Tryz.ntmps93
 go_upto_region 1 with fail
 rw [<- hwa]
 clear hwa
 go_wp2_with fail
 refine (HV.out wa HX.out).mono ?_
 rintro r w1 ⟨rfl, hx1⟩
 have HX1 := hI (HX.out.trans hx1)
 have K0 := hI (hx1.blk H0.out)
 have K1 := hI (hx1.blk H1.out)
 have K2 := hI (hx1.blk H2.out)
 clear hx1 s0 sf x0 x1 x2 x3 xf HV
 obtain ⟨s0, sf⟩ := blk1 K0.out
 obtain ⟨x0, x1, x2, x3, xf⟩ := blk4c K2.out
 obtain ⟨c0, c1, c2, c3, c4, c5, c6, c7, c8, c9, cf⟩ := blk10r K1.out
 have hfd : ∀ w : World, (Instr.field 124 (.agg D.cells) 0).run Tryz.prog w = .ok (.int .i64 D.ver) w := fun _ => by kernel_rfl
 unfold Dec.cells at hfd ⊢
 cases hd : (D.ver == 4)
 ·have HQ2 := hI (show memB s l x f = false by rw [HQ.out, hd]; rfl)
  go_wp2_with fail
  go_ret
  rw [HQ2.out]
  exact ⟨rfl, HX1.out⟩
 have HQ2 := hI (show memB s l x f = B by rw [HQ.out, hd]; rfl)
 go_wp2_with fail
 refine (HA.out w1 HX1.out).mono ?_
 rintro r w2 ⟨rfl, hx2⟩
 go_wp2_with fail
 go_ret
 rw [HQ2.out]
 exact ⟨rfl, HX1.out.trans hx2⟩
def MemsQ (L : ZN) (w : World) (e : Ending) (w' : World) : Prop := ∃ ra rc, e = .returned (.tuple #[.slice ra L.length rc, .int .i64 0]) /\ IsIntF w' (ints2 L) ra L.length /\ Ext w w' /\ ∀ k, (Value.slice ra L.length rc).ownBlock = some k -> w.heap.size <= k
noncomputable def MemL (s : List Attr) (l : List Cla) (x : Cla) (its : List It) (n base : Nat) (w : World) (v i : Value) (wr : World) : Prop := ∃ k : Nat, i = .int .i64 k /\ k <= n /\ wr.ownsRow base 3 1 v (memK s l x its k).length ((ints2 (memK s l x its k)).flatMap intCells) /\ Ext w wr
theorem memK_succ {s : List Attr} {l : List Cla} {x : Cla} {its : List It} {k : Nat} (hk : k < its.length) : memK s l x its (k + 1) = if memB s l x its[k].facts = true then memK s l x its k ++ [k] else memK s l x its k := by
 unfold memK
 rw [List.range_succ, List.filter_append]
 have : (its.map (·.facts)).getD k [] = its[k].facts := by simp [hk]
 simp only [List.filter_cons, List.filter_nil, this]
 split <;> simp
theorem memK_len (s : List Attr) (l : List Cla) (x : Cla) (its : List It) (k : Nat) : (memK s l x its k).length <= k := by
 unfold memK
 exact Nat.le_trans (List.length_filter_le _ _) (by simp)
theorem rMembers_calls {s : List Attr} {l : List Cla} {its : List It} (hc : (clausesErr s l).2 = 0) (hits : ∀ x ∈ its, factsAll s x.facts = true) (hil : its.length <= 64) (hsf : ∀ x ∈ s, x.fits) {sa : OA} {sn sc : Nat} {a : OA} {n c : Nat} {ia : OA} {ni : Nat} (ic q : Nat) (hq : q < l.length) (hqk : l[q].kind = 10) (hfit : ∀ x ∈ l, x.fit) (w : World)
  (hs : IsSchema w s (.agg #[.slice sa sn sc])) (hl : IsClas w l a n c) (hi : IsIts w its ia ni ic) :
  Calls Tryz.prog 55 #[.agg #[.slice sa sn sc], .slice a n c, .int .i64 q, .slice ia ni ic] w (MemsQ (memK s l l[q] its its.length) w) := by
 have hck := chk_of hc
 have hsl : s.length <= 1000000000000000 := by have := hs.parts; obtain ⟨_, _, _, e, h1, _⟩ := this; have := (schema_attrs hck.sch).2.1; omega
 have hn := hl.len
 have hl100 := hck.len
 have HCL := hI (fun W (hW : Ext w W) => rClauses_calls s l _ a n c W (hs.ext hW) hsf hsl (hl.ext hW) (by omega) hfit)
 have HFA := hI (fun (k : Nat) (hk : k < its.length) (fa : OA) (fn fc : Nat) W (hW : Ext w W) (hf : IsIntF W its[k].facts fa fn) => show Calls Tryz.prog 52 #[.agg #[.slice sa sn sc], .slice fa fn fc] W (GivesE (.bool true) W) from by
  have h := rFacts_calls s _ its[k].facts fa fn fc W (hs.ext hW) hsf hsl hf
  rwa [show factsB s its[k].facts = true by unfold factsB; rw [hck.sch, hits _ (List.getElem_mem hk)]; rfl] at h)
 have HME := hI (fun (k : Nat) (hk : k < its.length) (v : ClV) (fa : OA) (fn fc : Nat) W (hW : Ext w W) (hf : IsIntF W its[k].facts fa fn) (hv : IsCla W l[q] v) => rMember_calls hc (hits _ (List.getElem_mem hk)) hsf fc l[q] (List.getElem_mem hq) v its[k].value its[k].sum its[k].gross W (hs.ext hW) (hl.ext hW) hf hv)
 have HZ := hI hc
 have HL := hI hl
 have HI := hI hi
 have hni : ni = its.length := hi.len
 obtain ⟨wa, hwa⟩ : ∃ wa, wa = w.alloc (.cells #[.slice sa sn sc] 25) := ⟨_, rfl⟩
 have HX := hI (show Ext w wa by rw [hwa]; exact (Ext.refl _).alloc _)
 have H0 := hI (show wa.heap[w.heap.size]? = some (.cells #[.slice sa sn sc] 25 (0, 0)) by rw [hwa]; exact alloc_new w _)
 have hqn : q < n := by omega
 have HNI := hI hni
 obtain ⟨E, hE⟩ : ∃ E, E = clausesErr s l := ⟨_, rfl⟩
 rw [<- hE] at HCL HZ
 obtain ⟨e1, e2⟩ := E
 have he2 : e2 = 0 := HZ.out
 subst he2
 unfold clsV at HCL
 obtain ⟨b, off, v, rfl, hcl, hrow⟩ := (hl.ext HX.out).at hq
 obtain ⟨c0, -⟩ := hrow.ten
 have hvk : v.kind = 10 := by rw [hcl.1, hqk]
 rw [hvk] at c0
 have HVK := hI hvk
 clear hc hits hsf hs hl hi hck hsl hn hE hni hrow hcl hqk hvk
 obtain ⟨s0, sf⟩ := blk1 H0.out
 have t1 : decide ((q : Int) < 0) = false := decide_eq_false (by omega)
 have t2 : decide (n <= q) = false := decide_eq_false (by omega)
 have t3 : decide ((64 : Int) < (ni : Int)) = false := decide_eq_false (by have := HNI.out; omega)
 go_enter Tryz.func55, Tryz.ntmps55
 go_upto_region 1 with fail
 rw [<- hwa]
 clear hwa
 go_wp2_with fail
 refine (HCL.out wa HX.out).mono ?_
 rintro r w1 ⟨rfl, hx1⟩
 have HX1 := hI (HX.out.trans hx1)
 have K0 := hI (hx1.blk H0.out)
 have d0 := hx1.cell c0
 have HR1 := hI hx1
 clear hx1 s0 sf c0 HCL H0
 go_wp2_with fail
 clear d0
 go_loopw [12, 13] (MemL s l l[q] its ni w1.heap.size w1) (fun _ i _ => ni - (intOf i).toNat)
 case atStart => exact ⟨0, rfl, Nat.zero_le _, ⟨rfl, Or.inl ⟨rfl, rfl⟩⟩, Ext.refl _⟩
 case round =>
  obtain ⟨k, rfl, hk, hown, hx⟩ := hrel
  obtain ⟨wo, rfl⟩ : ∃ wo : World, wo = wr := ⟨_, rfl⟩
  obtain ⟨f, hf⟩ : ∃ f, f = memK s l l[q] its k := ⟨_, rfl⟩
  have HFL := hI (show f.length <= k by rw [hf]; exact memK_len _ _ _ _ _)
  rw [<- hf] at hown
  have HF := hI hf
  have HOWN := hI hown
  have HX := hI hx
  have HXW := hI (HX1.out.trans hx)
  clear hf hown hx
  by_cases hkn : k < ni
  ·have hkl : k < its.length := by have := HNI.out; omega
   have t4 : decide ((k : Int) < (ni : Int)) = true := decide_eq_true (by omega)
   obtain ⟨ib, io, u, rfl, hux, hfi, i0, i1, i2, i3⟩ := (HI.out.ext HXW.out).at hkl
   obtain ⟨b', off', v', e, hcl, hrow⟩ := (HL.out.ext HXW.out).at hq
   injection e with e; injection e with e1 e2 _
   subst e1; subst e2
   obtain ⟨c0, c1, c2, c3, c4, c5, c6, c7, c8, c9⟩ := hrow.ten
   have HFI := hI hfi
   have HFW := hI (fun W (hW : Ext wo W) => HFA.out k hkl u.a u.n u.c W (HXW.out.trans hW) (hfi.ext hW))
   have HMW := hI (fun W (hW : Ext wo W) => HME.out k hkl v' u.a u.n u.c W (HXW.out.trans hW) (hfi.ext hW) (hcl.mono hW.sub))
   obtain ⟨B, hB⟩ : ∃ B, B = memB s l l[q] its[k].facts := ⟨_, rfl⟩
   have HB := hI hB
   rw [<- hB] at HMW
   obtain ⟨s0, sf⟩ := blk1 (HX.out.blk K0.out)
   clear hB hfi hux hrow hcl HFA HME
   go_wp2_with fail
   have S0 := win_cell s0
   have I0 := win_cell i0
   refine chn_ext 8 ?_
   repeat (refine chn_plain ?_; intro K hK; go_big_quiet_op; go_big_quiet_on)
   refine chn_ge HFW.out ?_
   intro K hK; go_simp; go_big_quiet_on
   repeat (refine chn_plain ?_; intro K hK; go_big_quiet_op; go_big_quiet_on)
   refine chn_nil fun w2 hx2 _ _ => ?_
   have HX2 := hI hx2
   have HXO := hI (HX.out.trans hx2)
   have HOWN2 := hI (owns_ext HOWN.out hx2)
   obtain ⟨s0, sf⟩ := blk1 (hx2.blk (HX.out.blk K0.out))
   have C0 := win_cell (hx2.cell c0)
   have C1 := win_cell (hx2.cell c1)
   have C2 := win_cell (hx2.cell c2)
   have C3 := win_cell (hx2.cell c3)
   have C4 := win_cell (hx2.cell c4)
   have C5 := win_cell (hx2.cell c5)
   have C6 := win_cell (hx2.cell c6)
   have C7 := win_cell (hx2.cell c7)
   have C8 := win_cell (hx2.cell c8)
   have C9 := win_cell (hx2.cell c9)
   have I0 := win_cell (hx2.cell i0)
   have I1 := win_cell (hx2.cell i1)
   have I2 := win_cell (hx2.cell i2)
   have I3 := win_cell (hx2.cell i3)
   have S0 := win_cell s0
   clear hx2 c0 c1 c2 c3 c4 c5 c6 c7 c8 c9 i0 i1 i2 i3 HOWN
   go_wp2_with fail
   refine chn_ext 11 ?_
   repeat (refine chn_plain ?_; intro K hK; go_big_quiet_op; go_big_quiet_on)
   refine chn_ge (fun W hW => HMW.out W (HX2.out.trans hW)) ?_
   intro K hK; go_simp; go_big_quiet_on
   refine chn_nil fun w3 hx3 _ _ => ?_
   have HX3 := hI (HXO.out.trans hx3)
   have HOWN3 := hI (owns_ext HOWN2.out hx3)
   have hsz := HX3.out.size
   have hlf := HFL.out
   clear hx3 C0 C1 C2 C3 C4 C5 C6 C7 C8 C9 I0 I1 I2 I3 S0 s0 sf HX2 HXO HOWN2 HFW HMW
   cases B
   ·have HQ := hI (show memK s l l[q] its (k + 1) = f by rw [memK_succ hkl, <- HB.out, <- HF.out]; rfl)
    go_wp2_with fail
    go_roundw
    case rel => exact ⟨k + 1, by go_num, by omega, by rw [HQ.out]; exact HOWN3.out, HX3.out⟩
    case measure => simp [intOf]; omega
   have HQ := hI (show memK s l l[q] its (k + 1) = f ++ [k] by rw [memK_succ hkl, <- HB.out, <- HF.out]; rfl)
   go_wp2_with (at_builtin; refine wpList_append_at elemInts rfl _ _ rfl w1.heap.size _ f.length _ rfl HOWN3.out _ 1 1 rfl ?f0 rfl ?f1 ?f2 ?f3 ?f4 ?_)
   case f0 => simp
   case f1 => simp [Value.oneCell']
   case f2 => have := HNI.out; unfold maxLen; omega
   case f3 => have := HNI.out; omega
   case f4 => have := HNI.out; omega
   intro v8 w8 hown8 hc8 hw8
   have HO8 := hI (own_snoc (f := ints2 f) (by simp [ints2]) hown8)
   have HX8 := hI (hc8.ext HX3.out (fun y hy => (HOWN3.out.lt y (mem_rowOf.1 hy)).1))
   obtain ⟨a8, c8, hv8⟩ := owns_formG hown8
   subst hv8
   clear hown8 hc8 hw8
   go_wp2_with fail
   go_roundw
   case rel => exact ⟨k + 1, by go_num, by omega, by rw [HQ.out]; simpa [ints2] using HO8.out, HX8.out⟩
   case measure => simp [intOf]; omega
  have t4 : decide ((k : Int) < (ni : Int)) = false := decide_eq_false (by omega)
  have hke : k = its.length := by have := HNI.out; omega
  obtain ⟨fa, fc, e, hints⟩ := ints_own (M := []) (f := ints2 f) (by have := HOWN.out; simpa [ints2] using this) (fun k _ => by simp)
  have hfr : ∀ k, u12.ownBlock = some k -> w.heap.size <= k := fun k hk => by have h1 := (HOWN.out.lt k hk).1; have h2 := HX1.out.size; omega
  subst e
  have hl2 : (ints2 f).length = f.length := by simp [ints2]
  rw [hl2] at hints hfr ⊢
  have HFR := hI hfr
  have HI2 := hI hints
  have HF2 := hI (show memK s l l[q] its its.length = f by rw [HF.out, hke])
  clear hints hke hl2 hfr
  go_wp2_with fail
  go_ret2
  rw [HF2.out]
  exact ⟨fa, fc, rfl, HI2.out.mono (mask_sub _ _), HXW.out, HFR.out⟩
theorem blk4 {w : World} {b : Nat} {v0 v1 v2 v3 : Value} {t : TypeId} (h : w.heap[b]? = some (.cells #[v0, v1, v2, v3] t (0, 0))) :
  w.cell? ⟨b, 0, none⟩ = some v0 /\ w.cell? ⟨b, 1, none⟩ = some v1 /\ w.cell? ⟨b, 2, none⟩ = some v2 /\ w.cell? ⟨b, 3, none⟩ = some v3 /\ (∀ j, w.frozen? ⟨b, j, none⟩ = false) :=
 ⟨blk_cell h 0, blk_cell h 1, blk_cell h 2, blk_cell h 3, fun j => blk_free h j⟩
section
variable {toks : List Tok} {ta : OA} {tn tc : Nat} {w0 w : World} {br k : Nat} {er bad : Int}
end
structure Adj where
 g : Int
 u : Int
 a : Int
 f : Int
 d : Int
 c : Int
 o : Int
 s : Int
 net : Nat
def Adj.cells (x : Adj) : List Value := [.int .i64 x.g, .int .i64 x.u, .int .i64 x.a, .int .i64 x.f, .int .i64 x.d, .int .i64 x.c, .int .i64 x.o, .int .i64 x.s, .int .i64 x.net]
def AdjQ (w : World) (e : Ending) (w' : World) : Prop := ∃ x : Adj, e = .returned (.tuple #[.agg x.cells.toArray, .int .i64 0]) /\ x.net <= 1073741824 /\ x.s = 0 /\ Ext w w'
theorem blk9a {w : World} {b : Nat} {v0 v1 v2 v3 v4 v5 v6 v7 v8 : Value} {t : TypeId} (h : w.heap[b]? = some (.cells #[v0, v1, v2, v3, v4, v5, v6, v7, v8] t (0, 0))) :
  w.cell? ⟨b, 0, none⟩ = some v0 /\ w.cell? ⟨b, 1, none⟩ = some v1 /\ w.cell? ⟨b, 2, none⟩ = some v2 /\ w.cell? ⟨b, 3, none⟩ = some v3 /\ w.cell? ⟨b, 4, none⟩ = some v4 /\ w.cell? ⟨b, 5, none⟩ = some v5 /\ w.cell? ⟨b, 6, none⟩ = some v6 /\ w.cell? ⟨b, 7, none⟩ = some v7 /\ w.cell? ⟨b, 8, none⟩ = some v8 /\ (∀ j, w.frozen? ⟨b, j, none⟩ = false) :=
 ⟨blk_cell h 0, blk_cell h 1, blk_cell h 2, blk_cell h 3, blk_cell h 4, blk_cell h 5, blk_cell h 6, blk_cell h 7, blk_cell h 8, fun j => blk_free h j⟩
def put9 (w : World) (B : Nat) (v0 v1 v2 v3 v4 v5 v6 v7 v8 : Value) : World := ((((((((w.setCell ⟨B, 0, none⟩ v0).setCell ⟨B, 1, none⟩ v1).setCell ⟨B, 2, none⟩ v2).setCell ⟨B, 3, none⟩ v3).setCell ⟨B, 4, none⟩ v4).setCell ⟨B, 5, none⟩ v5).setCell ⟨B, 6, none⟩ v6).setCell ⟨B, 7, none⟩ v7).setCell ⟨B, 8, none⟩ v8
theorem put9_blk {w : World} {B : Nat} {u0 u1 u2 u3 u4 u5 u6 u7 u8 v0 v1 v2 v3 v4 v5 v6 v7 v8 : Value} {t : TypeId} (h : w.heap[B]? = some (.cells #[u0, u1, u2, u3, u4, u5, u6, u7, u8] t (0, 0))) : (put9 w B v0 v1 v2 v3 v4 v5 v6 v7 v8).heap[B]? = some (.cells #[v0, v1, v2, v3, v4, v5, v6, v7, v8] t (0, 0)) := by
 unfold put9
 have a0 := heap_setCell_same _ _ 0 _ _ v0 h
 rw [show (#[u0, u1, u2, u3, u4, u5, u6, u7, u8]).setIfInBounds 0 v0 = #[v0, u1, u2, u3, u4, u5, u6, u7, u8] from rfl] at a0
 have a1 := heap_setCell_same _ _ 1 _ _ v1 a0
 rw [show (#[v0, u1, u2, u3, u4, u5, u6, u7, u8]).setIfInBounds 1 v1 = #[v0, v1, u2, u3, u4, u5, u6, u7, u8] from rfl] at a1
 have a2 := heap_setCell_same _ _ 2 _ _ v2 a1
 rw [show (#[v0, v1, u2, u3, u4, u5, u6, u7, u8]).setIfInBounds 2 v2 = #[v0, v1, v2, u3, u4, u5, u6, u7, u8] from rfl] at a2
 have a3 := heap_setCell_same _ _ 3 _ _ v3 a2
 rw [show (#[v0, v1, v2, u3, u4, u5, u6, u7, u8]).setIfInBounds 3 v3 = #[v0, v1, v2, v3, u4, u5, u6, u7, u8] from rfl] at a3
 have a4 := heap_setCell_same _ _ 4 _ _ v4 a3
 rw [show (#[v0, v1, v2, v3, u4, u5, u6, u7, u8]).setIfInBounds 4 v4 = #[v0, v1, v2, v3, v4, u5, u6, u7, u8] from rfl] at a4
 have a5 := heap_setCell_same _ _ 5 _ _ v5 a4
 rw [show (#[v0, v1, v2, v3, v4, u5, u6, u7, u8]).setIfInBounds 5 v5 = #[v0, v1, v2, v3, v4, v5, u6, u7, u8] from rfl] at a5
 have a6 := heap_setCell_same _ _ 6 _ _ v6 a5
 rw [show (#[v0, v1, v2, v3, v4, v5, u6, u7, u8]).setIfInBounds 6 v6 = #[v0, v1, v2, v3, v4, v5, v6, u7, u8] from rfl] at a6
 have a7 := heap_setCell_same _ _ 7 _ _ v7 a6
 rw [show (#[v0, v1, v2, v3, v4, v5, v6, u7, u8]).setIfInBounds 7 v7 = #[v0, v1, v2, v3, v4, v5, v6, v7, u8] from rfl] at a7
 have a8 := heap_setCell_same _ _ 8 _ _ v8 a7
 rw [show (#[v0, v1, v2, v3, v4, v5, v6, v7, u8]).setIfInBounds 8 v8 = #[v0, v1, v2, v3, v4, v5, v6, v7, v8] from rfl] at a8
 exact a8
theorem put9_chg (w : World) (B : Nat) {v0 v1 v2 v3 v4 v5 v6 v7 v8 : Value} : Chg [B] w (put9 w B v0 v1 v2 v3 v4 v5 v6 v7 v8) := by
 unfold put9
 repeat (with_reducible (refine Chg.setCell ?_ ?_ _))
 exact Chg.refl _ _
 all_goals exact Or.inl (by simp)
theorem halfUp_le (a num den : Nat) (h : num <= den) (hd : 0 < den) : halfUp a num den <= a := by
 unfold halfUp
 have h1 : a * num <= a * den := Nat.mul_le_mul_left a h
 have h2 : den * (a * num / den) + a * num % den = a * num := Nat.div_add_mod _ _
 have h3 : a * num / den <= a := Nat.div_le_of_le_mul (by rw [Nat.mul_comm den a]; exact h1)
 split
 ·rename_i h4
  rcases Nat.lt_or_ge (a * num / den) a with h5 | h5
  ·omega
  have h6 : a * num / den = a := Nat.le_antisymm h3 h5
  rw [h6, Nat.mul_comm den a] at h2
  omega
 omega
theorem mulH_le (a num den : Nat) (h : num <= den) : (mulH a num den).1 <= a := by
 unfold mulH
 by_cases h1 : 17592186044416 < a \/ 17592186044416 < num \/ 17592186044416 < den
 ·rw [if_pos h1]; exact Nat.zero_le _
 rw [if_neg h1]
 by_cases h2 : den = 0
 ·rw [if_pos h2]; exact Nat.zero_le _
 rw [if_neg h2]
 by_cases h3 : divOk a num den = false
 ·rw [if_pos h3]; exact Nat.zero_le _
 rw [if_neg h3]
 by_cases h4 : 17592186044416 < halfUp a num den
 ·rw [if_pos h4]; exact Nat.zero_le _
 rw [if_neg h4]
 exact halfUp_le a num den h (by omega)
theorem adjust_calls (ver lim : Int) (ded fra coi : Nat) (avg : Bool) (xa : OA) (xn xc val sm gr : Nat) (w : World) (hd : okDec ⟨ver, lim, ded, fra, coi, avg⟩) (hv : val <= 1073741824) (hs : sm <= 1073741824) (hg : gr <= 1073741824) :
  Calls Tryz.prog 53 #[.agg #[.int .i64 ver, .int .i64 lim, .int .i64 ded, .int .i64 fra, .int .i64 coi, .bool avg], .agg #[.slice xa xn xc, .int .i64 val, .int .i64 sm, .int .i64 gr]] w (AdjQ w) := by
 have HDE := hI (fun W => decErr_calls ⟨ver, lim, ded, fra, coi, avg⟩ W hd)
 unfold Dec.cells at HDE
 have hlim : -1 <= lim /\ lim <= 1073741824 := by
  rcases hd with ⟨_, h | h, _⟩ | ⟨_, _, h⟩
  ·dsimp only at h; omega
  ·exact ⟨by have := h.1; dsimp only at this; omega, h.2⟩
  injection h with _ h; omega
 obtain ⟨hl1, hl2⟩ := hlim
 have hded : ded <= 1073741824 /\ fra <= 1073741824 /\ coi <= 1000000 := by
  rcases hd with ⟨_, _, ⟨_, h1⟩, ⟨_, h2⟩, ⟨_, h3⟩⟩ | ⟨_, _, h⟩
  ·dsimp only at h1 h2 h3; omega
  injection h with _ _ h1 h2 h3; omega
 obtain ⟨hd1, hd2, hd3⟩ := hded
 have m : ∀ x : Nat, x <= 1073741824 -> ∀ W, Calls Tryz.prog 74 #[.int .i64 x] W (GivesE (.bool true) W) := fun x hx W => by
  have h := rMoney_calls x W
  rw [show moneyB x = true by unfold moneyB inB; simp; omega] at h
  exact h
 have HM1 := hI (m val hv)
 have HM2 := hI (m sm hs)
 have HM3 := hI (m gr hg)
 obtain ⟨wa, hwa⟩ : ∃ wa, wa = ((w.alloc (.cells #[.int .i64 ver, .int .i64 lim, .int .i64 ded, .int .i64 fra, .int .i64 coi, .bool avg] 124)).alloc (.cells #[.slice xa xn xc, .int .i64 val, .int .i64 sm, .int .i64 gr] 120)).alloc (.cells #[.int .i64 0, .int .i64 0, .int .i64 0, .int .i64 0, .int .i64 0, .int .i64 0, .int .i64 0, .int .i64 0, .int .i64 0] 68) := ⟨_, rfl⟩
 have HXA := hI (show Ext w wa by rw [hwa]; exact (((Ext.refl _).alloc _).alloc _).alloc _)
 have HA2 := hI (show wa.heap[w.heap.size]? = some (.cells #[.int .i64 ver, .int .i64 lim, .int .i64 ded, .int .i64 fra, .int .i64 coi, .bool avg] 124 (0, 0)) by rw [hwa]; exact blk_alloc (blk_alloc (alloc_new w _)))
 have HA3 := hI (show wa.heap[w.heap.size + 1]? = some (.cells #[.slice xa xn xc, .int .i64 val, .int .i64 sm, .int .i64 gr] 120 (0, 0)) by rw [hwa]; exact blk_alloc (alloc_at (by simp)))
 have HA4 := hI (show wa.heap[w.heap.size + 2]? = some (.cells #[.int .i64 0, .int .i64 0, .int .i64 0, .int .i64 0, .int .i64 0, .int .i64 0, .int .i64 0, .int .i64 0, .int .i64 0] 68 (0, 0)) by rw [hwa]; exact alloc_at (by simp))
 obtain ⟨b, hb⟩ : ∃ b, b = w.heap.size := ⟨_, rfl⟩
 have HB := hI hb
 have hlw : w.heap.size <= b := by omega
 go_enter Tryz.func53, Tryz.ntmps53
 go_upto_region 1 with fail
 rw [<- hwa, <- hb]
 rw [<- hb] at HA2 HA3 HA4
 obtain ⟨d0, d1, d2, d3, d4, d5, df⟩ := blk6d HA2.out
 clear hwa hb m hd
 go_wp2_with fail
 refine (HDE.out wa).mono ?_
 rintro r w1 ⟨rfl, hx1⟩
 have HX1 := hI (HXA.out.trans hx1)
 have HB2 := hI (hx1.blk HA2.out)
 have HB3 := hI (hx1.blk HA3.out)
 have HB4 := hI (hx1.blk HA4.out)
 clear hx1 d0 d1 d2 d3 d4 d5 df HA2 HA3 HA4
 obtain ⟨e0, e1, e2, e3, ef⟩ := blk4 HB3.out
 go_wp2_with fail
 refine (HM1.out w1).mono ?_
 rintro r w2 ⟨rfl, hx2⟩
 have HX2 := hI (HX1.out.trans hx2)
 have HB2 := hI (hx2.blk HB2.out)
 have HB3 := hI (hx2.blk HB3.out)
 have HB4 := hI (hx2.blk HB4.out)
 clear hx2 e0 e1 e2 e3 ef
 obtain ⟨e0, e1, e2, e3, ef⟩ := blk4 HB3.out
 go_wp2_with fail
 refine (HM2.out w2).mono ?_
 rintro r w3 ⟨rfl, hx3⟩
 have HX3 := hI (HX2.out.trans hx3)
 have HB2 := hI (hx3.blk HB2.out)
 have HB3 := hI (hx3.blk HB3.out)
 have HB4 := hI (hx3.blk HB4.out)
 clear hx3 e0 e1 e2 e3 ef
 obtain ⟨e0, e1, e2, e3, ef⟩ := blk4 HB3.out
 go_wp2_with fail
 refine (HM3.out w3).mono ?_
 rintro r w4 ⟨rfl, hx4⟩
 have HX4 := hI (HX3.out.trans hx4)
 have HB2 := hI (hx4.blk HB2.out)
 have HB3 := hI (hx4.blk HB3.out)
 have HB4 := hI (hx4.blk HB4.out)
 clear hx4 e0 e1 e2 e3 ef
 obtain ⟨e0, e1, e2, e3, ef⟩ := blk4 HB3.out
 obtain ⟨d0, d1, d2, d3, d4, d5, df⟩ := blk6d HB2.out
 have hlt := blk_lt HB4.out
 obtain ⟨w7, hw7⟩ : ∃ w7, w7 = w4.alloc (.cells #[.int .i64 gr, .int .i64 0, .int .i64 0, .int .i64 0, .int .i64 0, .int .i64 0, .int .i64 0, .int .i64 0, .int .i64 0] 68) := ⟨_, rfl⟩
 have HX7 := hI (show Ext w4 w7 by rw [hw7]; exact (Ext.refl _).alloc _)
 have HB7 := hI (show w7.heap[w4.heap.size]? = some (.cells #[.int .i64 gr, .int .i64 0, .int .i64 0, .int .i64 0, .int .i64 0, .int .i64 0, .int .i64 0, .int .i64 0, .int .i64 0] 68 (0, 0)) by rw [hw7]; exact alloc_new w4 _)
 obtain ⟨q, hq⟩ : ∃ q, q = w4.heap.size := ⟨_, rfl⟩
 have HQ := hI hq
 have hlq : w4.heap.size <= q := by omega
 have HLB := hI (show b + 2 < q by omega)
 go_upto_region 7 with fail
 rw [<- hw7, <- hq]
 rw [<- hq] at HB7
 have HC2 := hI (HX7.out.blk HB2.out)
 have HC3 := hI (HX7.out.blk HB3.out)
 have HC4 := hI (HX7.out.blk HB4.out)
 clear hw7 hq e0 e1 e2 e3 ef d0 d1 d2 d3 d4 d5 df hlt
 obtain ⟨e0, e1, e2, e3, ef⟩ := blk4 HC3.out
 obtain ⟨d0, d1, d2, d3, d4, d5, df⟩ := blk6d HC2.out
 obtain ⟨z0, z1, z2, z3, z4, z5, z6, z7, z8, zf⟩ := blk9a HB7.out
 by_cases hver : ver = 4
 case neg =>
  have tv : (ver != 4) = true := by simp [hver]
  clear hver
  go_upto_region 9 with fail
  obtain ⟨w8, hw8⟩ : ∃ w8, w8 = w7.setCell ⟨q, 1, none⟩ (.int .i64 (gr : Int)) := ⟨_, rfl⟩
  have HX8 := hI (show Ext w w8 by rw [hw8]; exact (HX4.out.trans HX7.out).setAbove (by have := HX4.out.size; simp; omega) _)
  have HB8 := hI (show w8.heap[q]? = some (.cells #[.int .i64 gr, .int .i64 gr, .int .i64 0, .int .i64 0, .int .i64 0, .int .i64 0, .int .i64 0, .int .i64 0, .int .i64 0] 68 (0, 0)) by rw [hw8, heap_setCell_same _ _ _ _ _ _ HB7.out]; rfl)
  have HC8 := hI (show w8.heap[b + 2]? = some (.cells #[.int .i64 0, .int .i64 0, .int .i64 0, .int .i64 0, .int .i64 0, .int .i64 0, .int .i64 0, .int .i64 0, .int .i64 0] 68 (0, 0)) by rw [hw8, heap_setCell_other _ _ _ _ (by have := HLB.out; simp; omega)]; exact HC4.out)
  rw [<- hw8]
  clear hw8 z0 z1 z2 z3 z4 z5 z6 z7 z8 zf d0 d1 d2 d3 d4 d5 df e0 e1 e2 e3 ef
  obtain ⟨z0, z1, z2, z3, z4, z5, z6, z7, z8, zf⟩ := blk9a HB8.out
  obtain ⟨y0, y1, y2, y3, y4, y5, y6, y7, y8, yf⟩ := blk9a HC8.out
  go_wp2_with fail
  obtain ⟨w9, hw9⟩ : ∃ w9, w9 = put9 w8 (b + 2) (.int .i64 gr) (.int .i64 gr) (.int .i64 0) (.int .i64 0) (.int .i64 0) (.int .i64 0) (.int .i64 0) (.int .i64 0) (.int .i64 0) := ⟨_, rfl⟩
  have HX9 := hI (show Ext w w9 by rw [hw9]; exact (put9_chg _ _).ext HX8.out (by simp; omega))
  have h9 : w9.heap[b + 2]? = some (.cells #[.int .i64 gr, .int .i64 gr, .int .i64 0, .int .i64 0, .int .i64 0, .int .i64 0, .int .i64 0, .int .i64 0, .int .i64 0] 68 (0, 0)) := by rw [hw9]; exact put9_blk HC8.out
  unfold put9 at hw9
  rw [<- hw9]
  clear hw9 y0 y1 y2 y3 y4 y5 y6 y7 y8 yf z0 z1 z2 z3 z4 z5 z6 z7 z8 zf
  obtain ⟨y0, y1, y2, y3, y4, y5, y6, y7, y8, yf⟩ := blk9a h9
  refine bodyPost_ret (v := .tuple #[.agg (Adj.mk gr gr 0 0 0 0 0 0 0).cells.toArray, .int .i64 0]) (by simp [results, Tryz.results53, go_sem, Adj.cells, y0, y1, y2, y3, y4, y5, y6, y7, y8]) rfl ?_
  exact ⟨_, rfl, Nat.zero_le _, rfl, HX9.out⟩
 case pos =>
  subst hver
  obtain ⟨TA, hTA⟩ : ∃ TA, TA = (avg && decide (sm < val)) := ⟨_, rfl⟩
  have HTA := hI hTA
  have HX7w := hI (HX4.out.trans HX7.out)
  go_upto_region 11 with fail
  go_cut [54] (fun s54 wx => s54 = .bool TA /\ w7 = wx)
  case first =>
   cases avg
   ·go_wp2_with fail
    go_meet
    case rel => exact ⟨by rw [HTA.out]; rfl, rfl⟩
   go_wp2_with fail
   go_meet
   case rel => exact ⟨by rw [HTA.out]; simp, rfl⟩
  case rest =>
  obtain ⟨rfl, rfl⟩ := hcut
  clear hTA
  go_upto_if 54 with fail
  go_cut [8] (fun s8 wx => ∃ (r0 : Nat) (av : Int), s8 = .int .i64 r0 /\ r0 <= 1073741824 /\ wx.heap[q]? = some (.cells #[.int .i64 gr, .int .i64 0, .int .i64 av, .int .i64 0, .int .i64 0, .int .i64 0, .int .i64 0, .int .i64 0, .int .i64 0] 68 (0, 0)) /\ Ext w4 wx)
  case first =>
   cases TA
   ·go_wp2_with fail
    go_meet
    case rel => exact ⟨gr, 0, rfl, hg, HB7.out, HX7.out⟩
   have hsv : sm < val := by have h := HTA.out; symm at h; simp at h; exact h.2
   have hp := mulH_le gr sm val (by omega)
   have HMD := hI (mulDiv_calls gr sm val w7 (by omega))
   unfold MulQ at HMD
   obtain ⟨⟨p, pe⟩, hpe⟩ : ∃ p, p = mulH gr sm val := ⟨_, rfl⟩
   rw [<- hpe] at hp HMD
   dsimp only at hp HMD
   clear hpe hsv
   go_wp2_with fail
   refine HMD.out.mono ?_
   rintro r w8 ⟨rfl, hx8⟩
   have HX8 := hI hx8
   have HB8 := hI (hx8.blk HB7.out)
   clear hx8 z0 z1 z2 z3 z4 z5 z6 z7 z8 zf d0 d1 d2 d3 d4 d5 df e0 e1 e2 e3 ef
   obtain ⟨z0, z1, z2, z3, z4, z5, z6, z7, z8, zf⟩ := blk9a HB8.out
   go_wp2_with fail
   go_meet
   case rel => exact ⟨p, _, rfl, by omega, by rw [heap_setCell_same _ _ 2 _ _ _ HB8.out]; rfl, (HX7.out.trans HX8.out).setAbove hlq _⟩
  case rest =>
  obtain ⟨r0, av, rfl, hr0, hbq, hxc⟩ := hcut
  obtain ⟨w10, rfl⟩ : ∃ W : World, W = wc := ⟨_, rfl⟩
  have HX10 := hI hxc
  have HB10 := hI hbq
  clear hxc hbq z0 z1 z2 z3 z4 z5 z6 z7 z8 zf d0 d1 d2 d3 d4 d5 df e0 e1 e2 e3 ef HC2 HC3 HC4 HTA
  have HC2 := hI (HX10.out.blk HB2.out)
  have HC4 := hI (HX10.out.blk HB4.out)
  obtain ⟨z0, z1, z2, z3, z4, z5, z6, z7, z8, zf⟩ := blk9a HB10.out
  obtain ⟨d0, d1, d2, d3, d4, d5, df⟩ := blk6d HC2.out
  go_upto_if 72 with fail
  go_cut [8] (fun s8 wx => ∃ fr : Nat, s8 = .int .i64 r0 /\ fr <= r0 /\ wx.heap[q]? = some (.cells #[.int .i64 gr, .int .i64 0, .int .i64 av, .int .i64 fr, .int .i64 0, .int .i64 0, .int .i64 0, .int .i64 0, .int .i64 0] 68 (0, 0)) /\ Ext w4 wx)
  case first =>
   by_cases hrf : r0 < fra
   ·have tf : decide (r0 < fra) = true := decide_eq_true hrf
    go_wp2_with fail
    go_meet
    case rel => exact ⟨r0, rfl, Nat.le_refl _, by rw [heap_setCell_same _ _ 3 _ _ _ HB10.out]; rfl, HX10.out.setAbove hlq _⟩
   have tf : decide (r0 < fra) = false := decide_eq_false hrf
   go_wp2_with fail
   go_meet
   case rel => exact ⟨0, rfl, Nat.zero_le _, HB10.out, HX10.out⟩
  case rest =>
  obtain ⟨fr, rfl, hfr, hbq, hxc⟩ := hcut
  obtain ⟨w11, rfl⟩ : ∃ W : World, W = wc := ⟨_, rfl⟩
  have HX11 := hI hxc
  have HB11 := hI hbq
  clear hxc hbq z0 z1 z2 z3 z4 z5 z6 z7 z8 zf d0 d1 d2 d3 d4 d5 df HC2 HC4 HB10 HX10
  have HC2 := hI (HX11.out.blk HB2.out)
  have HC4 := hI (HX11.out.blk HB4.out)
  obtain ⟨z0, z1, z2, z3, z4, z5, z6, z7, z8, zf⟩ := blk9a HB11.out
  obtain ⟨d0, d1, d2, d3, d4, d5, df⟩ := blk6d HC2.out
  go_upto_region 17 with fail
  go_cut [8] (fun s8 wx => ∃ r1 : Nat, s8 = .int .i64 r1 /\ r1 <= 1073741824 /\ w11 = wx)
  case first =>
   go_wp2_with fail
   go_meet
   case rel => exact ⟨r0 - fr, by congr 1; omega, by omega, rfl⟩
  case rest =>
  obtain ⟨r1, rfl, hr1, rfl⟩ := hcut
  go_upto_region 18 with fail
  go_cut [8] (fun s8 wx => ∃ de : Nat, s8 = .int .i64 r1 /\ de <= r1 /\ wx.heap[q]? = some (.cells #[.int .i64 gr, .int .i64 0, .int .i64 av, .int .i64 fr, .int .i64 de, .int .i64 0, .int .i64 0, .int .i64 0, .int .i64 0] 68 (0, 0)) /\ Ext w4 wx)
  case first =>
   have hmin : min (r1 : Int) (ded : Int) = ((min r1 ded : Nat) : Int) := by omega
   go_wp2_with fail
   go_meet
   case rel => exact ⟨min r1 ded, rfl, Nat.min_le_left _ _, by rw [heap_setCell_same _ _ 4 _ _ _ HB11.out]; rfl, HX11.out.setAbove hlq _⟩
  case rest =>
  obtain ⟨de, rfl, hde, hbq, hxc⟩ := hcut
  obtain ⟨w12, rfl⟩ : ∃ W : World, W = wc := ⟨_, rfl⟩
  have HX12 := hI hxc
  have HB12 := hI hbq
  clear hxc hbq z0 z1 z2 z3 z4 z5 z6 z7 z8 zf d0 d1 d2 d3 d4 d5 df HC2 HC4 HB11 HX11
  have HC2 := hI (HX12.out.blk HB2.out)
  have HC4 := hI (HX12.out.blk HB4.out)
  obtain ⟨z0, z1, z2, z3, z4, z5, z6, z7, z8, zf⟩ := blk9a HB12.out
  obtain ⟨d0, d1, d2, d3, d4, d5, df⟩ := blk6d HC2.out
  go_upto_region 19 with fail
  go_cut [8] (fun s8 wx => ∃ r2 : Nat, s8 = .int .i64 r2 /\ r2 <= 1073741824 /\ w12 = wx)
  case first =>
   go_wp2_with fail
   go_meet
   case rel => exact ⟨r1 - de, by congr 1; omega, by omega, rfl⟩
  case rest =>
  obtain ⟨r2, rfl, hr2, rfl⟩ := hcut
  have hc := mulH_le r2 coi 1000000 hd3
  have HSH := hI (share_calls r2 coi w12 (by omega))
  unfold ShrQ at HSH
  obtain ⟨⟨co, ce⟩, hce⟩ : ∃ p, p = mulH r2 coi 1000000 := ⟨_, rfl⟩
  rw [<- hce] at hc HSH
  dsimp only at hc HSH
  clear hce
  go_wp2_with fail
  refine HSH.out.mono ?_
  rintro r w13 ⟨rfl, hx13⟩
  have HX13 := hI (HX12.out.trans hx13)
  have HB13 := hI (hx13.blk HB12.out)
  clear hx13 z0 z1 z2 z3 z4 z5 z6 z7 z8 zf d0 d1 d2 d3 d4 d5 df HC2 HC4 HB12 HX12
  have HC2 := hI (HX13.out.blk HB2.out)
  have HC4 := hI (HX13.out.blk HB4.out)
  obtain ⟨z0, z1, z2, z3, z4, z5, z6, z7, z8, zf⟩ := blk9a HB13.out
  obtain ⟨d0, d1, d2, d3, d4, d5, df⟩ := blk6d HC2.out
  go_upto_region 21 with fail
  obtain ⟨w14, hw14⟩ : ∃ w14, w14 = w13.setCell ⟨q, 5, none⟩ (.int .i64 (co : Int)) := ⟨_, rfl⟩
  have HX14 := hI (show Ext w4 w14 by rw [hw14]; exact HX13.out.setAbove hlq _)
  have HB14 := hI (show w14.heap[q]? = some (.cells #[.int .i64 gr, .int .i64 0, .int .i64 av, .int .i64 fr, .int .i64 de, .int .i64 co, .int .i64 0, .int .i64 0, .int .i64 0] 68 (0, 0)) by rw [hw14, heap_setCell_same _ _ _ _ _ _ HB13.out]; rfl)
  rw [<- hw14]
  clear hw14 z0 z1 z2 z3 z4 z5 z6 z7 z8 zf d0 d1 d2 d3 d4 d5 df HC2 HC4 HB13 HX13
  have HC2 := hI (HX14.out.blk HB2.out)
  have HC4 := hI (HX14.out.blk HB4.out)
  obtain ⟨z0, z1, z2, z3, z4, z5, z6, z7, z8, zf⟩ := blk9a HB14.out
  obtain ⟨d0, d1, d2, d3, d4, d5, df⟩ := blk6d HC2.out
  go_cut [8] (fun s8 wx => ∃ r3 : Nat, s8 = .int .i64 r3 /\ r3 <= 1073741824 /\ w14 = wx)
  case first =>
   go_wp2_with fail
   go_meet
   case rel => exact ⟨r2 - co, by congr 1; omega, by omega, rfl⟩
  case rest =>
  obtain ⟨r3, rfl, hr3, rfl⟩ := hcut
  go_upto_if 102 with fail
  go_cut [8] (fun s8 wx => ∃ ov : Nat, s8 = .int .i64 r3 /\ ov <= r3 /\ wx.heap[q]? = some (.cells #[.int .i64 gr, .int .i64 0, .int .i64 av, .int .i64 fr, .int .i64 de, .int .i64 co, .int .i64 ov, .int .i64 0, .int .i64 0] 68 (0, 0)) /\ Ext w4 wx)
  case first =>
   by_cases hll : 0 <= lim
   ·have tl : decide ((0 : Int) <= lim) = true := decide_eq_true hll
    obtain ⟨ov, hov⟩ : ∃ ov : Nat, ov = ((r3 : Int) - lim).toNat := ⟨_, rfl⟩
    have hmax : max ((r3 : Int) - lim) 0 = (ov : Int) := by omega
    have hmle : ov <= r3 := by omega
    clear hov
    go_wp2_with fail
    go_meet
    case rel => exact ⟨ov, rfl, hmle, by rw [heap_setCell_same _ _ 6 _ _ _ HB14.out]; rfl, HX14.out.setAbove hlq _⟩
   have tl : decide ((0 : Int) <= lim) = false := decide_eq_false hll
   go_wp2_with fail
   go_meet
   case rel => exact ⟨0, rfl, Nat.zero_le _, HB14.out, HX14.out⟩
  case rest =>
  obtain ⟨ov, rfl, hov, hbq, hxc⟩ := hcut
  obtain ⟨w15, rfl⟩ : ∃ W : World, W = wc := ⟨_, rfl⟩
  have HX15 := hI hxc
  have HB15 := hI hbq
  clear hxc hbq z0 z1 z2 z3 z4 z5 z6 z7 z8 zf d0 d1 d2 d3 d4 d5 df HC2 HC4 HB14 HX14
  have HC2 := hI (HX15.out.blk HB2.out)
  have HC4 := hI (HX15.out.blk HB4.out)
  obtain ⟨z0, z1, z2, z3, z4, z5, z6, z7, z8, zf⟩ := blk9a HB15.out
  obtain ⟨d0, d1, d2, d3, d4, d5, df⟩ := blk6d HC2.out
  obtain ⟨nt, hnt⟩ : ∃ nt : Nat, (nt : Int) = (r3 : Int) - (ov : Int) := ⟨r3 - ov, by omega⟩
  have HNT := hI hnt
  go_upto_region 25 with fail
  obtain ⟨w16, hw16⟩ : ∃ w16, w16 = w15.setCell ⟨q, 8, none⟩ (.int .i64 (nt : Int)) := ⟨_, rfl⟩
  have HX16 := hI (show Ext w w16 by rw [hw16]; exact (HX4.out.trans HX15.out).setAbove (by have := HX4.out.size; simp; omega) _)
  have HB16 := hI (show w16.heap[q]? = some (.cells #[.int .i64 gr, .int .i64 0, .int .i64 av, .int .i64 fr, .int .i64 de, .int .i64 co, .int .i64 ov, .int .i64 0, .int .i64 nt] 68 (0, 0)) by rw [hw16, heap_setCell_same _ _ _ _ _ _ HB15.out]; rfl)
  have HC16 := hI (show w16.heap[b + 2]? = some (.cells #[.int .i64 0, .int .i64 0, .int .i64 0, .int .i64 0, .int .i64 0, .int .i64 0, .int .i64 0, .int .i64 0, .int .i64 0] 68 (0, 0)) by rw [hw16, heap_setCell_other _ _ _ _ (by have := HLB.out; simp; omega)]; exact HC4.out)
  rw [<- hnt, <- hw16]
  clear hw16 hnt z0 z1 z2 z3 z4 z5 z6 z7 z8 zf d0 d1 d2 d3 d4 d5 df HC2 HC4 HB15 HX15
  obtain ⟨z0, z1, z2, z3, z4, z5, z6, z7, z8, zf⟩ := blk9a HB16.out
  obtain ⟨y0, y1, y2, y3, y4, y5, y6, y7, y8, yf⟩ := blk9a HC16.out
  go_wp2_with fail
  obtain ⟨w9, hw9⟩ : ∃ w9, w9 = put9 w16 (b + 2) (.int .i64 gr) (.int .i64 0) (.int .i64 av) (.int .i64 fr) (.int .i64 de) (.int .i64 co) (.int .i64 ov) (.int .i64 0) (.int .i64 nt) := ⟨_, rfl⟩
  have HX9 := hI (show Ext w w9 by rw [hw9]; exact (put9_chg _ _).ext HX16.out (by simp; omega))
  have h9 : w9.heap[b + 2]? = some (.cells #[.int .i64 gr, .int .i64 0, .int .i64 av, .int .i64 fr, .int .i64 de, .int .i64 co, .int .i64 ov, .int .i64 0, .int .i64 nt] 68 (0, 0)) := by rw [hw9]; exact put9_blk HC16.out
  unfold put9 at hw9
  rw [<- hw9]
  clear hw9 y0 y1 y2 y3 y4 y5 y6 y7 y8 yf z0 z1 z2 z3 z4 z5 z6 z7 z8 zf
  obtain ⟨y0, y1, y2, y3, y4, y5, y6, y7, y8, yf⟩ := blk9a h9
  refine bodyPost_ret (v := .tuple #[.agg (Adj.mk gr 0 av fr de co ov 0 nt).cells.toArray, .int .i64 0]) (by simp [results, Tryz.results53, go_sem, Adj.cells, y0, y1, y2, y3, y4, y5, y6, y7, y8]) rfl ?_
  exact ⟨_, rfl, by have := HNT.out; show nt <= _; omega, rfl, HX9.out⟩
end Go.Proofs.YtefjomofjejklaaGreat
