/-
  Texts of the claim, joined: Heap4, Heap5, Heap6, Heap7, Ord2, Names2, Names3.
-/
import Derived.Test.YtpkljcgihobaiaaGreatDoorSo12
import Derived.Outline
import Derived.Laws.Cover1
import Derived.Sort.Walk0
namespace Go.Proofs.YtpkljcgihobaiaaGreatDoor
set_option maxRecDepth 100000
set_option maxHeartbeats 32000000
open Go.RowKit
structure PileG (B b g cap : Nat) (xs : ZI) (w : World) : Prop where
 hB : B <= b
 hg : B <= g
 hgb : g ≠ b
 hb : w.heap[b]? = some (.cells #[.slice (some ⟨g, 0, none⟩) xs.length cap] 133 (0, 0))
 row : ∃ cur : Array Value, w.heap[g]? = some (.cells cur 3 (0, 0)) /\ xs.length <= cap /\ cap <= maxLen /\ cur.size = cap /\ cur.toList.take xs.length = xs.map fun z => Value.int .i64 z
theorem PileG.cell {B b g cap : Nat} {xs : ZI} {w : World} (h : PileG B b g cap xs w) {i : Nat} (hi : i < xs.length) : w.cell? ⟨g, i, none⟩ = some (.int .i64 xs[i]) := by
 obtain ⟨cur, h1, _, _, _, h5⟩ := h.row
 exact (pile_cell h1 h5 hi).1
theorem PileG.free {B b g cap : Nat} {xs : ZI} {w : World} (h : PileG B b g cap xs w) (i : Nat) : w.frozen? ⟨g, i, none⟩ = false := by
 obtain ⟨cur, h1, _⟩ := h.row
 exact Lib.frozen_of_heap h1 i
theorem PileG.head {B b g cap : Nat} {xs : ZI} {w : World} (h : PileG B b g cap xs w) : w.cell? ⟨b, 0, none⟩ = some (.slice (some ⟨g, 0, none⟩) xs.length cap) := blk_cell h.hb 0
theorem PileG.chg {B b g cap : Nat} {xs : ZI} {w w' : World} {N : ZN} (h : PileG B b g cap xs w) (hc : Chg N w w') (h1 : b ∉ N) (h2 : g ∉ N) : PileG B b g cap xs w' := by
 obtain ⟨a1, a2, a3, a4, cur, a5, r⟩ := h
 exact ⟨a1, a2, a3, hc.blk a4 h1, cur, hc.blk a5 h2, r⟩
theorem PileG.ext {B b g cap : Nat} {xs : ZI} {w w' : World} (h : PileG B b g cap xs w) (hx : Ext w w') : PileG B b g cap xs w' := h.chg (hx.chg []) (by simp) (by simp)
theorem PileG.set {B b g cap : Nat} {xs : ZI} {w : World} (h : PileG B b g cap xs w) (i : Nat) (z : Int) : PileG B b g cap (xs.set i z) (w.setCell ⟨g, i, none⟩ (.int .i64 z)) := by
 obtain ⟨a1, a2, a3, a4, cur, a5, a6, a7, a8, a9⟩ := h
 refine ⟨a1, a2, a3, ?_, cur.setIfInBounds i (.int .i64 z), ?_, by simpa using a6, a7, by simpa using a8, ?_⟩
 ·rw [Below.heap_setCell _ _ _ _ (by simpa using fun h => a3 h.symm)]; simpa using a4
 ·simp [World.setCell, Array.getElem?_modify, a5]
 simp only [Array.toList_setIfInBounds, List.length_set]
 rw [List.take_set, a9, List.map_set]
theorem PileG.swap {B b g cap : Nat} {xs : ZI} {w : World} (h : PileG B b g cap xs w) {i j : Nat} (hi : i < xs.length) (hj : j < xs.length) (k : Nat) :
  PileG B b g cap ((xs.set i xs[j]).set j xs[i]) (((w.setCell ⟨g, i, none⟩ (.int .i64 xs[j])).setCell ⟨g, j, none⟩ (.int .i64 xs[i])).drewN k) /\ Chg [g] w (((w.setCell ⟨g, i, none⟩ (.int .i64 xs[j])).setCell ⟨g, j, none⟩ (.int .i64 xs[i])).drewN k) :=
 ⟨((h.set i xs[j]).set j xs[i]).ext ((Ext.refl _).drewN k), (((Chg.refl [g] w).setCell (Or.inl (by simp)) _).setCell (Or.inl (by simp)) _).drewN k⟩
def PermQ (v : Value) (B b g cap : Nat) (xs : ZI) (w : World) (e : Ending) (w' : World) : Prop := e = .returned v /\ ∃ ys : ZI, ys.Perm xs /\ PileG B b g cap ys w' /\ Chg [g] w w'
theorem up_calls (B b g cap : Nat) (xs : ZI) (w : World) (h : PileG B b g cap xs w) (j : Nat) (hj : j < xs.length) :
  Calls Tryz.prog 117 #[.iface 130 (.pointer (some ⟨b, 0, none⟩)), .int .i64 j] w (PermQ (.tuple #[]) B b g cap xs w) := by
 obtain ⟨cur, hr1, hr2, hr3, hr4, hr5⟩ := h.row
 have hlen : xs.length <= 9223372036854775807 := by unfold maxLen at hr3; omega
 have HP := hI h
 clear hr1 hr2 hr3 hr4 hr5 cur h
 go_enter Tryz.func117, Tryz.ntmps117
 go_wp2_with fail
 go_loopw [1, 4] (fun t _ wr => ∃ (k : Nat) (ys : ZI), t = .int .i64 k /\ k < ys.length /\ ys.length = xs.length /\ ys.Perm xs /\ PileG B b g cap ys wr /\ Chg [g] w wr) (fun t _ _ => (intOf t).toNat)
 case atStart => exact ⟨j, xs, rfl, hj, rfl, List.Perm.refl _, HP.out, Chg.refl _ _⟩
 case round =>
  obtain ⟨k, ys, rfl, hk, hyl, hyp, hpl, hch⟩ := hrel
  have HPL := hI hpl
  have HC := hI hch
  have HY := hI hyp
  have HYL := hI hyl
  have hhead := hpl.head
  have hkl : k <= 9223372036854775807 := by omega
  clear hpl hch hyp hyl HP
  have ha := fun n => ahead_less n b
  have hm := fun n => meth_less n b _ wr hhead
  by_cases hk0 : k = 0
  ·subst hk0
   go_wp2_with fail
   go_end0
   exact ⟨rfl, ys, HY.out, HPL.out, HC.out⟩
  obtain ⟨p, hp⟩ : ∃ p : Nat, p = (k - 1) / 2 := ⟨_, rfl⟩
  have q1 : ((k : Int) - 1).tdiv 2 = (p : Int) := by
   rw [Int.tdiv_eq_ediv_of_nonneg (by omega)]
   omega
  have hpk : p < k := by omega
  have hpy : p < ys.length := by omega
  have t0 : ((p : Int) == (k : Int)) = false := by simp; omega
  have HHP := hI hp
  clear hp hk0
  have L := iless_calls g ys.length cap k p ys[k] ys[p] wr hk hpy (HPL.out.cell hk) (HPL.out.cell hpy)
  have HL := hI L
  clear L
  cases hd : decide (ys[k] < ys[p])
  all_goals
   have HD := hI hd
   clear hd
   go_wp2_with fail
   refine HL.out.mono ?_
   rintro r w1 ⟨rfl, hx1⟩
   rw [HD.out]
   have HX1 := hI hx1
   have hh1 := (HPL.out.ext hx1).head
   clear hx1 hm ha hhead
   have ha := fun n => ahead_swap n b
   have hm := fun n => meth_swap n b _ w1 hh1
   go_wp2_with fail
  ·go_end0
   exact ⟨rfl, ys, HY.out, HPL.out.ext HX1.out, HC.out.then (HX1.out.chg _)⟩
  refine (iswap_calls g ys.length cap p k ys[p] ys[k] _ hpy hk ((HPL.out.ext HX1.out).cell hpy) ((HPL.out.ext HX1.out).cell hk) (HPL.out.ext HX1.out).free).mono ?_
  rintro r w2 ⟨rfl, q, rfl⟩
  obtain ⟨hp2, hc2⟩ := (HPL.out.ext HX1.out).swap hpy hk q
  have HP2 := hI hp2
  have HC2 := hI hc2
  clear hp2 hc2
  generalize ((w1.setCell ⟨g, p, none⟩ (.int .i64 ys[k])).setCell ⟨g, k, none⟩ (.int .i64 ys[p])).drewN q = w2 at *
  clear hm ha hh1
  go_wp2_with fail
  go_roundw
  case rel => exact ⟨p, (ys.set p ys[k]).set k ys[p], rfl, by simp; omega, by simp; exact HYL.out, (List.set_set_perm hpy hk).trans HY.out, HP2.out, (HC.out.then (HX1.out.chg _)).then HC2.out⟩
  case measure => simp [intOf]; omega
def PermQ2 (B b g cap : Nat) (xs : ZI) (w : World) (e : Ending) (w' : World) : Prop := (∃ u : Bool, e = .returned (.bool u)) /\ ∃ ys : ZI, ys.Perm xs /\ (∀ z, xs.getLast? = some z -> ys.getLast? = some z) /\ PileG B b g cap ys w' /\ Chg [g] w w'
theorem last_set {xs : ZI} {i : Nat} (h : i + 1 < xs.length) (z : Int) : (xs.set i z).getLast? = xs.getLast? := by
 rw [List.getLast?_eq_getElem?, List.getLast?_eq_getElem?]
 simp only [List.length_set]
 rw [List.getElem?_set_ne (by omega)]
theorem down_calls (B b g cap : Nat) (xs : ZI) (w : World) (h : PileG B b g cap xs w) (n : Nat) (hn : n + 1 = xs.length) (hn2 : n <= 1000000000000000) :
  Calls Tryz.prog 118 #[.iface 130 (.pointer (some ⟨b, 0, none⟩)), .int .i64 0, .int .i64 n] w (PermQ2 B b g cap xs w) := by
 have HP := hI h
 have HN := hI hn
 clear h hn
 go_enter Tryz.func118, Tryz.ntmps118
 go_wp2_with fail
 go_loopw [7, 8, 9, 10] (fun t _ _ _ wr => ∃ (k : Nat) (ys : ZI), t = .int .i64 k /\ k <= n /\ n + 1 = ys.length /\ ys.Perm xs /\ (∀ z, xs.getLast? = some z -> ys.getLast? = some z) /\ PileG B b g cap ys wr /\ Chg [g] w wr) (fun t _ _ _ _ => n - (intOf t).toNat)
 case atStart => exact ⟨0, xs, rfl, by omega, HN.out, List.Perm.refl _, fun _ h => h, HP.out, Chg.refl _ _⟩
 case round =>
  obtain ⟨k, ys, rfl, hk, hyl, hyp, hla, hpl, hch⟩ := hrel
  have HPL := hI hpl
  have HC := hI hch
  have HY := hI hyp
  have HYL := hI hyl
  have HLA := hI hla
  have hhead := hpl.head
  clear hpl hch hyp hyl HP HN hla
  obtain ⟨j1, hj1⟩ : ∃ j1 : Nat, j1 = 2 * k + 1 := ⟨_, rfl⟩
  have q1 : (2 * (k : Int) + 1) = (j1 : Int) := by omega
  have hkj : k < j1 := by omega
  have HJ1 := hI hj1
  have t1 : decide ((j1 : Int) < 0) = false := by simp
  have hj1b : j1 <= 2000000000000001 := by omega
  clear hj1
  by_cases hlt : j1 < n
  ·have t0 : decide (n <= j1) = false := by simp; omega
   have hy1 : j1 < ys.length := by have := HYL.out; omega
   have hyk : k < ys.length := by have := HYL.out; omega
   obtain ⟨j2, hj2⟩ : ∃ j2 : Nat, j2 = j1 + 1 := ⟨_, rfl⟩
   have q2 : ((j1 : Int) + 1) = (j2 : Int) := by omega
   have hj12 : j1 < j2 := by omega
   have hj2n : j2 <= n := by omega
   clear hj2
   by_cases h2 : j2 < n
   case' neg =>
    have t2 : decide (j2 < n) = false := by simp; omega
    go_upto_region 8 with fail
    obtain ⟨j, hj⟩ : ∃ j : Nat, j = j1 := ⟨_, rfl⟩
    obtain ⟨w1, hw1⟩ : ∃ w1 : World, w1 = wr := ⟨_, rfl⟩
    have HX1 := hI (show Ext wr w1 by rw [hw1]; exact Ext.refl _)
    rw [<- hj, <- hw1]
    have hjk : k < j /\ j < n := by omega
    clear hj hw1
   case' pos =>
    have t2 : decide (j2 < n) = true := by simp; omega
    have hy2 : j2 < ys.length := by have := HYL.out; omega
    have HL := hI (iless_calls g ys.length cap j2 j1 ys[j2] ys[j1] wr hy2 hy1 (HPL.out.cell hy2) (HPL.out.cell hy1))
    have ha := fun n => ahead_less n b
    have hm := fun n => meth_less n b _ wr hhead
    cases hd : decide (ys[j2] < ys[j1])
    case' false =>
     have HD := hI hd
     clear hd
     go_wp2_with fail
     refine HL.out.mono ?_
     rintro r w1 ⟨rfl, hx1⟩
     rw [HD.out]
     have HX1 := hI hx1
     clear hx1 hm ha hhead HD
     go_upto_region 8 with fail
     obtain ⟨j, hj⟩ : ∃ j : Nat, j = j1 := ⟨_, rfl⟩
     rw [<- hj]
     have hjk : k < j /\ j < n := by omega
     clear hj
    case' true =>
     have HD := hI hd
     clear hd
     go_wp2_with fail
     refine HL.out.mono ?_
     rintro r w1 ⟨rfl, hx1⟩
     rw [HD.out]
     have HX1 := hI hx1
     clear hx1 hm ha hhead HD
     go_upto_region 8 with fail
     obtain ⟨j, hj⟩ : ∃ j : Nat, j = j2 := ⟨_, rfl⟩
     rw [<- hj]
     have hjk : k < j /\ j < n := by omega
     clear hj
   all_goals
    obtain ⟨hjk, hjn⟩ := hjk
    have hyj : j < ys.length := by have := HYL.out; omega
    have hh1 := (HPL.out.ext HX1.out).head
    have ha := fun n => ahead_less n b
    have hm := fun n => meth_less n b _ w1 hh1
    have HL2 := hI (iless_calls g ys.length cap j k ys[j] ys[k] w1 hyj hyk ((HPL.out.ext HX1.out).cell hyj) ((HPL.out.ext HX1.out).cell hyk))
    cases hd : decide (ys[j] < ys[k])
    ·have HD := hI hd
     clear hd
     go_wp2_with fail
     refine HL2.out.mono ?_
     rintro r w2 ⟨rfl, hx2⟩
     rw [HD.out]
     have HX2 := hI hx2
     clear hx2 hm ha hh1 HD
     go_wp2_with fail
     go_ret
     exact ⟨⟨_, rfl⟩, ys, HY.out, HLA.out, (HPL.out.ext HX1.out).ext HX2.out, (HC.out.then (HX1.out.chg _)).then (HX2.out.chg _)⟩
    have HD := hI hd
    clear hd
    go_wp2_with fail
    refine HL2.out.mono ?_
    rintro r w2 ⟨rfl, hx2⟩
    rw [HD.out]
    have HPX := hI ((HPL.out.ext HX1.out).ext hx2)
    have HCX := hI ((HC.out.then (HX1.out.chg _)).then (hx2.chg _))
    have hh2 := HPX.out.head
    clear hx2 hm ha hh1 HD
    have ha := fun n => ahead_swap n b
    have hm := fun n => meth_swap n b _ w2 hh2
    go_wp2_with fail
    refine (iswap_calls g ys.length cap k j ys[k] ys[j] _ hyk hyj (HPX.out.cell hyk) (HPX.out.cell hyj) HPX.out.free).mono ?_
    rintro r w3 ⟨rfl, q, rfl⟩
    obtain ⟨hp2, hc2⟩ := HPX.out.swap hyk hyj q
    have HP2 := hI hp2
    have HC2 := hI hc2
    clear hp2 hc2
    generalize ((w2.setCell ⟨g, k, none⟩ (.int .i64 ys[j])).setCell ⟨g, j, none⟩ (.int .i64 ys[k])).drewN q = w3 at *
    clear hm ha hh2
    go_wp2_with fail
    go_roundw
    case rel =>
     refine ⟨j, (ys.set k ys[j]).set j ys[k], rfl, by omega, by simp; exact HYL.out, (List.set_set_perm hyk hyj).trans HY.out, fun z hz => ?_, HP2.out, HCX.out.then HC2.out⟩
     rw [last_set (by have := HYL.out; simp; omega), last_set (by have := HYL.out; omega)]
     exact HLA.out z hz
    case measure => simp [intOf]; omega
  have t0 : decide (n <= j1) = true := by simp; omega
  go_wp2_with fail
  go_ret
  exact ⟨⟨_, rfl⟩, ys, HY.out, HLA.out, HPL.out, HC.out⟩
theorem elemIdx : ElemT 131 3 (.int .i64 0) 1 8 := ⟨by kernel_rfl, by kernel_rfl, rfl, by omega⟩
structure PileV (B b : Nat) (v : Value) (xs : ZI) (w : World) : Prop where
 hB : B <= b
 hb : w.heap[b]? = some (.cells #[v] 133 (0, 0))
 own : w.ownsRow B 3 1 v xs.length (xs.map fun z => Value.int .i64 z)
 ne : v.ownBlock ≠ some b
theorem PileV.chg {B b : Nat} {v : Value} {xs : ZI} {w w' : World} {N : ZN} (h : PileV B b v xs w) (hc : Chg N w w') (h1 : b ∉ N) (h2 : ∀ k, v.ownBlock = some k -> k ∉ N) : PileV B b v xs w' := by
 obtain ⟨a1, a2, a3, a4⟩ := h
 refine ⟨a1, hc.blk a2 h1, ?_, a4⟩
 rcases a3 with ⟨l, h0 | ⟨g, cap, cur, e1, e2, e3, r⟩⟩
 ·exact ⟨l, Or.inl h0⟩
 exact ⟨l, Or.inr ⟨g, cap, cur, e1, e2, hc.blk e3 (h2 g (by rw [e1]; rfl)), r⟩⟩
theorem PileV.fresh (w : World) : PileV w.heap.size w.heap.size (.slice none 0 0) [] (w.alloc (.cells #[.slice none 0 0] 133)) :=
 ⟨Nat.le_refl _, heap_alloc_new w _, World.ownsRow_nil _ _ _ _, by simp [Value.ownBlock]⟩
theorem PileV.form {B b : Nat} {v : Value} {xs : ZI} {w : World} (h : PileV B b v xs w) : ∃ a c, v = .slice a xs.length c := by
 rcases h.own.2 with ⟨rfl, h0⟩ | ⟨g, cap, cur, rfl, _⟩
 ·exact ⟨none, 0, by rw [h0]⟩
 exact ⟨_, _, rfl⟩
theorem PileV.g {B b : Nat} {v : Value} {xs : ZI} {w : World} (h : PileV B b v xs w) (hx : 0 < xs.length) : ∃ g cap, v = .slice (some ⟨g, 0, none⟩) xs.length cap /\ PileG B b g cap xs w := by
 obtain ⟨a1, a2, a3, a4⟩ := h
 rcases a3.2 with ⟨rfl, h0⟩ | ⟨g, cap, cur, rfl, h1, h2, h3, h4, h5, h6⟩
 ·omega
 exact ⟨g, cap, rfl, a1, h1, fun e => a4 (by rw [e]; rfl), a2, cur, h2, h3, h4, by simpa using h5, by simpa using h6⟩
theorem PileG.v {B b g cap : Nat} {xs : ZI} {w : World} (h : PileG B b g cap xs w) : PileV B b (.slice (some ⟨g, 0, none⟩) xs.length cap) xs w := by
 obtain ⟨a1, a2, a3, a4, cur, h2, h3, h4, h5, h6⟩ := h
 refine ⟨a1, a4, ⟨by simp, Or.inr ⟨g, cap, cur, rfl, a2, h2, h3, h4, by simpa using h5, by simpa using h6⟩⟩, fun e => a3 (by simpa [Value.ownBlock] using e)⟩
theorem owns_form {w : World} {base : Nat} {e : TypeId} {size : Nat} {v : Value} {n : Nat} {xs : List Value} (h : w.ownsRow base e size v n xs) : ∃ a c, v = .slice a n c := by
 rcases h.2 with ⟨rfl, h0⟩ | ⟨g, cap, cur, rfl, _⟩
 ·exact ⟨none, 0, by rw [h0]⟩
 exact ⟨_, _, rfl⟩
def PushQ (B b : Nat) (v : Value) (ok : ZI -> Prop) (w : World) (e : Ending) (w' : World) : Prop := e = .returned (.tuple #[]) /\ ∃ v' ys, ok ys /\ PileV B b v' ys w' /\ Chg (b :: rowOf v) w w' /\ ∀ k, v'.ownBlock = some k -> v.ownBlock = some k \/ w.heap.size <= k
theorem ipush_calls (B b : Nat) (v : Value) (xs : ZI) (z : Int) (w : World) (h : PileV B b v xs w) (hB : B <= w.heap.size) (hl : xs.length <= 1000000000) :
  Calls Tryz.prog 179 #[.pointer (some ⟨b, 0, none⟩), .iface 3 (.int .i64 z)] w (PushQ B b v (· = xs ++ [z]) w) := by
 have HP := hI h
 have hb0 := blk_cell h.hb 0
 have hbf := blk_free h.hb 0
 have hlt := blk_lt h.hb
 obtain ⟨a, c, hv⟩ := h.form
 subst hv
 simp at hb0
 have t1 : (Value.iface 3 (.int .i64 z)) = (Value.iface 3 (.int .i64 z)) := rfl
 clear h t1
 obtain ⟨i0, hi, hz0, hz1, hz2⟩ := info_parts elemIdx.info
 have hta : ∀ W : World, (Instr.typeAssert (.iface 3 (.int .i64 z)) 20 3 true).run Tryz.prog W = .ok (.tuple #[.int .i64 z, .bool true]) W := fun W => by kernel_rfl
 go_enter Tryz.func179, Tryz.ntmps179
 go_wp2_with (at_builtin; refine wpList_append_own_at _ rfl _ _ 131 rfl B 3 i0 (.int .i64 0) 1 8 elemIdx.ht hi hz0 hz1 hz2 rfl (by decide) _ xs.length _ rfl (HP.out.own.alloc _) ⟨w.heap.size, 0, none⟩ 1 1 [.int .i64 z] rfl rfl ?c1 ?c2 ?c3 ?c4 ?c5 ?_)
 case c1 => exact cell_one_new _ _ _
 case c2 => simp [Value.oneCell']
 case c3 => unfold maxLen; omega
 case c4 => omega
 case c5 => simp; omega
 intro v' w' hown' hgrow' _ hwhere
 have hbn : some b ≠ (Value.slice a xs.length c).ownBlock := fun e => HP.out.ne e.symm
 have hb' : w'.heap[b]? = some (.cells #[.slice a xs.length c] 133 (0, 0)) := (hgrow'.block b (by simp; omega) hbn).trans (blk_alloc HP.out.hb)
 have hb1 := blk_cell hb' 0
 have hf1 := blk_free hb' 0
 have hl1 := blk_lt hb'
 simp at hb1
 have hvb : v'.ownBlock ≠ some b := by
  rcases hwhere with e | e
  ·rw [e]; exact fun h => hbn h.symm
  rw [e]; simp; omega
 obtain ⟨a', c', hv'⟩ := owns_form hown'
 subst hv'
 have HB1 := hI hb'
 have HO := hI hown'
 have HG := hI hgrow'
 have HW := hI hwhere
 clear hb' hown' hgrow' hwhere hb0 hbf hta
 go_wp2_with fail
 go_end0
 have hc1 : Chg (rowOf (.slice a xs.length c)) w w' := (((Ext.refl w).alloc _).chg _).then (grown_chg HG.out)
 have hc2 : Chg [b] w' (w'.setCell ⟨b, 0, none⟩ (.slice a' (xs.length + 1) c')) := (Chg.refl _ _).setCell (Or.inl (by simp)) _
 refine ⟨rfl, .slice a' (xs.length + 1) c', xs ++ [z], rfl, ⟨HP.out.hB, ?_, ?_, hvb⟩, ?_, ?_⟩
 ·have := heap_setCell_same w' b 0 _ _ (.slice a' (xs.length + 1) c') HB1.out
  simpa using this
 ·have := owns_chg HO.out hc2 (fun k hk hm => hvb (by simp at hm; rw [hk, hm]))
  simpa using this
 ·refine Chg.trans (Chg.trans (Chg.refl (b :: rowOf (.slice a xs.length c)) w) hc1 (fun x hx => Or.inl (by simp [hx]))) hc2 (fun x hx => Or.inl (by simp at hx; simp [hx]))
 intro k hk
 rcases HW.out with e | e
 ·exact Or.inl (by rw [<- e]; exact hk)
 rw [e] at hk
 simp at hk
 exact Or.inr (by omega)
theorem getLast_cell {xs : ZI} (hx : 0 < xs.length) : xs.getLast? = some (xs[xs.length - 1]'(by omega)) := by
 rw [List.getLast?_eq_getElem?, List.getElem?_eq_getElem (by omega)]
theorem PileG.pop {B b g cap : Nat} {xs : ZI} {w : World} (h : PileG B b g cap xs w) : PileG B b g cap xs.dropLast (w.setCell ⟨b, 0, none⟩ (.slice (some ⟨g, 0, none⟩) (xs.length - 1) cap)) := by
 obtain ⟨a1, a2, a3, a4, cur, a5, a6, a7, a8, a9⟩ := h
 refine ⟨a1, a2, a3, ?_, cur, ?_, by simp; omega, a7, a8, ?_⟩
 ·simp [World.setCell, Array.getElem?_modify, a4]
 ·rw [Below.heap_setCell _ _ _ _ (by simpa using a3)]; exact a5
 have h5 : cur.toList.take (xs.length - 1) = (cur.toList.take xs.length).take (xs.length - 1) := by rw [List.take_take]; congr 1; omega
 simp only [List.length_dropLast]
 rw [h5, a9, <- List.map_take, List.dropLast_eq_take]
def PopQ (B b : Nat) (v : Value) (ok : Int -> ZI -> Prop) (w : World) (e : Ending) (w' : World) : Prop :=
 ∃ z v' ys, e = .returned (.iface 3 (.int .i64 z)) /\ ok z ys /\ PileV B b v' ys w' /\ Chg (b :: rowOf v) w w' /\ ∀ k, v'.ownBlock = some k -> v.ownBlock = some k \/ w.heap.size <= k
theorem ipop_calls (B b g cap : Nat) (xs : ZI) (w : World) (h : PileG B b g cap xs w) (hx : 0 < xs.length) :
  Calls Tryz.prog 178 #[.pointer (some ⟨b, 0, none⟩)] w (PopQ B b (.slice (some ⟨g, 0, none⟩) xs.length cap) (fun z ys => xs.getLast? = some z /\ ys = xs.dropLast) w) := by
 have HP := hI h
 have hh := h.head
 have hf := blk_free h.hb 0
 have hlt := blk_lt h.hb
 have hc := h.cell (i := xs.length - 1) (by omega)
 have hlast := getLast_cell hx
 obtain ⟨n, hn⟩ : ∃ n : Nat, n + 1 = xs.length := ⟨xs.length - 1, by omega⟩
 obtain ⟨cur, hr1, hr2, hr3, hr4, hr5⟩ := h.row
 have hn2 : n + 1 <= 9223372036854775807 := by unfold maxLen at hr3; omega
 have hcap : n + 1 <= cap := by omega
 have e1 : xs.length - 1 = n := by omega
 have HPL := hI h.pop
 simp only [e1] at hc hlast
 obtain ⟨z, hz⟩ : ∃ z, z = xs[n]'(by omega) := ⟨_, rfl⟩
 rw [<- hz] at hc hlast
 rw [<- hn] at hh
 have HLA := hI hlast
 have HN := hI hn
 have HN2 := hI e1
 have q1 : (((n + 1 : Nat) : Int) - 1) = (n : Int) := by omega
 have q2 : ((n : Int) + 1 - 1) = (n : Int) := by omega
 rw [<- hn]
 clear h hlast hr1 hr2 hr3 hr4 hr5 hz e1 hn
 go_enter Tryz.func178, Tryz.ntmps178
 go_wp2_with fail
 go_ret
 have hp := HPL.out
 rw [HN2.out] at hp
 have hv := hp.v
 rw [List.length_dropLast, HN2.out] at hv
 exact ⟨z, _, _, rfl, ⟨HLA.out, rfl⟩, hv, (Chg.refl _ _).setCell (Or.inl (by simp)) _, fun k hk => Or.inl hk⟩
theorem hpush_calls (B b : Nat) (v : Value) (xs : ZI) (z : Int) (w : World) (h : PileV B b v xs w) (hB : B <= w.heap.size) (hl : xs.length <= 100000000) :
  Calls Tryz.prog 95 #[.iface 130 (.pointer (some ⟨b, 0, none⟩)), .iface 3 (.int .i64 z)] w (PushQ B b v (fun ys => ys.Perm (xs ++ [z])) w) := by
 have ha := fun n => ahead_push n b
 have hm := fun n W => meth_push n b W
 have HP := hI h
 clear h
 go_enter Tryz.func95, Tryz.ntmps95
 go_wp2_with fail
 refine (ipush_calls B b v xs z w HP.out hB (by omega)).mono ?_
 rintro r w1 ⟨rfl, v1, ys, rfl, hp1, hc1, hw1⟩
 obtain ⟨g, cap, rfl, hg1⟩ := hp1.g (by simp)
 have HG1 := hI hg1
 have HC1 := hI hc1
 have HW1 := hI hw1
 have hh := hg1.head
 obtain ⟨n, hn⟩ : ∃ n : Nat, n = xs.length := ⟨_, rfl⟩
 have e1 : (xs ++ [z]).length = n + 1 := by simp [hn]
 rw [e1] at hh
 have HE := hI e1
 have hnb : n <= 100000000 := by omega
 clear hp1 hg1 hc1 hw1 ha hm e1 hn hl
 have ha := fun n => ahead_len n b
 have hm := fun k => meth_len k b _ w1 hh
 go_wp2_with fail
 refine (ilen_calls _ _ _ _).mono ?_
 rintro r w2 ⟨rfl, rfl⟩
 have q1 : (((n + 1 : Nat) : Int) - 1) = (n : Int) := by omega
 have q2 : ((n : Int) + 1 - 1) = (n : Int) := by omega
 clear ha hm
 go_wp2_with fail
 refine (up_calls B b g cap _ _ HG1.out n (by rw [HE.out]; omega)).mono ?_
 rintro r w3 ⟨rfl, ys, hy, hp3, hc3⟩
 have HP3 := hI hp3
 have HC3 := hI hc3
 have HY := hI hy
 clear hp3 hc3 hy
 go_wp2_with fail
 go_end0
 refine ⟨rfl, _, ys, HY.out, HP3.out.v, Chg.trans HC1.out HC3.out (fun x hx => ?_), fun k hk => ?_⟩
 ·simp only [List.mem_singleton] at hx
  subst hx
  rcases HW1.out x rfl with e | e
  ·exact Or.inl (List.mem_cons_of_mem _ (mem_rowOf.2 e))
  exact Or.inr e
 exact HW1.out k hk
theorem hpop_calls (B b : Nat) (v : Value) (xs : ZI) (w : World) (h : PileV B b v xs w) (hx : 0 < xs.length) (hl : xs.length <= 100000000) :
  Calls Tryz.prog 97 #[.iface 130 (.pointer (some ⟨b, 0, none⟩))] w (PopQ B b v (fun z ys => xs.Perm (z :: ys)) w) := by
 obtain ⟨g, cap, rfl, hg⟩ := h.g hx
 have HG := hI hg
 have hh := hg.head
 obtain ⟨n, hn⟩ : ∃ n : Nat, n + 1 = xs.length := ⟨xs.length - 1, by omega⟩
 rw [<- hn] at hh ⊢
 have HN := hI hn
 have hnb : n <= 100000000 := by omega
 have hn0 : 0 < xs.length := hx
 have hnn : n < xs.length := by omega
 clear h hg hn hx hl
 have ha := fun n => ahead_len n b
 have hm := fun k => meth_len k b _ w hh
 have q1 : (((n + 1 : Nat) : Int) - 1) = (n : Int) := by omega
 have q2 : ((n : Int) + 1 - 1) = (n : Int) := by omega
 go_enter Tryz.func97, Tryz.ntmps97
 go_wp2_with fail
 refine (ilen_calls _ _ _ _).mono ?_
 rintro r w1 ⟨rfl, rfl⟩
 clear ha hm
 have ha := fun n => ahead_swap n b
 have hm := fun k => meth_swap k b _ w hh
 go_wp2_with fail
 refine (iswap_calls g (n + 1) cap 0 n xs[0] xs[n] w (by omega) (by omega) (HG.out.cell hn0) (HG.out.cell hnn) HG.out.free).mono ?_
 rintro r w2 ⟨rfl, q, rfl⟩
 obtain ⟨hp2, hc2⟩ := HG.out.swap hn0 hnn q
 generalize ((w.setCell ⟨g, 0, none⟩ (.int .i64 xs[n])).setCell ⟨g, n, none⟩ (.int .i64 xs[0])).drewN q = w2 at *
 have HP2 := hI hp2
 have HC2 := hI hc2
 have HY2 := hI (show ((xs.set 0 xs[n]).set n xs[0]).Perm xs from List.set_set_perm hn0 hnn)
 have HL2 := hI (show n + 1 = ((xs.set 0 xs[n]).set n xs[0]).length by simp; exact HN.out)
 generalize (xs.set 0 xs[n]).set n xs[0] = ys at *
 clear hp2 hc2 ha hm hh
 go_wp2_with fail
 refine (down_calls B b g cap ys w2 HP2.out n HL2.out (by omega)).mono ?_
 rintro r w3 ⟨⟨u, rfl⟩, zs, hzy, _, hp3, hc3⟩
 have HP3 := hI hp3
 have HC3 := hI hc3
 have HZY := hI hzy
 have HL3 := hI (show zs.length = n + 1 by rw [hzy.length_eq]; exact HL2.out.symm)
 have ha := fun n => ahead_pop n b
 have hm := fun n W => meth_pop n b W
 clear hp3 hc3 hzy
 go_wp2_with fail
 refine (ipop_calls B b g cap zs _ HP3.out (by rw [HL3.out]; omega)).mono ?_
 rintro r w4 ⟨z, v', us, rfl, ⟨hla, rfl⟩, hp4, hc4, hw4⟩
 have HP4 := hI hp4
 have HC4 := hI hc4
 have HW4 := hI hw4
 have HLA := hI hla
 clear hp4 hc4 hw4 hla ha hm
 go_wp2_with fail
 go_ret
 refine ⟨z, v', _, rfl, ?_, HP4.out, ?_, fun k hk => ?_⟩
 ·refine (HY2.out.symm.trans HZY.out.symm).trans ?_
  have e : zs.dropLast ++ [z] = zs := by
   have := HLA.out
   rw [List.getLast?_eq_some_iff] at this
   obtain ⟨us, rfl⟩ := this
   simp
  exact (List.Perm.of_eq e.symm).trans (List.perm_append_singleton _ _)
 ·refine ((Chg.trans (Chg.trans (Chg.refl _ _) HC2.out ?_) HC3.out ?_).trans HC4.out ?_)
  ·intro x hx; exact Or.inl (by simp at hx; subst hx; simp [rowOf, Value.ownBlock])
  ·intro x hx; exact Or.inl (by simp at hx; subst hx; simp [rowOf, Value.ownBlock])
  intro x hx; exact Or.inl (by simpa [rowOf, Value.ownBlock] using hx)
 rcases HW4.out k hk with e | e
 ·exact Or.inl e
 have := HC2.out.size
 have := HC3.out.size
 exact Or.inr (by omega)
open Go.RowKit Go.Maps
def strF (g : BA -> Option Value) : Lit -> Option Value
 | .string bs => g ⟨bs.toArray⟩
 | _ => none
def intF (g : Nat -> Option Value) : Lit -> Option Value
 | .int .i64 z => if 0 <= z then g z.toNat else none
 | _ => none
theorem strF_at (g : BA -> Option Value) (s : BA) : strF g (.string s.data.toList) = g s := rfl
theorem intF_at (g : Nat -> Option Value) (i : Nat) : intF g (.int .i64 i) = g i := by simp [intF]
open Classical in
noncomputable def upS {α : Type} (g : BA -> α) (s : BA) (v : α) : BA -> α := fun t => if t = s then v else g t
theorem upS_same {α : Type} (g : BA -> α) (s : BA) (v : α) : upS g s v s = v := by simp [upS]
theorem upS_other {α : Type} (g : BA -> α) {s t : BA} (v : α) (h : t ≠ s) : upS g s v t = g t := by simp [upS, h]
def upN {α : Type} (g : Nat -> α) (s : Nat) (v : α) : Nat -> α := fun t => if t = s then v else g t
theorem upN_same {α : Type} (g : Nat -> α) (s : Nat) (v : α) : upN g s v s = v := by simp [upN]
theorem upN_other {α : Type} (g : Nat -> α) {s t : Nat} (v : α) (h : t ≠ s) : upN g s v t = g t := by simp [upN, h]
theorem setF_str (g : BA -> Option Value) (s : BA) (v : Option Value) (x : Lit) : setF (strF g) (.string s.data.toList) v x = strF (upS g s v) x := by
 by_cases e : x = .string s.data.toList
 ·subst e
  rw [setF_same, strF_at, upS_same]
 rw [setF_other _ _ e]
 cases x <;> try rfl
 rename_i bs
 simp only [strF]
 rw [upS_other]
 intro h
 apply e
 rw [<- h]
theorem setF_int (g : Nat -> Option Value) (i : Nat) (v : Option Value) (x : Lit) : setF (intF g) (.int .i64 i) v x = intF (upN g i v) x := by
 by_cases e : x = .int .i64 i
 ·subst e
  rw [setF_same, intF_at, upN_same]
 rw [setF_other _ _ e]
 cases x <;> try rfl
 rename_i k z
 cases k <;> try rfl
 simp only [intF]
 by_cases h0 : 0 <= z
 ·rw [if_pos h0, if_pos h0, upN_other]
  intro h
  apply e
  congr 1
  omega
 rw [if_neg h0, if_neg h0]
inductive Role where
 | none | first | users | miss | pile | prow | urow (s : BA) | mset (i : Nat) | out
structure St where
 ρ : Nat -> Role
 mb : Nat -> Nat
 uv : BA -> Option Value
 U : BA -> ZN
 D : Nat -> Prop
 S : Nat -> Prop
 M : Nat -> BA -> Prop
 pv : Value
 R : ZI
 vo : Value
 O : ZN
open Classical in
noncomputable def memF (M : BA -> Prop) : BA -> Option Value := fun s => if M s then some (.agg #[]) else none
open Classical in
noncomputable def missF (D : Nat -> Prop) (mb : Nat -> Nat) : Nat -> Option Value := fun i => if D i then some (.map (some (mb i))) else none
def firstF (l : List Dfn) : BA -> Option Value := fun s => (firstAt l s).map fun (d : Nat) => Value.int .i64 (d : Int)
def natVs (l : ZN) : List Value := l.map fun (i : Nat) => Value.int .i64 (i : Int)
structure OB (w0 : World) (l : List Dfn) (bf bu bm bp t : Nat) (s : St) (w : World) : Prop where
 ext : Ext w0 w
 fresh : ∀ k, w.heap.size <= k -> s.ρ k = .none
 old : ∀ k, k < w0.heap.size -> s.ρ k = .none
 rf : s.ρ bf = .first
 hf : MapAt w 9 bf t (strF (firstF l))
 ru : s.ρ bu = .users
 hu : MapAt w 9 bu t (strF s.uv)
 rows : ∀ x v, s.uv x = some v -> w.ownsRow w0.heap.size 3 1 v (s.U x).length (natVs (s.U x)) /\ ∀ g, v.ownBlock = some g -> s.ρ g = .urow x
 rown : ∀ x, s.uv x = none -> s.U x = []
 rm : s.ρ bm = .miss
 hm : MapAt w 3 bm t (intF (missF s.D s.mb))
 dom : ∀ i, s.D i -> s.S i
 sets : ∀ i, s.S i -> s.ρ (s.mb i) = .mset i /\ MapAt w 9 (s.mb i) t (strF (memF (s.M i)))
 rp : s.ρ bp = .pile
 hp : PileV w0.heap.size bp s.pv s.R w
 rpv : ∀ g, s.pv.ownBlock = some g -> s.ρ g = .prow
 hv : w.ownsRow w0.heap.size 3 1 s.vo s.O.length (natVs s.O)
 rv : ∀ g, s.vo.ownBlock = some g -> s.ρ g = .out
section
variable {w0 : World} {l : List Dfn} {bf bu bm bp t : Nat} {s : St} {w w' : World}
theorem OB.chg (h : OB w0 l bf bu bm bp t s w) {N : ZN} (hc : Chg N w w') (hN : ∀ k ∈ N, s.ρ k = .none) (hN0 : ∀ k ∈ N, w0.heap.size <= k) : OB w0 l bf bu bm bp t s w' := by
 have nn : ∀ k r, s.ρ k = r -> r ≠ .none -> k ∉ N := fun k r h1 h2 h3 => h2 (by rw [<- h1]; exact hN k h3)
 exact { h with
  ext := hc.ext h.ext hN0
  fresh := fun k hk => h.fresh k (Nat.le_trans hc.size hk)
  hf := h.hf.chg hc (nn _ _ h.rf (by simp))
  hu := h.hu.chg hc (nn _ _ h.ru (by simp))
  rows := fun x v hv => ⟨owns_chg (h.rows x v hv).1 hc fun g hg => nn _ _ ((h.rows x v hv).2 g hg) (by simp), (h.rows x v hv).2⟩
  hm := h.hm.chg hc (nn _ _ h.rm (by simp))
  sets := fun i hi => ⟨(h.sets i hi).1, (h.sets i hi).2.chg hc (nn _ _ (h.sets i hi).1 (by simp))⟩
  hp := h.hp.chg hc (nn _ _ h.rp (by simp)) fun g hg => nn _ _ (h.rpv g hg) (by simp)
  hv := owns_chg h.hv hc fun g hg => nn _ _ (h.rv g hg) (by simp) }
theorem OB.extd (h : OB w0 l bf bu bm bp t s w) (hx : Ext w w') : OB w0 l bf bu bm bp t s w' := h.chg (hx.chg []) (by simp) (by simp)
theorem OB.more (h : OB w0 l bf bu bm bp t s w) {t' : Nat} (ht : t <= t') : OB w0 l bf bu bm bp t' s w :=
 {h with hf := h.hf.more ht, hu := h.hu.more ht, hm := h.hm.more ht, sets := fun i hi => ⟨(h.sets i hi).1, (h.sets i hi).2.more ht⟩ }
theorem OB.base (h : OB w0 l bf bu bm bp t s w) {k : Nat} {r : Role} (hk : s.ρ k = r) (hr : r ≠ .none) : w0.heap.size <= k := by
 rcases Nat.lt_or_ge k w0.heap.size with h' | h'
 ·exact absurd (hk.symm.trans (h.old k h')) hr
 exact h'
theorem apart {ρ : Nat -> Role} {a b : Nat} {r q : Role} (ha : ρ a = r) (hb : ρ b = q) (h : r ≠ q) : a ∉ [b] := by
 intro hm
 simp only [List.mem_singleton] at hm
 subst hm
 exact h (ha.symm.trans hb)
def St.newSet (s : St) (i b : Nat) : St := { s with ρ := upN s.ρ b (.mset i), mb := upN s.mb i b, S := fun j => j = i \/ s.S j, M := upN s.M i fun _ => False }
theorem missF_congr {D : Nat -> Prop} {mb mb' : Nat -> Nat} (h2 : ∀ i, D i -> mb i = mb' i) : missF D mb = missF D mb' := by
 funext i
 unfold missF
 by_cases hd : D i
 ·rw [if_pos hd, if_pos hd, h2 i hd]
 rw [if_neg hd, if_neg hd]
theorem memF_false (s : BA) : memF (fun _ => False) s = none := by simp [memF]
theorem OB.newSet (h : OB w0 l bf bu bm bp t s w) {i : Nat} (hi : ¬ s.S i) : OB w0 l bf bu bm bp t (s.newSet i w.heap.size) (w.alloc (.map #[] 0)) := by
 have h' := h.extd ((Ext.refl w).alloc (.map #[] 0))
 have ne : ∀ k r, s.ρ k = r -> r ≠ .none -> upN s.ρ w.heap.size (.mset i) k = r := fun k r h1 h2 => by
  rw [upN_other _ _ (fun e => h2 (by rw [<- h1, e]; exact h.fresh _ (Nat.le_refl _)))]; exact h1
 exact { h' with
  fresh := fun k hk => by
   simp at hk
   show upN s.ρ w.heap.size (.mset i) k = .none
   rw [upN_other _ _ (by omega)]; exact h.fresh k (by omega)
  old := fun k hk => by
   show upN s.ρ w.heap.size (.mset i) k = .none
   rw [upN_other _ _ (by have := h.ext.size; omega)]; exact h.old k hk
  rf := ne _ _ h.rf (by simp)
  ru := ne _ _ h.ru (by simp)
  rows := fun x v hv => ⟨(h'.rows x v hv).1, fun g hg => ne _ _ ((h'.rows x v hv).2 g hg) (by simp)⟩
  rm := ne _ _ h.rm (by simp)
  hm := by
   have e : missF s.D (upN s.mb i w.heap.size) = missF s.D s.mb := missF_congr fun j hj => upN_other _ _ fun e => hi (by rw [<- e]; exact h.dom j hj)
   show MapAt _ _ _ _ (intF (missF s.D (upN s.mb i w.heap.size)))
   rw [e]; exact h'.hm
  dom := fun j hj => Or.inr (h.dom j hj)
  sets := fun j hj => by
   by_cases e : j = i
   ·subst e
    refine ⟨?_, ?_⟩
    ·show upN s.ρ w.heap.size (.mset j) (upN s.mb j w.heap.size j) = _
     rw [upN_same, upN_same]
    show MapAt _ _ (upN s.mb j w.heap.size j) _ (strF (memF (upN s.M j (fun _ => False) j)))
    rw [upN_same, upN_same]
    refine ((MapAt.made w _).more (Nat.zero_le t)).congr fun x => ?_
    cases x <;> simp [strF, memF_false]
   have hj' : s.S j := hj.resolve_left e
   refine ⟨?_, ?_⟩
   ·show upN s.ρ w.heap.size (.mset i) (upN s.mb i w.heap.size j) = _
    rw [upN_other s.mb _ e]
    exact ne _ _ (h.sets j hj').1 (by simp)
   show MapAt _ _ (upN s.mb i w.heap.size j) _ (strF (memF (upN s.M i (fun _ => False) j)))
   rw [upN_other _ _ e, upN_other _ _ e]
   exact (h'.sets j hj').2
  rp := ne _ _ h.rp (by simp)
  rpv := fun g hg => ne _ _ (h.rpv g hg) (by simp)
  rv := fun g hg => ne _ _ (h.rv g hg) (by simp) }
def St.setM (s : St) (i : Nat) (m : BA -> Prop) : St := { s with M := upN s.M i m }
theorem OB.setM (h : OB w0 l bf bu bm bp t s w) {i : Nat} (hi : s.S i) {m : BA -> Prop} (hc : Chg [s.mb i] w w') (hm : MapAt w' 9 (s.mb i) t (strF (memF m))) : OB w0 l bf bu bm bp t (s.setM i m) w' := by
 have hr := (h.sets i hi).1
 exact { h with
  ext := hc.ext h.ext (fun k hk => by simp only [List.mem_singleton] at hk; subst hk; exact h.base hr (by simp))
  fresh := fun k hk => h.fresh k (Nat.le_trans hc.size hk)
  hf := h.hf.chg hc (apart h.rf hr (by simp))
  hu := h.hu.chg hc (apart h.ru hr (by simp))
  rows := fun x v hv => ⟨owns_chg (h.rows x v hv).1 hc fun g hg => apart ((h.rows x v hv).2 g hg) hr (by simp), (h.rows x v hv).2⟩
  hm := h.hm.chg hc (apart h.rm hr (by simp))
  sets := fun j hj => by
   by_cases e : j = i
   ·subst e
    refine ⟨hr, ?_⟩
    show MapAt _ _ _ _ (strF (memF (upN s.M j m j)))
    rw [upN_same]; exact hm
   refine ⟨(h.sets j hj).1, ?_⟩
   show MapAt _ _ _ _ (strF (memF (upN s.M i m j)))
   rw [upN_other _ _ e]
   exact (h.sets j hj).2.chg hc (apart (h.sets j hj).1 hr (by simpa using e))
  hp := h.hp.chg hc (apart h.rp hr (by simp)) fun g hg => apart (h.rpv g hg) hr (by simp)
  hv := owns_chg h.hv hc fun g hg => apart (h.rv g hg) hr (by simp) }
def St.setD (s : St) (i : Nat) : St := { s with D := fun j => j = i \/ s.D j }
theorem OB.setD (h : OB w0 l bf bu bm bp t s w) {i : Nat} (hi : s.S i) (hc : Chg [bm] w w') (hm : MapAt w' 3 bm (t + 1) (intF (upN (missF s.D s.mb) i (some (.map (some (s.mb i))))))) : OB w0 l bf bu bm bp (t + 1) (s.setD i) w' := by
 have hr := h.rm
 have h1 := h.more (Nat.le_succ t)
 exact { h1 with
  ext := hc.ext h.ext (fun k hk => by simp only [List.mem_singleton] at hk; subst hk; exact h.base hr (by simp))
  fresh := fun k hk => h.fresh k (Nat.le_trans hc.size hk)
  hf := h1.hf.chg hc (apart h.rf hr (by simp))
  hu := h1.hu.chg hc (apart h.ru hr (by simp))
  rows := fun x v hv => ⟨owns_chg (h.rows x v hv).1 hc fun g hg => apart ((h.rows x v hv).2 g hg) hr (by simp), (h.rows x v hv).2⟩
  hm := by
   refine hm.congr fun x => ?_
   have e : upN (missF s.D s.mb) i (some (.map (some (s.mb i)))) = missF (fun j => j = i \/ s.D j) s.mb := by
    funext j
    by_cases e : j = i
    ·subst e; rw [upN_same]; simp [missF]
    rw [upN_other _ _ e]
    by_cases hd : s.D j <;> simp [missF, e, hd]
   show _ = intF (missF (fun j => j = i \/ s.D j) s.mb) x
   rw [e]
  dom := fun j hj => by
   rcases hj with rfl | hj
   ·exact hi
   exact h.dom j hj
  sets := fun j hj => ⟨(h1.sets j hj).1, (h1.sets j hj).2.chg hc (apart (h.sets j hj).1 hr (by simp))⟩
  hp := h.hp.chg hc (apart h.rp hr (by simp)) fun g hg => apart (h.rpv g hg) hr (by simp)
  hv := owns_chg h.hv hc fun g hg => apart (h.rv g hg) hr (by simp) }
theorem apart2 {ρ : Nat -> Role} {a b : Nat} {v : Value} {r q q' : Role} (ha : ρ a = r) (hb : ρ b = q) (hv : ∀ g, v.ownBlock = some g -> ρ g = q') (h : r ≠ q) (h' : r ≠ q') : a ∉ b :: rowOf v := by
 intro hm
 rcases List.mem_cons.1 hm with rfl | hm
 ·exact h (ha.symm.trans hb)
 exact h' (ha.symm.trans (hv a (mem_rowOf.1 hm)))
def rerole (ρ : Nat -> Role) (v : Value) (r : Role) : Nat -> Role := fun k => match v.ownBlock with | some g => if k = g then r else ρ k | none => ρ k
theorem rerole_own (ρ : Nat -> Role) {v : Value} {r : Role} {g : Nat} (h : v.ownBlock = some g) : rerole ρ v r g = r := by simp [rerole, h]
theorem rerole_other (ρ : Nat -> Role) {v : Value} {r : Role} {k : Nat} (h : ∀ g, v.ownBlock = some g -> k ≠ g) : rerole ρ v r k = ρ k := by
 unfold rerole
 cases hv : v.ownBlock with
 | none => rfl
 | some g => simp [h g hv]
theorem rerole_keep {ρ : Nat -> Role} {v v' : Value} {r q : Role} {n k : Nat} (hk : ρ k = q) (hq : q ≠ r) (hq0 : q ≠ .none) (hv : ∀ g, v.ownBlock = some g -> ρ g = r) (hfresh : ∀ k, n <= k -> ρ k = .none) (hw : ∀ g, v'.ownBlock = some g -> v.ownBlock = some g \/ n <= g) : rerole ρ v' r k = q := by
 rw [rerole_other, hk]
 intro g hg e
 subst e
 rcases hw k hg with h | h
 ·exact hq (hk.symm.trans (hv k h))
 exact hq0 (hk.symm.trans (hfresh k h))
def St.setP (s : St) (pv : Value) (R : ZI) : St := { s with ρ := rerole s.ρ pv .prow, pv := pv, R := R }
theorem OB.setP (h : OB w0 l bf bu bm bp t s w) {pv : Value} {R : ZI} (hp : PileV w0.heap.size bp pv R w') (hc : Chg (bp :: rowOf s.pv) w w') (hw : ∀ k, pv.ownBlock = some k -> s.pv.ownBlock = some k \/ w.heap.size <= k) : OB w0 l bf bu bm bp t (s.setP pv R) w' := by
 have kp : ∀ {k q}, s.ρ k = q -> q ≠ .prow -> q ≠ .none -> rerole s.ρ pv .prow k = q := fun hk h1 h2 => rerole_keep hk h1 h2 h.rpv h.fresh hw
 have hlt : ∀ g, pv.ownBlock = some g -> w0.heap.size <= g /\ g < w'.heap.size := fun g hg => hp.own.lt g hg
 exact { h with
  ext := hc.ext h.ext (fun k hk => by
   rcases List.mem_cons.1 hk with rfl | hk
   ·exact h.base h.rp (by simp)
   exact h.base (h.rpv k (mem_rowOf.1 hk)) (by simp))
  fresh := fun k hk => by
   show rerole s.ρ pv .prow k = .none
   rw [rerole_other _ (fun g hg => by have := (hlt g hg).2; omega)]
   exact h.fresh k (Nat.le_trans hc.size hk)
  old := fun k hk => by
   show rerole s.ρ pv .prow k = .none
   rw [rerole_other _ (fun g hg => by have := (hlt g hg).1; omega)]
   exact h.old k hk
  rf := kp h.rf (by simp) (by simp)
  hf := h.hf.chg hc (apart2 h.rf h.rp h.rpv (by simp) (by simp))
  ru := kp h.ru (by simp) (by simp)
  hu := h.hu.chg hc (apart2 h.ru h.rp h.rpv (by simp) (by simp))
  rows := fun x v hv => ⟨owns_chg (h.rows x v hv).1 hc fun g hg => apart2 ((h.rows x v hv).2 g hg) h.rp h.rpv (by simp) (by simp), fun g hg => kp ((h.rows x v hv).2 g hg) (by simp) (by simp)⟩
  rm := kp h.rm (by simp) (by simp)
  hm := h.hm.chg hc (apart2 h.rm h.rp h.rpv (by simp) (by simp))
  sets := fun j hj => ⟨kp (h.sets j hj).1 (by simp) (by simp), (h.sets j hj).2.chg hc (apart2 (h.sets j hj).1 h.rp h.rpv (by simp) (by simp))⟩
  rp := kp h.rp (by simp) (by simp)
  hp := hp
  rpv := fun g hg => rerole_own _ hg
  hv := owns_chg h.hv hc fun g hg => apart2 (h.rv g hg) h.rp h.rpv (by simp) (by simp)
  rv := fun g hg => kp (h.rv g hg) (by simp) (by simp) }
theorem apartV {ρ : Nat -> Role} {a : Nat} {v : Value} {r q : Role} (ha : ρ a = r) (hv : ∀ g, v.ownBlock = some g -> ρ g = q) (h : r ≠ q) : a ∉ rowOf v := fun hm => h (ha.symm.trans (hv a (mem_rowOf.1 hm)))
def St.setO (s : St) (vo : Value) (O : ZN) : St := { s with ρ := rerole s.ρ vo .out, vo := vo, O := O }
theorem OB.setO (h : OB w0 l bf bu bm bp t s w) {vo : Value} {O : ZN} (hv : w'.ownsRow w0.heap.size 3 1 vo O.length (natVs O)) (hc : Chg (rowOf s.vo) w w') (hw : ∀ k, vo.ownBlock = some k -> s.vo.ownBlock = some k \/ w.heap.size <= k) : OB w0 l bf bu bm bp t (s.setO vo O) w' := by
 have kp : ∀ {k q}, s.ρ k = q -> q ≠ .out -> q ≠ .none -> rerole s.ρ vo .out k = q := fun hk h1 h2 => rerole_keep hk h1 h2 h.rv h.fresh hw
 have hlt : ∀ g, vo.ownBlock = some g -> w0.heap.size <= g /\ g < w'.heap.size := fun g hg => hv.lt g hg
 exact { h with
  ext := hc.ext h.ext (fun k hk => h.base (h.rv k (mem_rowOf.1 hk)) (by simp))
  fresh := fun k hk => by
   show rerole s.ρ vo .out k = .none
   rw [rerole_other _ (fun g hg => by have := (hlt g hg).2; omega)]
   exact h.fresh k (Nat.le_trans hc.size hk)
  old := fun k hk => by
   show rerole s.ρ vo .out k = .none
   rw [rerole_other _ (fun g hg => by have := (hlt g hg).1; omega)]
   exact h.old k hk
  rf := kp h.rf (by simp) (by simp)
  hf := h.hf.chg hc (apartV h.rf h.rv (by simp))
  ru := kp h.ru (by simp) (by simp)
  hu := h.hu.chg hc (apartV h.ru h.rv (by simp))
  rows := fun x v hv' => ⟨owns_chg (h.rows x v hv').1 hc fun g hg => apartV ((h.rows x v hv').2 g hg) h.rv (by simp), fun g hg => kp ((h.rows x v hv').2 g hg) (by simp) (by simp)⟩
  rm := kp h.rm (by simp) (by simp)
  hm := h.hm.chg hc (apartV h.rm h.rv (by simp))
  sets := fun j hj => ⟨kp (h.sets j hj).1 (by simp) (by simp), (h.sets j hj).2.chg hc (apartV (h.sets j hj).1 h.rv (by simp))⟩
  rp := kp h.rp (by simp) (by simp)
  hp := h.hp.chg hc (apartV h.rp h.rv (by simp)) fun g hg => apartV (h.rpv g hg) h.rv (by simp)
  rpv := fun g hg => kp (h.rpv g hg) (by simp) (by simp)
  hv := hv
  rv := fun g hg => rerole_own _ hg }
noncomputable def St.setU (s : St) (x : BA) (v : Value) (u : ZN) : St := { s with ρ := rerole s.ρ v (.urow x), uv := upS s.uv x (some v), U := upS s.U x u }
def rowV (s : St) (x : BA) : Value := (s.uv x).getD (.slice none 0 0)
theorem OB.rowV_role (h : OB w0 l bf bu bm bp t s w) (x : BA) : ∀ g, (rowV s x).ownBlock = some g -> s.ρ g = .urow x := by
 intro g hg
 unfold rowV at hg
 cases hu : s.uv x with
 | none => rw [hu] at hg; simp [Value.ownBlock] at hg
 | some v => rw [hu] at hg; exact (h.rows x v hu).2 g hg
theorem OB.rowV_own (h : OB w0 l bf bu bm bp t s w) (x : BA) : w.ownsRow w0.heap.size 3 1 (rowV s x) (s.U x).length (natVs (s.U x)) := by
 unfold rowV
 cases hu : s.uv x with
 | none => rw [h.rown x hu]; exact World.ownsRow_nil _ _ _ _
 | some v => exact (h.rows x v hu).1
theorem OB.setU (h : OB w0 l bf bu bm bp t s w) {x : BA} {v : Value} {u : ZN} {w1 : World} (hv : w1.ownsRow w0.heap.size 3 1 v u.length (natVs u)) (hc : Chg (rowOf (rowV s x)) w w1) (hw : ∀ k, v.ownBlock = some k -> (rowV s x).ownBlock = some k \/ w.heap.size <= k)
  (hc2 : Chg [bu] w1 w') (hm : MapAt w' 9 bu (t + 1) (strF (upS s.uv x (some v)))) : OB w0 l bf bu bm bp (t + 1) (s.setU x v u) w' := by
 have hR := h.rowV_role x
 have kp : ∀ {k q}, s.ρ k = q -> q ≠ .urow x -> q ≠ .none -> rerole s.ρ v (.urow x) k = q := fun hk h1 h2 => rerole_keep hk h1 h2 hR h.fresh hw
 have hlt : ∀ g, v.ownBlock = some g -> w0.heap.size <= g /\ g < w1.heap.size := fun g hg => hv.lt g hg
 have hbu : ∀ g, v.ownBlock = some g -> g ∉ [bu] := fun g hg hm => by
  simp only [List.mem_singleton] at hm
  subst hm
  rcases hw g hg with h1 | h1
  ·exact absurd (h.ru.symm.trans (hR g h1)) (by simp)
  exact absurd (h.ru.symm.trans (h.fresh g h1)) (by simp)
 have hcc : Chg (bu :: rowOf (rowV s x)) w w' := Chg.trans (Chg.trans (Chg.refl _ _) hc (fun k hk => Or.inl (List.mem_cons_of_mem _ hk))) hc2 (fun k hk => Or.inl (by simp only [List.mem_singleton] at hk; simp [hk]))
 have h1 := h.more (Nat.le_succ t)
 exact { h1 with
  ext := hcc.ext h.ext (fun k hk => by
   rcases List.mem_cons.1 hk with rfl | hk
   ·exact h.base h.ru (by simp)
   exact h.base (hR k (mem_rowOf.1 hk)) (by simp))
  fresh := fun k hk => by
   show rerole s.ρ v (.urow x) k = .none
   have := hc2.size
   rw [rerole_other _ (fun g hg => by have := (hlt g hg).2; omega)]
   exact h.fresh k (Nat.le_trans hcc.size hk)
  old := fun k hk => by
   show rerole s.ρ v (.urow x) k = .none
   rw [rerole_other _ (fun g hg => by have := (hlt g hg).1; omega)]
   exact h.old k hk
  rf := kp h.rf (by simp) (by simp)
  hf := h1.hf.chg hcc (apart2 h.rf h.ru hR (by simp) (by simp))
  ru := kp h.ru (by simp) (by simp)
  hu := hm
  rows := fun y u' hy => by
   by_cases e : y = x
   ·subst e
    have e1 : upS s.uv y (some v) y = some v := upS_same _ _ _
    have e2 : some v = some u' := e1.symm.trans hy
    cases e2
    refine ⟨?_, fun g hg => rerole_own _ hg⟩
    show World.ownsRow _ _ _ _ _ (upS s.U y u y).length (natVs (upS s.U y u y))
    rw [upS_same]
    exact owns_chg hv hc2 hbu
   have e1 : s.uv y = some u' := (upS_other s.uv (some v) e).symm.trans hy
   obtain ⟨r1, r2⟩ := h.rows y u' e1
   refine ⟨?_, fun g hg => kp (r2 g hg) (by simpa using e) (by simp)⟩
   show World.ownsRow _ _ _ _ _ (upS s.U x u y).length (natVs (upS s.U x u y))
   rw [upS_other _ _ e]
   exact owns_chg r1 hcc fun g hg => apart2 (r2 g hg) h.ru hR (by simp) (by simpa using e)
  rown := fun y hy => by
   by_cases e : y = x
   ·subst e
    have e1 : upS s.uv y (some v) y = some v := upS_same _ _ _
    have e2 : some v = none := e1.symm.trans hy
    cases e2
   have e1 : s.uv y = none := (upS_other s.uv (some v) e).symm.trans hy
   show upS s.U x u y = []
   rw [upS_other _ _ e]
   exact h.rown y e1
  rm := kp h.rm (by simp) (by simp)
  hm := h1.hm.chg hcc (apart2 h.rm h.ru hR (by simp) (by simp))
  sets := fun j hj => ⟨kp (h.sets j hj).1 (by simp) (by simp), (h1.sets j hj).2.chg hcc (apart2 (h.sets j hj).1 h.ru hR (by simp) (by simp))⟩
  rp := kp h.rp (by simp) (by simp)
  hp := h.hp.chg hcc (apart2 h.rp h.ru hR (by simp) (by simp)) fun g hg => apart2 (h.rpv g hg) h.ru hR (by simp) (by simp)
  rpv := fun g hg => kp (h.rpv g hg) (by simp) (by simp)
  hv := owns_chg h.hv hcc fun g hg => apart2 (h.rv g hg) h.ru hR (by simp) (by simp)
  rv := fun g hg => kp (h.rv g hg) (by simp) (by simp) }
end
theorem uStr2 : Tryz.prog.underlying 9 = some .string := by kernel_rfl
theorem keyedStr : Keyed Tryz.prog 9 := string_keyed uStr2
theorem uSet : Tryz.prog.underlying 136 = some (.map 9 137) := by kernel_rfl
def SetAt (w : World) (b n : Nat) (l : ZB) : Prop := ∃ D : DataW Unit, w.ownsMap Tryz.prog 9 unitElem b n D /\ SetIs D l
theorem SetAt.chg {w w' : World} {b n : Nat} {l : ZB} {N : ZN} (h : SetAt w b n l) (hc : Chg N w w') (hn : b ∉ N) : SetAt w' b n l := by
 obtain ⟨D, ⟨es, clock, hb, r⟩, hs⟩ := h
 exact ⟨D, ⟨es, clock, hc.blk hb hn, r⟩, hs⟩
theorem SetAt.lt {w : World} {b n : Nat} {l : ZB} (h : SetAt w b n l) : b < w.heap.size := by
 obtain ⟨D, h, _⟩ := h
 exact h.lt
theorem SetAt.mono {w : World} {b n n' : Nat} {l : ZB} (h : SetAt w b n l) (hn : n <= n') : SetAt w b n' l := by
 obtain ⟨D, h, hs⟩ := h
 exact ⟨D, h.mono hn, hs⟩
def CollectQ (b n : Nat) (l : ZB) (w : World) (e : Ending) (w' : World) : Prop := e = .returned (.tuple #[]) /\ SetAt w' b n l /\ Chg [b] w w'
theorem Chg.put_map {w w' : World} {b : Nat} (h : w.grownBy w' (some b)) : Chg [b] w w' := ⟨h.os, h.tape, h.output, h.size, fun k hk hn => h.block k hk (fun e => hn (by simp at e; simp [e]))⟩
theorem mask_in2 {w : World} {M : ZN} {p : Addr} {v : Value} (h : (mask w M).cell? p = some v) : w.cell? p = some v := by
 rw [mask_cell] at h
 split at h
 ·cases h
 exact h
theorem fitsAll_mem : (l : List Ex) -> fitsAll l -> ∀ x ∈ l, x.fits
 | [], _, x, hx => by simp at hx
 | a :: r, h, x, hx => by
  unfold fitsAll at h
  rcases List.mem_cons.1 hx with rfl | hx
  ·exact h.1
  exact fitsAll_mem r h.2 x hx
theorem fits_parts2 {e : Ex} (h : e.fits) : e.name.size <= 1000000000000000 /\ ∀ x ∈ e.args, x.fits := by
 cases e
 unfold Ex.fits at h
 exact ⟨h.1, fitsAll_mem _ h.2.2⟩
theorem collect_calls (m : Nat) : m <= 1000000 -> ∀ (e : Ex) (v : Value) (w : World) (b n : Nat) (l : ZB), e.size <= m -> e.fits -> IsEx (mask w [b]) e v -> SetAt w b n l -> n + e.size <= 1000000 ->
  Calls Tryz.prog 114 #[v, .map (some b)] w (CollectQ b (n + e.size) (l ++ namesE e) w) := by
 induction m with
 | zero => intro _ e v w b n l h; have := size_pos e; omega
 | succ m ih =>
  intro hMM e v w b n l hm hfit he hset hn
  obtain ⟨aw, nw, cw, aa, na, ca, rfl, hw, hna, hca, ha, hx⟩ := he.parts
  have hS : e.size = 1 + sizes e.args := e.size_eq
  have hla := length_le_sizes e.args
  obtain ⟨hnm, hfa⟩ := fits_parts2 hfit
  have HFA := hI hfa
  have hbw := hset.lt
  have HX := hI ((Ext.refl w).alloc (.cells #[.int .i64 e.op, .string e.name, .slice aw nw cw, .int .i64 e.lo, .int .i64 e.hi, .slice aa na ca] 26))
  have HBX := hI (alloc_new w (.cells #[.int .i64 e.op, .string e.name, .slice aw nw cw, .int .i64 e.lo, .int .i64 e.hi, .slice aa na ca] 26))
  have HXS := hI (ExsD.mono (mask_ext [b] HX.out) e.args aa hx)
  have HSET := hI (hset.chg (HX.out.chg []) (by simp))
  have HNA := hI hna
  have HNM := hI (namesE_eq e)
  have HSZ := hI hS
  have IH := hI (ih (by omega))
  have hna2 : na <= 1000000 := by omega
  have hsz : sizes e.args <= m := by omega
  have hn2 : n + 1 + sizes e.args <= 1000000 := by omega
  clear hw hna hca ha hx he hset hS hla hfit hfa ih hm hn
  generalize namesE e = NE at *
  generalize e.size = SE at *
  unfold exV
  go_enter Tryz.func114, Tryz.ntmps114
  go_upto_region 1 with fail
  generalize w.alloc (.cells #[.int .i64 e.op, .string e.name, .slice aw nw cw, .int .i64 e.lo, .int .i64 e.hi, .slice aa na ca] 26) = wb at *
  have hz0 := HX.out.size
  obtain ⟨b0, b1, b2, b3, b4, b5, bf⟩ := blk6 HBX.out
  have hlx := blk_lt HBX.out
  by_cases h3 : e.op = 3
  case' pos =>
   have t3 : (e.op == 3) = true := by simp [h3]
   obtain ⟨D, hown, hsi⟩ := HSET.out
   have HOW := hI hown
   have HNE := hI (show NE = [e.name] ++ namesL e.args by rw [HNM.out, if_pos h3])
   have HSI := hI (hsi.put e.name (.agg []))
   clear hown hsi h3
   go_wp2_with (at_mapUpdate; refine wpList_mapUpdate_own _ rfl _ _ _ 136 rfl 9 137 keyedStr uSet (unitElem (H := Unit)) b n D rfl HOW.out ?c0 _ _ _ rfl rfl (Go.WideMaps.keyOf_string_mk uStr2 ?c1) _ [] unitElem_mk ?_)
   case c0 => unfold maxLen; omega
   case c1 => unfold maxLen; omega
   intro w1 hown1 hgrow1
   have hc1 := Chg.put_map hgrow1
   have HC1 := hI hc1
   obtain ⟨L, hL⟩ : ∃ L, L = l ++ [e.name] := ⟨_, rfl⟩
   have HS1 := hI (show SetAt w1 b (n + 1) L by rw [hL]; exact ⟨_, hown1, HSI.out⟩)
   have HB1 := hI (hc1.blk HBX.out (by simp; omega))
   have HNE1 := hI (show L ++ namesL e.args = l ++ NE by rw [hL, HNE.out, List.append_assoc])
   have hz1 := hc1.size
   clear hown1 hgrow1 hc1 HOW HSI HNE hL b0 b1 b2 b3 b4 b5 bf hlx
   go_upto_region 3 with fail
  case' neg =>
   have t3 : (e.op == 3) = false := by simp [h3]
   have HNE := hI (show NE = namesL e.args by rw [HNM.out, if_neg h3]; simp)
   have HC1 := hI (Chg.refl [b] wb)
   obtain ⟨L, hL⟩ : ∃ L, L = l := ⟨_, rfl⟩
   have HS1 := hI (show SetAt wb b (n + 1) L by rw [hL]; exact HSET.out.mono (Nat.le_succ n))
   have HB1 := HBX
   have HNE1 := hI (show L ++ namesL e.args = l ++ NE by rw [hL, HNE.out])
   have hz1 := Nat.le_refl wb.heap.size
   clear h3 HNE hL
   go_upto_region 3 with fail
   clear b0 b1 b2 b3 b4 b5 bf hlx
  all_goals
   obtain ⟨b0, b1, b2, b3, b4, b5, bf⟩ := blk6 HB1.out
   have hlx := blk_lt HB1.out
   go_wp2_with fail
   clear b0 b1 b2 b3 b4 b5 bf hlx
   go_loopg [16] na (fun g i wr => ∃ j : Nat, j <= na /\ g = na - j /\ i = .int .i64 j /\ SetAt wr b (n + 1 + sizes (e.args.take j)) (L ++ namesL (e.args.take j)) /\ Chg [b] wb wr)
   case atStart => exact ⟨0, by omega, rfl, rfl, by simpa [sizes, namesL] using HS1.out, HC1.out⟩
   case round =>
    obtain ⟨j, hj, hgj, rfl, hs, hc⟩ := hrel
    have HGN := hI hgj
    have HSJ := hI hs
    have HCJ := hI hc
    have hzr := hc.size
    clear hs hc hgj
    by_cases hlt : j < na
    ·have hlt' : j < e.args.length := by have := HNA.out; omega
     have td : decide ((j : Int) < (na : Int)) = true := by simp; omega
     obtain ⟨bb, off, rfl, aw1, nw1, cw1, aa1, na1, ca1, c0, c1, c2, c3, c4, c5, c6⟩ := ExsD.at e.args _ (ExsD.mono HCJ.out.sub _ _ HXS.out) j hlt'
     have HC6 := hI c6
     replace c0 := mask_in2 c0
     replace c1 := mask_in2 c1
     replace c2 := mask_in2 c2
     replace c3 := mask_in2 c3
     replace c4 := mask_in2 c4
     replace c5 := mask_in2 c5
     have HST := hI (sizes_take_succ e.args j hlt')
     have HSL := hI (sizes_take_le e.args (j + 1))
     have HNT := hI (namesL_take e.args j hlt')
     have HFJ := hI (HFA.out _ (List.getElem_mem hlt'))
     clear c6
     generalize e.args[j] = a at *
     go_upto_region 6 with fail
     have HXA := hI ((Ext.refl wr).alloc (.cells #[.int .i64 a.op, .string a.name, .slice aw1 nw1 cw1, .int .i64 a.lo, .int .i64 a.hi, .slice aa1 na1 ca1] 26))
     have HBA := hI (alloc_new wr (.cells #[.int .i64 a.op, .string a.name, .slice aw1 nw1 cw1, .int .i64 a.lo, .int .i64 a.hi, .slice aa1 na1 ca1] 26))
     clear c0 c1 c2 c3 c4 c5
     generalize wr.alloc (.cells #[.int .i64 a.op, .string a.name, .slice aw1 nw1 cw1, .int .i64 a.lo, .int .i64 a.hi, .slice aa1 na1 ca1] 26) = wa at *
     obtain ⟨a0, a1, a2, a3, a4, a5, af⟩ := blk6 HBA.out
     have hla := blk_lt HBA.out
     go_wp2_with fail
     refine (IH.out a _ _ b _ _ (by have := HST.out; have := HSL.out; omega) HFJ.out (HC6.out.mono (mask_ext [b] HXA.out)) (HSJ.out.chg (HXA.out.chg []) (by simp)) (by have := HST.out; have := HSL.out; omega)).mono ?_
     rintro r w2 ⟨rfl, hs2, hc2⟩
     have HS2 := hI (show SetAt w2 b (n + 1 + sizes (e.args.take (j + 1))) (L ++ namesL (e.args.take (j + 1))) by
      rw [HST.out, HNT.out, <- List.append_assoc, <- Nat.add_assoc]; exact hs2)
     have HC2 := hI ((HCJ.out.then (HXA.out.chg _)).then hc2)
     clear hs2 hc2 a0 a1 a2 a3 a4 a5 af hla
     go_wp2_with fail
     go_roundg (na - (j + 1))
     case measure => have := HGN.out; omega
     case rel => exact ⟨j + 1, by omega, rfl, by go_num, HS2.out, HC2.out⟩
    have HE2 := hI (show e.args.take j = e.args from List.take_of_length_le (by have := HNA.out; omega))
    have td : decide ((j : Int) < (na : Int)) = false := by simp; omega
    rw [HE2.out] at HSJ
    go_wp2_with fail
    go_end0
    refine ⟨rfl, ?_, (HX.out.chg _).then HCJ.out⟩
    rw [HSZ.out, <- HNE1.out, <- Nat.add_assoc]
    exact HSJ.out
def OwnS (w : World) (base : Nat) (l : ZB) (v : Value) : Prop := w.ownsRow base 9 1 v l.length (l.flatMap strCells)
def PutQ (l : ZB) (w : World) (e : Ending) (w' : World) : Prop := ∃ (a : OA) (c : Nat), e = .returned (.slice a l.length c) /\ IsStrs w' l a l.length c /\ Ext w w'
theorem putL_lt {s x : BA} {r : ZB} (h : Op.bytesLess s.toList x.toList = true) : putL s (x :: r) = s :: x :: r := by
 rw [Go.Proofs.bytesLess_eq, decide_eq_true_eq] at h
 rw [putL, if_pos h]
theorem putL_same {s x : BA} {r : ZB} (h1 : Op.bytesLess s.toList x.toList = false) (h2 : (s.toList == x.toList) = true) : putL s (x :: r) = x :: r := by
 rw [Go.Proofs.bytesLess_eq, decide_eq_false_iff_not] at h1
 rw [putL, if_neg h1, if_pos (by simpa using h2)]
theorem putL_gt {s x : BA} {r : ZB} (h1 : Op.bytesLess s.toList x.toList = false) (h2 : (s.toList == x.toList) = false) : putL s (x :: r) = x :: putL s r := by
 rw [Go.Proofs.bytesLess_eq, decide_eq_false_iff_not] at h1
 rw [putL, if_neg h1, if_neg (by simpa using h2)]
theorem drop_at {l : ZB} {k : Nat} (h : k < l.length) : l.drop k = l[k] :: l.drop (k + 1) := by simp
theorem put_calls (s : BA) (l : ZB) (a : OA) (n c : Nat) (w : World) (hs : IsStrs w l a n c) (hn : n <= 1000000) :
  Calls Tryz.prog 123 #[.slice a n c, .string s] w (PutQ (putL s l) w) := by
 have HS := hI hs
 have HN := hI hs.1
 have HLEN := hI (putL_len s l)
 clear hs
 go_enter Tryz.func123, Tryz.ntmps123
 go_wp2_with fail
 go_loopg [5, 6, 7] n (fun m u d i wr => ∃ (k : Nat) (out : ZB) (done : Bool), k <= n /\ m = n - k /\ i = .int .i64 k /\ d = .bool done /\ out.length <= k + 1 /\ (done = false -> out.length <= k) /\ OwnS wr w.heap.size out u /\ out ++ (if done then l.drop k else putL s (l.drop k)) = putL s l /\ Ext w wr)
 case atStart => exact ⟨0, [], false, by omega, rfl, rfl, rfl, by simp, by simp, World.ownsRow_nil _ _ _ _, by simp, Ext.refl _⟩
 case round =>
  obtain ⟨k, out, done, hk, hm, rfl, rfl, hol, hod, hown, heq, hx⟩ := hrel
  have HM := hI hm
  have HO := hI hown
  have HEQ := hI heq
  have HX := hI hx
  have HOD := hI hod
  have hz := hx.size
  obtain ⟨ua, uc, rfl, -, -⟩ := strs_of_owns hown [] (by simp)
  clear hm hown heq hx hod
  by_cases hlt : k < n
  ·have hlt' : k < l.length := by have := HN.out; omega
   have td : decide ((k : Int) < (n : Int)) = true := by simp; omega
   obtain ⟨b, off, rfl, hcell⟩ := HS.out.2.2.2 k hlt'
   have HC := hI hcell
   replace hcell := HX.out.cell hcell
   have HD := hI (drop_at hlt')
   have hbl := block_lt hcell
   simp only at hbl
   generalize l[k] = x at *
   have fin : ∀ (out2 : ZB) (done2 : Bool) (u2 : Value) (w2 : World), out2 ++ (if done2 then x :: l.drop (k + 1) else putL s (x :: l.drop (k + 1))) = putL s l -> (done2 = false -> Op.bytesLess s.toList x.toList = false /\ (s.toList == x.toList) = false) -> out2 ++ [x] ++ (if done2 then l.drop (k + 1) else putL s (l.drop (k + 1))) = putL s l := by
    intro out2 done2 u2 w2 h1 h2
    cases done2
    ·obtain ⟨h3, h4⟩ := h2 rfl
     rw [if_neg (by simp), putL_gt h3 h4] at h1
     rw [if_neg (by simp), <- h1]; simp
    rw [if_pos rfl] at h1 ⊢
    rw [<- h1]; simp
   have HFIN := hI fin
   clear fin
   have HEQ2 := hI (show out ++ (if done then x :: l.drop (k + 1) else putL s (x :: l.drop (k + 1))) = putL s l by rw [<- HD.out]; exact HEQ.out)
   clear HEQ HD
   cases done
   ·have hol2 : out.length <= k := HOD.out rfl
    cases h1 : Op.bytesLess s.toList x.toList
    ·cases h2 : (s.toList == x.toList)
     case' false =>
      have HNX := hI (HFIN.out out false (.bool false) wr HEQ2.out (fun _ => ⟨h1, h2⟩))
      go_upto_region 10 with fail
     case' true =>
      have HNX := hI (HFIN.out out true (.bool false) wr (by rw [if_pos rfl, <- putL_same h1 h2]; have := HEQ2.out; rwa [if_neg (by simp)] at this) (fun h => by cases h))
      go_upto_region 10 with fail
     all_goals
      clear h1 h2
      have hz1 := HX.out.size
      go_wp2_with (at_builtin; refine wpList_append_new elemStr rfl _ _ rfl w.heap.size _ _ _ rfl HO.out _ 1 1 rfl ?c0 rfl ?c1 ?c2 ?c3 ?c4 ?_)
      case c0 => rfl
      case c1 => simp [Value.oneCell']
      case c2 => simp only [maxLen]; omega
      case c3 => omega
      try (case c4 => omega)
      intro v2 w2 hown2 hgrow2
      have HO2 := hI (show OwnS w2 w.heap.size (out ++ [x]) v2 by unfold OwnS; rw [List.length_append, List.flatMap_append]; exact hown2)
      have HX2 := hI (HX.out.grown hgrow2 (owns_base HO.out))
      clear hown2 hgrow2 hcell
      go_wp2_with fail
      go_roundg (n - (k + 1))
      case measure => have := HM.out; omega
      case rel => exact ⟨k + 1, out ++ [x], _, by omega, rfl, by go_num, rfl, by simp; omega, fun _ => by simp; omega, HO2.out, HNX.out, HX2.out⟩
    have HNX := hI (HFIN.out (out ++ [s]) true (.bool false) wr (by rw [if_pos rfl, List.append_assoc]; have := HEQ2.out; rw [if_neg (by simp), putL_lt h1] at this; simpa using this) (fun h => by cases h))
    have hz1 := HX.out.size
    go_wp2_with (at_builtin; refine wpList_append_new elemStr rfl _ _ rfl w.heap.size _ _ _ rfl HO.out _ 1 1 rfl ?c0 rfl ?c1 ?c2 ?c3 ?c4 ?_)
    case c0 => rfl
    case c1 => simp [Value.oneCell']
    case c2 => simp only [maxLen]; omega
    case c3 => omega
    try (case c4 => omega)
    intro v2 w2 hown2 hgrow2
    have HO2 := hI (show OwnS w2 w.heap.size (out ++ [s]) v2 by unfold OwnS; rw [List.length_append, List.flatMap_append]; exact hown2)
    have HX2 := hI (HX.out.grown hgrow2 (owns_base HO.out))
    have hcell2 := HX2.out.cell HC.out
    have hbl2 := block_lt hcell2
    simp only at hbl2
    have hz2 := HX2.out.size
    have hown3 := HO2.out
    unfold OwnS at hown3
    have hl2 : (out ++ [s]).length <= k + 1 := by simp; omega
    generalize out ++ [s] = out2 at *
    obtain ⟨ua2, uc2, rfl, -, -⟩ := strs_of_owns hown3 [] (by simp)
    clear hown2 hgrow2 hcell hown3 h1
    go_wp2_with (at_builtin; refine wpList_append_new elemStr rfl _ _ rfl w.heap.size _ _ _ rfl HO2.out _ 1 1 rfl ?d0 rfl ?d1 ?d2 ?d3 ?d4 ?_)
    case d0 => rfl
    case d1 => simp [Value.oneCell']
    case d2 => simp only [maxLen]; omega
    case d3 => omega
    try (case d4 => omega)
    intro v4 w4 hown4 hgrow4
    have HO4 := hI (show OwnS w4 w.heap.size (out2 ++ [x]) v4 by unfold OwnS; rw [List.length_append, List.flatMap_append]; exact hown4)
    have HX4 := hI (HX2.out.grown hgrow4 (owns_base HO2.out))
    clear hown4 hgrow4 hcell2
    go_wp2_with fail
    go_roundg (n - (k + 1))
    case measure => have := HM.out; omega
    case rel => exact ⟨k + 1, out2 ++ [x], true, by omega, rfl, by go_num, rfl, by simp; omega, fun h => (by cases h), HO4.out, HNX.out, HX4.out⟩
   have HNX := hI (HFIN.out out true (.bool false) wr HEQ2.out (fun h => by cases h))
   have hz1 := HX.out.size
   go_wp2_with (at_builtin; refine wpList_append_new elemStr rfl _ _ rfl w.heap.size _ _ _ rfl HO.out _ 1 1 rfl ?c0 rfl ?c1 ?c2 ?c3 ?c4 ?_)
   case c0 => rfl
   case c1 => simp [Value.oneCell']
   case c2 => simp only [maxLen]; omega
   case c3 => omega
   try (case c4 => omega)
   intro v2 w2 hown2 hgrow2
   have HO2 := hI (show OwnS w2 w.heap.size (out ++ [x]) v2 by unfold OwnS; rw [List.length_append, List.flatMap_append]; exact hown2)
   have HX2 := hI (HX.out.grown hgrow2 (owns_base HO.out))
   clear hown2 hgrow2 hcell
   go_wp2_with fail
   go_roundg (n - (k + 1))
   case measure => have := HM.out; omega
   case rel => exact ⟨k + 1, out ++ [x], true, by omega, rfl, by go_num, rfl, by simp; omega, fun h => (by cases h), HO2.out, HNX.out, HX2.out⟩
  have td : decide ((k : Int) < (n : Int)) = false := by simp; omega
  have HDR := hI (show l.drop k = [] from List.drop_eq_nil_of_le (by have := HN.out; omega))
  cases done
  ·have HEND := hI (show out ++ [s] = putL s l by have := HEQ.out; rw [if_neg (by simp), HDR.out] at this; exact this)
   go_wp2_with (at_builtin; refine wpList_append_new elemStr rfl _ _ rfl w.heap.size _ _ _ rfl HO.out _ 1 1 rfl ?c0 rfl ?c1 ?c2 ?c3 ?c4 ?_)
   case c0 => rfl
   case c1 => simp [Value.oneCell']
   case c2 => simp only [maxLen]; omega
   case c3 => omega
   try (case c4 => omega)
   intro v2 w2 hown2 hgrow2
   have hown3 : w2.ownsRow w.heap.size 9 1 v2 (out ++ [s]).length ((out ++ [s]).flatMap strCells) := by rw [List.length_append, List.flatMap_append]; exact hown2
   have HX2 := hI (HX.out.grown hgrow2 (owns_base HO.out))
   obtain ⟨ua2, uc2, rfl, -, hst⟩ := strs_of_owns hown3 [] (by simp)
   have HST := hI hst
   clear hown2 hgrow2 hown3 hst
   go_wp2_with fail
   go_ret
   refine ⟨ua2, uc2, ?_, ?_, HX2.out⟩
   ·rw [<- HEND.out]; rfl
   rw [<- HEND.out]; exact HST.out
  have HEND := hI (show out = putL s l by have := HEQ.out; rw [if_pos rfl, HDR.out, List.append_nil] at this; exact this)
  obtain ⟨ua2, uc2, e2, -, hst⟩ := strs_of_owns HO.out [] (by simp)
  simp only [Value.slice.injEq, true_and] at e2
  obtain ⟨rfl, rfl⟩ := e2
  have HST := hI hst
  clear hst
  go_wp2_with fail
  go_ret
  refine ⟨ua, uc, ?_, ?_, HX.out⟩
  ·rw [<- HEND.out]; rfl
  rw [<- HEND.out]; exact HST.out
end Go.Proofs.YtpkljcgihobaiaaGreatDoor
