/-
  Texts of the claim, joined: RBerr, ROrd1, Seen, Names3, Names4, AppAt, ROrd2.
-/
import Derived.Test.YtefjomofjejklaaGreatCc08
import Derived.StringKeys
import Derived.Laws.Cover1
import Derived.Sort.Walk0
import Derived.Maps.AppendAt
namespace Go.Proofs.YtefjomofjejklaaGreat
set_option maxRecDepth 100000
set_option maxHeartbeats 32000000
open Go.RowKit
def itemErr (s : List Attr) (l : List Cla) (x : Wb) : Int := if nodesErr s l x.cond ≠ 0 then nodesErr s l x.cond else backsErr s l x.unl
theorem itemErr_mk (s : List Attr) (l : List Cla) (n : BA) (c : Ex) (u : List Wb) : itemErr s l (.mk n c u) = if nodesErr s l c ≠ 0 then nodesErr s l c else backsErr s l u := rfl
theorem backsErr_cons (s : List Attr) (l : List Cla) (x : Wb) (r : List Wb) : backsErr s l (x :: r) = if itemErr s l x ≠ 0 then itemErr s l x else backsErr s l r := by
 obtain ⟨n, c, u⟩ := x
 rw [backsErr, itemErr_mk]
 by_cases hn : nodesErr s l c = 0
 ·simp [hn]
 simp [hn]
theorem backsErr_zero {s : List Attr} {l : List Cla} : (r : List Wb) -> (∀ j (h : j < r.length), itemErr s l r[j] = 0) -> backsErr s l r = 0
 | [], _ => by rw [backsErr]
 | x :: r, h => by
  have h0 : itemErr s l x = 0 := h 0 (by simp)
  have hr := backsErr_zero r fun j hj => by have := h (j + 1) (by simpa using hj); simpa using this
  rw [backsErr_cons, h0, hr]; simp
theorem backsErr_hit {s : List Attr} {l : List Cla} : (r : List Wb) -> (k : Nat) -> (hk : k < r.length) -> itemErr s l r[k] ≠ 0 -> (∀ j (h : j < k), itemErr s l (r[j]'(by omega)) = 0) -> backsErr s l r = itemErr s l r[k]
 | [], k, hk, _, _ => by simp at hk
 | x :: r, 0, _, h, _ => by
  have h' : itemErr s l x ≠ 0 := h
  show backsErr s l (x :: r) = itemErr s l x
  rw [backsErr_cons, if_pos h']
 | x :: r, k + 1, hk, h, h0 => by
  have h1 : itemErr s l x = 0 := h0 0 (by omega)
  have hr := backsErr_hit r k (by simpa using hk) (by simpa using h) fun j hj => by have := h0 (j + 1) (by omega); simpa using this
  simp only [List.getElem_cons_succ]
  rw [backsErr_cons, h1, hr]; simp
def itemLarge (l : List Cla) (x : Wb) : Bool := decide (2000 < expanded l x.cond) || backsLarge l x.unl
theorem backsLarge_any (l : List Cla) : (r : List Wb) -> backsLarge l r = r.any (itemLarge l)
 | [] => by simp [backsLarge]
 | .mk n c u :: r => by rw [backsLarge, backsLarge_any l r]; rfl
theorem rbackErr_calls (s : List Attr) (l : List Cla) (hf : ∀ x ∈ s, x.fits) (hsl : s.length <= 1000000000000000) (a : OA) (n c : Nat) (hn : n <= 1000000000000000) (m : Nat) : ∀ (r : List Wb) (ra : OA) (rn rc : Nat) (sv : Value) (w : World), wbN r < m -> m <= 1000000000000000 -> wbOk r -> IsSchema w s sv -> IsClas w l a n c -> WbsD w r ra -> rn = r.length ->
  Calls Tryz.prog 48 #[sv, .slice a n c, .slice ra rn rc] w (GivesE (.int .i64 (backsErr s l r)) w) := by
 induction m with
 | zero => intro r ra rn rc sv w h; omega
 | succ m ih =>
  intro r ra rn rc sv w hm hM hok hs hl hd hrn
  obtain ⟨sa, sn, sc, rfl, hsn⟩ := hs.slice
  have hrl := wbN_len r
  have hrn2 : rn <= 1000000000000000 := by omega
  have HS := hI hs
  have HL := hI hl
  have HD := hI hd
  have HRN := hI hrn
  have HOK := hI hok
  have IH := hI ih
  have HF := hI hf
  clear hs hl hd hrn hok ih hsn hf
  go_enter Tryz.func48, Tryz.ntmps48
  go_wp2_with fail
  go_loopw [7] (fun t wr => ∃ k : Nat, t = .int .i64 k /\ k <= rn /\ (∀ j (h : j < r.length), j < k -> itemErr s l r[j] = 0) /\ wr.heap[w.heap.size]? = some (.cells #[.slice sa sn sc] 25 (0, 0)) /\ Ext w wr) (fun t _ => rn - (intOf t).toNat)
  case atStart => exact ⟨0, rfl, by omega, fun j _ h => by omega, alloc_new w _, (Ext.refl w).alloc _⟩
  case round =>
   obtain ⟨k, rfl, hk, hno, hbx, hxr⟩ := hrel
   have HNO := hI hno
   have HBX := hI hbx
   have HXR := hI hxr
   obtain ⟨d0, df⟩ := blk1 hbx
   clear hno hbx hxr
   by_cases hkn : k < rn
   ·have hkl : k < r.length := by have := HRN.out; omega
    have t1 : decide ((k : Int) < (rn : Int)) = true := decide_eq_true (by omega)
    obtain ⟨b, off, rfl, v, hv0, hrow, hv2, hv3, hv4, hv5, hv6⟩ := WbsD.at r _ (WbsD.mono HXR.out.sub _ _ HD.out) k hkl
    obtain ⟨c0, c1, c2, c3, c4, c5, c6, c7⟩ := hrow.eight
    obtain ⟨ho1, ho2, ho3, ho4, ho5⟩ := wbOk_at r HOK.out k hkl
    have hwn := wbN_at r k hkl
    have HUU := hI hv6
    have HUN := hI hv3
    have HEX := hI hv2
    have HO3 := hI ho3
    have HO5 := hI ho5
    have ti0 : (0 : Int) <= (k : Int) := by omega
    have ti1 : (k : Int) < (rn : Int) := by omega
    clear hrow hv0 hv2 hv3 hv4 hv5 hv6 ho2 ho3 ho5 ho1
    go_wp2_with fail
    go_still_tail 7, (by kernel_rfl)
    change wpList _ _ _ _ _ wr.drew
    have hx2 : Ext wr wr.drew := (Ext.refl wr).drew
    generalize wr.drew = w2 at hx2 ⊢
    have HX2 := hI (HXR.out.trans hx2)
    have HB2 := hI (hx2.blk HBX.out)
    have HEX2 := hI (HEX.out.ext hx2)
    have c7' := hx2.cell c7
    have HU2 := hI (WbsD.mono hx2.sub _ _ HUU.out)
    clear hx2 d0 df c0 c1 c2 c3 c4 c5 c6 c7
    go_wp2_with fail
    refine (rnodesErr_calls s l HF.out hsl a n c hn 1000000000000000 r[k].cond _ _ w2 ho4 (by omega) HO3.out (HS.out.ext HX2.out) (HL.out.ext HX2.out) HEX2.out).mono ?_
    rintro e w3 ⟨rfl, hx3⟩
    have HX3 := hI (HX2.out.trans hx3)
    have HB3 := hI (hx3.blk HB2.out)
    obtain ⟨d0, df⟩ := blk1 (hx3.blk HB2.out)
    have c73 := hx3.cell c7'
    have HU3 := hI (WbsD.mono hx3.sub _ _ HU2.out)
    clear hx3 c7'
    by_cases hz : nodesErr s l r[k].cond = 0
    ·have tz : (nodesErr s l r[k].cond != 0) = false := by simp [hz]
     have HIE := hI (show itemErr s l r[k] = backsErr s l r[k].unl by unfold itemErr; rw [if_neg (by simp [hz])])
     clear hz
     go_wp2_with fail
     go_still_tail 7, (by kernel_rfl)
     change wpList _ _ _ _ _ w3.drew
     have hx4 : Ext w3 w3.drew := (Ext.refl w3).drew
     generalize w3.drew = w4 at hx4 ⊢
     have HX4 := hI (HX3.out.trans hx4)
     have HB4 := hI (hx4.blk HB3.out)
     have HU4 := hI (WbsD.mono hx4.sub _ _ HU3.out)
     clear hx4 d0 df c73
     go_wp2_with fail
     refine (IH.out r[k].unl _ _ _ _ w4 (by omega) (by omega) HO5.out (HS.out.ext HX4.out) (HL.out.ext HX4.out) HU4.out HUN.out).mono ?_
     rintro e w5 ⟨rfl, hx5⟩
     have HX5 := hI (HX4.out.trans hx5)
     have HB5 := hI (hx5.blk HB4.out)
     clear hx5
     by_cases hy : backsErr s l r[k].unl = 0
     ·have ty : (backsErr s l r[k].unl != 0) = false := by simp [hy]
      have HY := hI hy
      clear hy
      go_wp2_with fail
      go_roundw
      case rel =>
       refine ⟨k + 1, by go_num, by omega, fun j hj hjk => ?_, HB5.out, HX5.out⟩
       by_cases e' : j = k
       ·subst e'; rw [HIE.out]; exact HY.out
       exact HNO.out j hj (by omega)
      case measure => simp [intOf]; omega
     have ty : (backsErr s l r[k].unl != 0) = true := by simp [hy]
     have HR := hI (show backsErr s l r = backsErr s l r[k].unl by rw [<- HIE.out]; exact backsErr_hit r k hkl (by rw [HIE.out]; exact hy) fun j hj => HNO.out j (by omega) hj)
     clear hy
     go_wp2_with fail
     go_ret
     exact givesE_of (by rw [HR.out]) HX5.out
    have tz : (nodesErr s l r[k].cond != 0) = true := by simp [hz]
    have HIE : itemErr s l r[k] = nodesErr s l r[k].cond := by unfold itemErr; rw [if_pos hz]
    have HR := hI (show backsErr s l r = nodesErr s l r[k].cond by rw [<- HIE]; exact backsErr_hit r k hkl (by rw [HIE]; exact hz) fun j hj => HNO.out j (by omega) hj)
    clear hz HIE
    go_wp2_with fail
    go_ret
    exact givesE_of (by rw [HR.out]) HX3.out
   have t1 : decide ((k : Int) < (rn : Int)) = false := decide_eq_false (by omega)
   have HR := hI (show backsErr s l r = 0 from backsErr_zero r fun j hj => HNO.out j hj (by have := HRN.out; omega))
   go_wp2_with fail
   go_ret
   exact givesE_of (by rw [HR.out]) HXR.out
theorem rbackLarge_calls (l : List Cla) (a : OA) (n c : Nat) (hn : n <= 1000000) (hsz : ∀ x ∈ l, x.cond.size <= 1000000000000000) (m : Nat) : ∀ (r : List Wb) (ra : OA) (rn rc : Nat) (w : World), wbN r < m -> m <= 1000000000000000 -> wbOk r -> IsClas w l a n c -> WbsD w r ra -> rn = r.length ->
  Calls Tryz.prog 51 #[.slice a n c, .slice ra rn rc] w (GivesE (.bool (backsLarge l r)) w) := by
 induction m with
 | zero => intro r ra rn rc w h; omega
 | succ m ih =>
  intro r ra rn rc w hm hM hok hl hd hrn
  have hrl := wbN_len r
  have hrn2 : rn <= 1000000000000000 := by omega
  have HL := hI hl
  have HD := hI hd
  have HRN := hI hrn
  have HOK := hI hok
  have IH := hI ih
  have HSZ := hI hsz
  obtain ⟨R, hR⟩ : ∃ R, R = backsLarge l r := ⟨_, rfl⟩
  rw [<- hR]
  have HR := hI (show R = r.any (itemLarge l) by rw [hR]; exact backsLarge_any l r)
  clear hl hd hrn hok ih hR hsz
  go_enter Tryz.func51, Tryz.ntmps51
  go_wp2_with fail
  go_loopw [5] (fun t wr => ∃ k : Nat, t = .int .i64 k /\ k <= rn /\ (∀ j (h : j < r.length), j < k -> itemLarge l r[j] = false) /\ Ext w wr) (fun t _ => rn - (intOf t).toNat)
  case atStart => exact ⟨0, rfl, by omega, fun j _ h => by omega, Ext.refl _⟩
  case round =>
   obtain ⟨k, rfl, hk, hno, hxr⟩ := hrel
   have HNO := hI hno
   have HXR := hI hxr
   clear hno hxr
   by_cases hkn : k < rn
   ·have hkl : k < r.length := by have := HRN.out; omega
    have t1 : decide ((k : Int) < (rn : Int)) = true := decide_eq_true (by omega)
    obtain ⟨b, off, rfl, v, hv0, hrow, hv2, hv3, hv4, hv5, hv6⟩ := WbsD.at r _ (WbsD.mono HXR.out.sub _ _ HD.out) k hkl
    obtain ⟨c0, c1, c2, c3, c4, c5, c6, c7⟩ := hrow.eight
    obtain ⟨ho1, ho2, ho3, ho4, ho5⟩ := wbOk_at r HOK.out k hkl
    have hwn := wbN_at r k hkl
    have HUU := hI hv6
    have HUN := hI hv3
    have HEX := hI hv2
    have HO5 := hI ho5
    clear hrow hv0 hv2 hv3 hv4 hv5 hv6 ho2 ho3 ho5 ho1
    go_wp2_with fail
    refine (rExpanded_calls l a n c hn HSZ.out r[k].cond _ wr ho4 (HL.out.ext HXR.out) HEX.out).mono ?_
    rintro e w3 ⟨rfl, hx3⟩
    have HX3 := hI (HXR.out.trans hx3)
    have c73 := hx3.cell c7
    have HU3 := hI (WbsD.mono hx3.sub _ _ HUU.out)
    clear hx3 c0 c1 c2 c3 c4 c5 c6 c7
    have HIL := hI (show itemLarge l r[k] = (decide (2000 < expanded l r[k].cond) || backsLarge l r[k].unl) from rfl)
    obtain ⟨E, hE⟩ : ∃ E, E = expanded l r[k].cond := ⟨_, rfl⟩
    rw [<- hE]
    rw [<- hE] at HIL
    clear hE
    by_cases hz : 2000 < E
    ·have tz : decide ((2000 : Int) < (E : Int)) = true := decide_eq_true (by omega)
     have HF := hI (show R = true by
      rw [HR.out, List.any_eq_true]
      exact ⟨r[k], List.getElem_mem hkl, by rw [HIL.out, decide_eq_true hz]; rfl⟩)
     go_wp2_with fail
     go_ret
     exact givesE_b (by rw [HF.out]) HX3.out
    have tz : decide ((2000 : Int) < (E : Int)) = false := decide_eq_false (by omega)
    rw [decide_eq_false hz, Bool.false_or] at HIL
    go_wp2_with fail
    refine (IH.out r[k].unl _ _ _ w3 (by omega) (by omega) HO5.out (HL.out.ext HX3.out) HU3.out HUN.out).mono ?_
    rintro e w5 ⟨rfl, hx5⟩
    have HX5 := hI (HX3.out.trans hx5)
    clear hx5 c73
    cases hb : backsLarge l r[k].unl
    ·have HI2 := hI (HIL.out.trans hb)
     clear hb
     go_wp2_with fail
     go_roundw
     case rel =>
      refine ⟨k + 1, by go_num, by omega, fun j hj hjk => ?_, HX5.out⟩
      by_cases e' : j = k
      ·subst e'; exact HI2.out
      exact HNO.out j hj (by omega)
     case measure => simp [intOf]; omega
    have HF := hI (show R = true by
     rw [HR.out, List.any_eq_true]
     exact ⟨r[k], List.getElem_mem hkl, by rw [HIL.out, hb]⟩)
    go_wp2_with fail
    go_ret
    exact givesE_b (by rw [HF.out]) HX5.out
   have t1 : decide ((k : Int) < (rn : Int)) = false := decide_eq_false (by omega)
   have HF := hI (show R = false by
    rw [HR.out, List.any_eq_false]
    intro x hx
    obtain ⟨j, hj, rfl⟩ := List.mem_iff_getElem.1 hx
    have := HNO.out j hj (by have := HRN.out; omega)
    simp [this])
   go_wp2_with fail
   go_ret
   exact givesE_b (by rw [HF.out]) HXR.out
structure RInv (l : List Dfn) (o : ZN) : Prop where
 nodup : o.Nodup
 sub : ∀ i ∈ o, isDef l i = true
 after : After l o
theorem RInv.start (l : List Dfn) : RInv l [] := ⟨List.nodup_nil, by simp, fun p i h => by simp at h⟩
theorem RInv.snoc {l : List Dfn} {o : ZN} {p : Nat} (h : RInv l o) (hd : isDef l p = true) (hp : p ∉ o) (hm : missL l o p = []) : RInv l (o ++ [p]) where
 nodup := List.nodup_append.2 ⟨h.nodup, by simp, fun a ha b hb e => hp (by simp at hb; rw [<- hb, <- e]; exact ha)⟩
 sub i hi := by
  rcases List.mem_append.1 hi with h1 | h1
  ·exact h.sub i h1
  simp at h1; rw [h1]; exact hd
 after := h.after.snoc hm
theorem RInv.le {l : List Dfn} {o : ZN} (h : RInv l o) : o.length <= countOf l := nodup_le _ _ h.nodup fun i hi => mem_defs.2 (h.sub i hi)
theorem RInv.lt {l : List Dfn} {o : ZN} {p : Nat} (h : RInv l o) (hd : isDef l p = true) (hp : p ∉ o) : o.length < countOf l := by
 have := nodup_le (p :: o) ((List.range l.length).filter (isDef l)) (List.nodup_cons.2 ⟨hp, h.nodup⟩) (fun i hi => by
  rcases List.mem_cons.1 hi with rfl | hi
  ·exact mem_defs.2 hd
  exact mem_defs.2 (h.sub i hi))
 simp only [List.length_cons] at this
 unfold countOf
 omega
theorem RInv.done {l : List Dfn} {o : ZN} (h : RInv l o) (ha : ∀ i, isDef l i = true -> i ∈ o) : Topo l o := ⟨h.nodup, fun i => ⟨h.sub i, ha i⟩, h.after⟩
theorem RInv.stuck {l : List Dfn} {o : ZN} (hs : ∀ i, isDef l i = true -> i ∉ o -> missL l o i ≠ []) {p : Nat} (hd : isDef l p = true) (hp : p ∉ o) : ¬ Sorts l := by
 rintro ⟨q, hq⟩
 have key : ∀ (p i : Nat), q[p]? = some i -> i ∈ o := by
  intro p
  induction p using Nat.strongRecOn with
  | ind p ih =>
   intro i hi
   refine Classical.byContradiction fun hio => ?_
   refine hs i ((hq.all i).1 (List.mem_of_getElem? hi)) hio (miss_nil.2 fun s hs d hd => ?_)
   obtain ⟨k, hk⟩ := List.mem_iff_getElem?.1 (hq.after p i hi s hs d hd)
   have hkp : k < p := by
    rcases Nat.lt_or_ge k p with h' | h'
    ·exact h'
    rw [List.getElem?_eq_none (by simp; omega)] at hk; cases hk
   rw [List.getElem?_take, if_pos hkp] at hk
   exact ih k hkp d hk
 obtain ⟨k, hk⟩ := List.mem_iff_getElem?.1 ((hq.all p).2 hd)
 exact hp (key k p hk)
theorem elemBools : ElemT 147 4 (.bool false) 1 1 := ⟨by kernel_rfl, by kernel_rfl, rfl, by omega⟩
structure SeenAt (bs : Nat) (L : List Bool) (w : World) : Prop where
 row : ∃ cur : Array Value, w.heap[bs]? = some (.cells cur 4 (0, 0)) /\ cur.toList = L.map Value.bool
theorem SeenAt.cell {bs : Nat} {L : List Bool} {w : World} (h : SeenAt bs L w) {i : Nat} (hi : i < L.length) : w.cell? ⟨bs, i, none⟩ = some (.bool L[i]) := by
 obtain ⟨cur, h1, h2⟩ := h.row
 rw [blk_cell h1]
 have : cur.toList[i]? = some (.bool L[i]) := by rw [h2]; simp [hi]
 simpa using this
theorem SeenAt.free {bs : Nat} {L : List Bool} {w : World} (h : SeenAt bs L w) (i : Nat) : w.frozen? ⟨bs, i, none⟩ = false := by
 obtain ⟨cur, h1, h2⟩ := h.row
 exact blk_free h1 i
theorem SeenAt.lt {bs : Nat} {L : List Bool} {w : World} (h : SeenAt bs L w) : bs < w.heap.size := by
 obtain ⟨cur, h1, h2⟩ := h.row
 exact blk_lt h1
theorem SeenAt.ext {bs : Nat} {L : List Bool} {w w' : World} (h : SeenAt bs L w) (hx : Ext w w') : SeenAt bs L w' := by
 obtain ⟨cur, h1, h2⟩ := h.row
 exact ⟨cur, hx.blk h1, h2⟩
theorem SeenAt.set {bs : Nat} {L : List Bool} {w : World} (h : SeenAt bs L w) (i : Nat) (b : Bool) : SeenAt bs (L.set i b) (w.setCell ⟨bs, i, none⟩ (.bool b)) := by
 obtain ⟨cur, h1, h2⟩ := h.row
 refine ⟨_, heap_setCell_same w bs i _ _ (.bool b) h1, ?_⟩
 simp [h2, List.map_set]
theorem SeenAt.of_owns {w : World} {base bs n : Nat} (h : w.ownsRow base 4 1 (.slice (some ⟨bs, 0, none⟩) n n) n (madeCells #[Value.bool false] n).toList) : SeenAt bs (List.replicate n false) w := by
 rcases h.2 with ⟨h0, _⟩ | ⟨g, cap, cur, hv, _, hg, _, _, hs, ht⟩
 ·simp at h0
 simp only [Value.slice.injEq, Option.some.injEq, Addr.mk.injEq, and_true, true_and] at hv
 obtain ⟨rfl, rfl⟩ := hv
 refine ⟨cur, hg, ?_⟩
 have e1 : cur.toList.take (n * 1) = cur.toList := List.take_of_length_le (by simp; omega)
 rw [e1] at ht
 rw [ht]
 simp only [madeCells, List.map_replicate]
 apply List.ext_getElem
 ·simp
 intro i h1 h2
 simp [Nat.mod_one]
def marks (o : ZN) (n : Nat) : List Bool := (List.range n).map fun j => decide (j ∈ o)
theorem marks_nil (n : Nat) : marks [] n = List.replicate n false := by simp [marks, List.map_const']
theorem marks_len (o : ZN) (n : Nat) : (marks o n).length = n := by simp [marks]
theorem marks_at {o : ZN} {n j : Nat} (hj : j < n) : (marks o n)[j]'(by rw [marks_len]; exact hj) = decide (j ∈ o) := by simp [marks]
theorem marks_set (o : ZN) (n p : Nat) : (marks o n).set p true = marks (o ++ [p]) n := by
 apply List.ext_getElem
 ·simp [marks]
 intro j h1 h2
 have hj : j < n := by simpa [marks] using h2
 have e1 : (marks (o ++ [p]) n)[j] = decide (j ∈ o ++ [p]) := marks_at hj
 have e2 : (marks o n)[j]'(by rw [marks_len]; exact hj) = decide (j ∈ o) := marks_at hj
 rw [e1, List.getElem_set]
 by_cases e : p = j
 ·subst e; simp
 rw [if_neg e, e2]
 congr 1
 simp only [List.mem_append, List.mem_singleton]
 exact propext ⟨Or.inl, fun h => h.resolve_right fun h => e h.symm⟩
open Go.RowKit Go.Maps
def OwnS (w : World) (base : Nat) (l : ZB) (v : Value) : Prop := w.ownsRow base 9 1 v l.length (l.flatMap strCells)
def PutQ (l : ZB) (w : World) (e : Ending) (w' : World) : Prop := ∃ (a : OA) (c : Nat), e = .returned (.slice a l.length c) /\ IsStrs w' l a l.length c /\ Ext w w'
theorem putL_lt {s x : BA} {r : ZB} (h : Op.bytesLess s.toList x.toList = true) : putL s (x :: r) = s :: x :: r := by
 rw [Go.Proofs.bytesLess_eq, decide_eq_true_eq] at h
 rw [putL, if_pos h]
theorem putL_same {s x : BA} {r : ZB} (h1 : Op.bytesLess s.toList x.toList = false) (h2 : (s.toList == x.toList) = true) : putL s (x :: r) = x :: r := by
 rw [Go.Proofs.bytesLess_eq, decide_eq_false_iff_not] at h1
 rw [putL, if_neg h1, if_pos (by simpa using h2)]
theorem putL_gt {s x : BA} {r : ZB} (h1 : Op.bytesLess s.toList x.toList = false) (h2 : (s.toList == x.toList) = false) : putL s (x :: r) = x :: putL s r := by
 rw [Go.Proofs.bytesLess_eq, decide_eq_false_iff_not] at h1
 rw [putL, if_neg h1, if_neg (by simpa using h2)]
theorem drop_at {l : ZB} {k : Nat} (h : k < l.length) : l.drop k = l[k] :: l.drop (k + 1) := by simp
theorem put_calls (s : BA) (l : ZB) (a : OA) (n c : Nat) (w : World) (hs : IsStrs w l a n c) (hn : n <= 1000000) :
  Calls Tryz.prog 129 #[.slice a n c, .string s] w (PutQ (putL s l) w) := by
 have HS := hI hs
 have HN := hI hs.1
 have HLEN := hI (putL_len s l)
 clear hs
 go_enter Tryz.func129, Tryz.ntmps129
 go_wp2_with fail
 go_loopg [5, 6, 7] n (fun m u d i wr => ∃ (k : Nat) (out : ZB) (done : Bool), k <= n /\ m = n - k /\ i = .int .i64 k /\ d = .bool done /\ out.length <= k + 1 /\ (done = false -> out.length <= k) /\ OwnS wr w.heap.size out u /\ out ++ (if done then l.drop k else putL s (l.drop k)) = putL s l /\ Ext w wr)
 case atStart => exact ⟨0, [], false, by omega, rfl, rfl, rfl, by simp, by simp, World.ownsRow_nil _ _ _ _, by simp, Ext.refl _⟩
 case round =>
  obtain ⟨k, out, done, hk, hm, rfl, rfl, hol, hod, hown, heq, hx⟩ := hrel
  have HM := hI hm
  have HO := hI hown
  have HEQ := hI heq
  have HX := hI hx
  have HOD := hI hod
  have hz := hx.size
  obtain ⟨ua, uc, rfl, -, -⟩ := strs_of_owns hown [] (by simp)
  clear hm hown heq hx hod
  by_cases hlt : k < n
  ·have hlt' : k < l.length := by have := HN.out; omega
   have td : decide ((k : Int) < (n : Int)) = true := by simp; omega
   obtain ⟨b, off, rfl, hcell⟩ := HS.out.2.2.2 k hlt'
   have HC := hI hcell
   replace hcell := HX.out.cell hcell
   have HD := hI (drop_at hlt')
   have hbl := block_lt hcell
   simp only at hbl
   generalize l[k] = x at *
   have fin : ∀ (out2 : ZB) (done2 : Bool) (u2 : Value) (w2 : World), out2 ++ (if done2 then x :: l.drop (k + 1) else putL s (x :: l.drop (k + 1))) = putL s l -> (done2 = false -> Op.bytesLess s.toList x.toList = false /\ (s.toList == x.toList) = false) -> out2 ++ [x] ++ (if done2 then l.drop (k + 1) else putL s (l.drop (k + 1))) = putL s l := by
    intro out2 done2 u2 w2 h1 h2
    cases done2
    ·obtain ⟨h3, h4⟩ := h2 rfl
     rw [if_neg (by simp), putL_gt h3 h4] at h1
     rw [if_neg (by simp), <- h1]; simp
    rw [if_pos rfl] at h1 ⊢
    rw [<- h1]; simp
   have HFIN := hI fin
   clear fin
   have HEQ2 := hI (show out ++ (if done then x :: l.drop (k + 1) else putL s (x :: l.drop (k + 1))) = putL s l by rw [<- HD.out]; exact HEQ.out)
   clear HEQ HD
   cases done
   ·have hol2 : out.length <= k := HOD.out rfl
    cases h1 : Op.bytesLess s.toList x.toList
    ·cases h2 : (s.toList == x.toList)
     case' false =>
      have HNX := hI (HFIN.out out false (.bool false) wr HEQ2.out (fun _ => ⟨h1, h2⟩))
      go_upto_region 10 with fail
     case' true =>
      have HNX := hI (HFIN.out out true (.bool false) wr (by rw [if_pos rfl, <- putL_same h1 h2]; have := HEQ2.out; rwa [if_neg (by simp)] at this) (fun h => by cases h))
      go_upto_region 10 with fail
     all_goals
      clear h1 h2
      have hz1 := HX.out.size
      go_wp2_with (at_builtin; refine wpList_append_new elemStr rfl _ _ rfl w.heap.size _ _ _ rfl HO.out _ 1 1 rfl ?c0 rfl ?c1 ?c2 ?c3 ?c4 ?_)
      case c0 => rfl
      case c1 => simp [Value.oneCell']
      case c2 => simp only [maxLen]; omega
      case c3 => omega
      try (case c4 => omega)
      intro v2 w2 hown2 hgrow2
      have HO2 := hI (show OwnS w2 w.heap.size (out ++ [x]) v2 by unfold OwnS; rw [List.length_append, List.flatMap_append]; exact hown2)
      have HX2 := hI (HX.out.grown hgrow2 (owns_base HO.out))
      clear hown2 hgrow2 hcell
      go_wp2_with fail
      go_roundg (n - (k + 1))
      case measure => have := HM.out; omega
      case rel => exact ⟨k + 1, out ++ [x], _, by omega, rfl, by go_num, rfl, by simp; omega, fun _ => by simp; omega, HO2.out, HNX.out, HX2.out⟩
    have HNX := hI (HFIN.out (out ++ [s]) true (.bool false) wr (by rw [if_pos rfl, List.append_assoc]; have := HEQ2.out; rw [if_neg (by simp), putL_lt h1] at this; simpa using this) (fun h => by cases h))
    have hz1 := HX.out.size
    go_wp2_with (at_builtin; refine wpList_append_new elemStr rfl _ _ rfl w.heap.size _ _ _ rfl HO.out _ 1 1 rfl ?c0 rfl ?c1 ?c2 ?c3 ?c4 ?_)
    case c0 => rfl
    case c1 => simp [Value.oneCell']
    case c2 => simp only [maxLen]; omega
    case c3 => omega
    try (case c4 => omega)
    intro v2 w2 hown2 hgrow2
    have HO2 := hI (show OwnS w2 w.heap.size (out ++ [s]) v2 by unfold OwnS; rw [List.length_append, List.flatMap_append]; exact hown2)
    have HX2 := hI (HX.out.grown hgrow2 (owns_base HO.out))
    have hcell2 := HX2.out.cell HC.out
    have hbl2 := block_lt hcell2
    simp only at hbl2
    have hz2 := HX2.out.size
    have hown3 := HO2.out
    unfold OwnS at hown3
    have hl2 : (out ++ [s]).length <= k + 1 := by simp; omega
    generalize out ++ [s] = out2 at *
    obtain ⟨ua2, uc2, rfl, -, -⟩ := strs_of_owns hown3 [] (by simp)
    clear hown2 hgrow2 hcell hown3 h1
    go_wp2_with (at_builtin; refine wpList_append_new elemStr rfl _ _ rfl w.heap.size _ _ _ rfl HO2.out _ 1 1 rfl ?d0 rfl ?d1 ?d2 ?d3 ?d4 ?_)
    case d0 => rfl
    case d1 => simp [Value.oneCell']
    case d2 => simp only [maxLen]; omega
    case d3 => omega
    try (case d4 => omega)
    intro v4 w4 hown4 hgrow4
    have HO4 := hI (show OwnS w4 w.heap.size (out2 ++ [x]) v4 by unfold OwnS; rw [List.length_append, List.flatMap_append]; exact hown4)
    have HX4 := hI (HX2.out.grown hgrow4 (owns_base HO2.out))
    clear hown4 hgrow4 hcell2
    go_wp2_with fail
    go_roundg (n - (k + 1))
    case measure => have := HM.out; omega
    case rel => exact ⟨k + 1, out2 ++ [x], true, by omega, rfl, by go_num, rfl, by simp; omega, fun h => (by cases h), HO4.out, HNX.out, HX4.out⟩
   have HNX := hI (HFIN.out out true (.bool false) wr HEQ2.out (fun h => by cases h))
   have hz1 := HX.out.size
   go_wp2_with (at_builtin; refine wpList_append_new elemStr rfl _ _ rfl w.heap.size _ _ _ rfl HO.out _ 1 1 rfl ?c0 rfl ?c1 ?c2 ?c3 ?c4 ?_)
   case c0 => rfl
   case c1 => simp [Value.oneCell']
   case c2 => simp only [maxLen]; omega
   case c3 => omega
   try (case c4 => omega)
   intro v2 w2 hown2 hgrow2
   have HO2 := hI (show OwnS w2 w.heap.size (out ++ [x]) v2 by unfold OwnS; rw [List.length_append, List.flatMap_append]; exact hown2)
   have HX2 := hI (HX.out.grown hgrow2 (owns_base HO.out))
   clear hown2 hgrow2 hcell
   go_wp2_with fail
   go_roundg (n - (k + 1))
   case measure => have := HM.out; omega
   case rel => exact ⟨k + 1, out ++ [x], true, by omega, rfl, by go_num, rfl, by simp; omega, fun h => (by cases h), HO2.out, HNX.out, HX2.out⟩
  have td : decide ((k : Int) < (n : Int)) = false := by simp; omega
  have HDR := hI (show l.drop k = [] from List.drop_eq_nil_of_le (by have := HN.out; omega))
  cases done
  ·have HEND := hI (show out ++ [s] = putL s l by have := HEQ.out; rw [if_neg (by simp), HDR.out] at this; exact this)
   go_wp2_with (at_builtin; refine wpList_append_new elemStr rfl _ _ rfl w.heap.size _ _ _ rfl HO.out _ 1 1 rfl ?c0 rfl ?c1 ?c2 ?c3 ?c4 ?_)
   case c0 => rfl
   case c1 => simp [Value.oneCell']
   case c2 => simp only [maxLen]; omega
   case c3 => omega
   try (case c4 => omega)
   intro v2 w2 hown2 hgrow2
   have hown3 : w2.ownsRow w.heap.size 9 1 v2 (out ++ [s]).length ((out ++ [s]).flatMap strCells) := by rw [List.length_append, List.flatMap_append]; exact hown2
   have HX2 := hI (HX.out.grown hgrow2 (owns_base HO.out))
   obtain ⟨ua2, uc2, rfl, -, hst⟩ := strs_of_owns hown3 [] (by simp)
   have HST := hI hst
   clear hown2 hgrow2 hown3 hst
   go_wp2_with fail
   go_ret
   refine ⟨ua2, uc2, ?_, ?_, HX2.out⟩
   ·rw [<- HEND.out]; rfl
   rw [<- HEND.out]; exact HST.out
  have HEND := hI (show out = putL s l by have := HEQ.out; rw [if_pos rfl, HDR.out, List.append_nil] at this; exact this)
  obtain ⟨ua2, uc2, e2, -, hst⟩ := strs_of_owns HO.out [] (by simp)
  simp only [Value.slice.injEq, true_and] at e2
  obtain ⟨rfl, rfl⟩ := e2
  have HST := hI hst
  clear hst
  go_wp2_with fail
  go_ret
  refine ⟨ua, uc, ?_, ?_, HX.out⟩
  ·rw [<- HEND.out]; rfl
  rw [<- HEND.out]; exact HST.out
def gath (m l : ZB) : ZB := m.foldl (fun l s => putL s l) l
theorem gath_append (m k l : ZB) : gath (m ++ k) l = gath k (gath m l) := by simp [gath]
theorem gath_nil (l : ZB) : gath [] l = l := rfl
theorem gath_one (s : BA) (l : ZB) : gath [s] l = putL s l := rfl
theorem gath_len (m l : ZB) : (gath m l).length <= m.length + l.length := fold_len m l
mutual
theorem namesE_len : (e : Ex) -> (namesE e).length <= e.size
 | .mk op name words lo hi args => by
  have := namesL_len args
  rw [namesE, Ex.size, List.length_append]
  split <;> simp <;> omega
theorem namesL_len : (l : List Ex) -> (namesL l).length <= sizes l
 | [] => by simp [namesL, sizes]
 | e :: r => by
  have := namesE_len e
  have := namesL_len r
  rw [namesL, sizes, List.length_append]; omega
end
theorem gather_calls (m : Nat) : m <= 1000000 -> ∀ (e : Ex) (v : Value) (w : World) (l : ZB) (a : OA) (n c : Nat), e.size <= m -> IsEx w e v -> IsStrs w l a n c -> n + e.size <= 1000000 ->
  Calls Tryz.prog 117 #[.slice a n c, v] w (PutQ (gath (namesE e) l) w) := by
 induction m with
 | zero => intro _ e v w l a n c h; have := size_pos e; omega
 | succ m ih =>
  intro hMM e v w l a n c hm he hs hn
  obtain ⟨aw, nw, cw, aa, na, ca, rfl, hw, hna, hca, ha, hx⟩ := he.parts
  have hS : e.size = 1 + sizes e.args := e.size_eq
  have hla := length_le_sizes e.args
  have HX := hI ((Ext.refl w).alloc (.cells #[.int .i64 e.op, .string e.name, .slice aw nw cw, .int .i64 e.lo, .int .i64 e.hi, .slice aa na ca] 96))
  have HBX := hI (alloc_new w (.cells #[.int .i64 e.op, .string e.name, .slice aw nw cw, .int .i64 e.lo, .int .i64 e.hi, .slice aa na ca] 96))
  have HXS := hI (ExsD.ext HX.out e.args aa hx)
  have HS := hI (hs.ext HX.out)
  have HSN := hI hs.1
  have HNA := hI hna
  have HNM := hI (namesE_eq e)
  have IH := hI (ih (by omega))
  have hna2 : na <= 1000000 := by omega
  have hsz : sizes e.args <= m := by omega
  have hn2 : n + 1 + sizes e.args <= 1000000 := by omega
  clear hw hna hca ha hx he hs hS hla ih hm hn
  generalize namesE e = NE at *
  unfold exV
  go_enter Tryz.func117, Tryz.ntmps117
  go_upto_region 1 with fail
  generalize w.alloc (.cells #[.int .i64 e.op, .string e.name, .slice aw nw cw, .int .i64 e.lo, .int .i64 e.hi, .slice aa na ca] 96) = wb at *
  obtain ⟨b0, b1, b2, b3, b4, b5, bf⟩ := blk6 HBX.out
  have hlx := blk_lt HBX.out
  by_cases h3 : e.op = 3
  case' pos =>
   have t3 : (e.op == 3) = true := by simp [h3]
   have HNE := hI (show gath NE l = gath (namesL e.args) (putL e.name l) by rw [HNM.out, if_pos h3, gath_append, gath_one])
   have hpl := putL_len e.name l
   clear h3
   go_wp2_with fail
   refine (put_calls e.name l a n c _ HS.out (by omega)).mono ?_
   rintro r w1 ⟨a1, c1, rfl, hs1, hx1⟩
   have HS1 := hI hs1
   have HX1 := hI hx1
   have HB1 := hI (hx1.blk HBX.out)
   have hl1 : (putL e.name l).length <= n + 1 := by have := HSN.out; omega
   clear hs1 hx1 b0 b1 b2 b3 b4 b5 bf hlx HS HSN hpl
   generalize putL e.name l = l1 at *
   obtain ⟨n1, hn1⟩ : ∃ n1, n1 = l1.length := ⟨_, rfl⟩
   rw [<- hn1] at HS1 hl1 ⊢
   clear hn1
   go_upto_region 3 with fail
  case' neg =>
   have t3 : (e.op == 3) = false := by simp [h3]
   have HNE := hI (show gath NE l = gath (namesL e.args) l by rw [HNM.out, if_neg h3]; simp)
   have HX1 := hI (Ext.refl wb)
   have HB1 := HBX
   have hl1 : n <= n + 1 := by omega
   have HS1 := HS
   clear h3 HS
   obtain ⟨l1, hl1e⟩ : ∃ l1, l1 = l := ⟨_, rfl⟩
   have HNE2 := hI (show gath NE l = gath (namesL e.args) l1 by rw [hl1e]; exact HNE.out)
   rw [<- hl1e] at HS1 HSN
   clear hl1e HNE
   have HNE := HNE2
   clear HNE2
   go_upto_region 3 with fail
   clear b0 b1 b2 b3 b4 b5 bf hlx
  all_goals
   go_wp2_with fail
   go_loopg [0, 5] na (fun g u i wr => ∃ (j : Nat) (al : OA) (nl cl : Nat), j <= na /\ g = na - j /\ i = .int .i64 j /\ u = .slice al nl cl /\ nl <= n + 1 + (namesL (e.args.take j)).length /\ IsStrs wr (gath (namesL (e.args.take j)) l1) al nl cl /\ Ext wb wr)
   case atStart => exact ⟨0, _, _, _, by omega, rfl, rfl, rfl, by omega, by simpa [namesL, gath_nil] using HS1.out, HX1.out⟩
   case round =>
    obtain ⟨j, al, nl, cl, hj, hgj, rfl, rfl, hnl, hsj, hxj⟩ := hrel
    have HGN := hI hgj
    have HSJ := hI hsj
    have HXJ := hI hxj
    have HNL := hI hnl
    have HBJ := hI (hxj.blk HBX.out)
    clear hsj hxj hgj hnl
    obtain ⟨b0, b1, b2, b3, b4, b5, bf⟩ := blk6 HBJ.out
    have hlx := blk_lt HBJ.out
    by_cases hlt : j < na
    ·have hlt' : j < e.args.length := by have := HNA.out; omega
     have td : decide ((j : Int) < (na : Int)) = true := by simp; omega
     obtain ⟨bb, off, rfl, aw1, nw1, cw1, aa1, na1, ca1, c0, c1, c2, c3, c4, c5, c6⟩ := ExsD.at e.args _ (ExsD.ext HXJ.out _ _ HXS.out) j hlt'
     have HC6 := hI c6
     have HST := hI (sizes_take_succ e.args j hlt')
     have HSL := hI (sizes_take_le e.args (j + 1))
     have HNT := hI (namesL_take e.args j hlt')
     have HNE3 := hI (namesL_len (e.args.take j))
     clear c6
     generalize e.args[j] = a' at *
     go_wp2_with fail
     refine (IH.out a' _ _ _ al nl cl (by have := HST.out; have := HSL.out; omega) HC6.out HSJ.out (by have := HST.out; have := HSL.out; have := HNL.out; have := HNE3.out; omega)).mono ?_
     rintro r w2 ⟨a2, c2', rfl, hs2, hx2⟩
     have HL2 := hI (show (gath (namesE a') (gath (namesL (e.args.take j)) l1)).length <= n + 1 + (namesL (e.args.take (j + 1))).length by
      have h1 := gath_len (namesE a') (gath (namesL (e.args.take j)) l1)
      have h2 := HSJ.out.1
      have h3 := HNL.out
      rw [HNT.out, List.length_append]; omega)
     have HS2 := hI (show IsStrs w2 (gath (namesL (e.args.take (j + 1))) l1) a2 (gath (namesE a') (gath (namesL (e.args.take j)) l1)).length c2' by rw [HNT.out, gath_append]; exact hs2)
     have HX2 := hI (HXJ.out.trans hx2)
     clear hs2 hx2 c0 c1 c2 c3 c4 c5 b0 b1 b2 b3 b4 b5 bf hlx
     generalize (gath (namesE a') (gath (namesL (e.args.take j)) l1)).length = n2 at *
     go_wp2_with fail
     go_roundg (na - (j + 1))
     case measure => have := HGN.out; omega
     case rel => exact ⟨j + 1, a2, n2, c2', by omega, rfl, by go_num, rfl, HL2.out, HS2.out, HX2.out⟩
    have HE2 := hI (show e.args.take j = e.args from List.take_of_length_le (by have := HNA.out; omega))
    have td : decide ((j : Int) < (na : Int)) = false := by simp; omega
    rw [HE2.out, <- HNE.out] at HSJ
    have HLN := hI HSJ.out.1
    go_wp2_with fail
    go_ret
    refine ⟨al, cl, ?_, ?_, HX.out.trans HXJ.out⟩
    ·rw [<- HLN.out]; rfl
    rw [<- HLN.out]; exact HSJ.out
theorem rnames_calls (e : Ex) (v : Value) (w : World) (hs : e.size <= 900000) (he : IsEx w e v) : Calls Tryz.prog 84 #[v] w (PutQ (refNames (namesE e)) w) := by
 obtain ⟨aw, nw, cw, aa, na, ca, rfl, -, -, -, -, -⟩ := he.parts
 have HX := hI ((Ext.refl w).alloc (.cells #[.int .i64 e.op, .string e.name, .slice aw nw cw, .int .i64 e.lo, .int .i64 e.hi, .slice aa na ca] 96))
 have HE := hI (he.ext HX.out)
 clear he
 unfold exV at *
 go_enter Tryz.func84, Tryz.ntmps84
 go_wp2_with fail
 refine (gather_calls 900000 (by omega) e _ _ [] none 0 0 hs HE.out ⟨rfl, Nat.le_refl 0, Or.inl ⟨rfl, rfl⟩, fun i hi => by simp at hi⟩ (by omega)).mono ?_
 rintro r w1 ⟨a1, c1, rfl, hs1, hx1⟩
 have HS1 := hI hs1
 have HX1 := hI (HX.out.trans hx1)
 clear hs1 hx1
 go_wp2_with fail
 go_ret
 exact ⟨a1, c1, rfl, HS1.out, HX1.out⟩
theorem wpList_append_at {t e : TypeId} {z : Value} {size bytes : Nat} (E : ElemT t e z size bytes) {ops : Array Oper} {rest : List Oper} {o : Oper} {a : Act} {Q : Exit -> Act -> World -> Prop} {X : World} {arr : Array Value} {tt : TypeId}
  (hgd : o.guard = none) (s x : Operand) (ho : o.op = .call { callee := .builtin .append, args := #[s, x], argTypes := #[t, t] }) (base : Nat) (v : Value) (n : Nat) (xs : List Value) (hs : a.eval s = v) (hown : X.ownsRow base e size v n xs)
  (B m c : Nat) (hx : a.eval x = .slice (some ⟨B, 0, none⟩) m c) (hB : B = X.heap.size) (hl : arr.size = m * size) (h1 : ∀ u ∈ arr.toList, u.oneCell' = true) (hm : n + m <= maxLen) (hb : (n + m) * bytes <= 140737488355328) (hbase : base <= X.heap.size)
  (h : ∀ v' w', w'.ownsRow base e size v' (n + m) (xs ++ arr.toList) -> Chg (rowOf v) X w' -> (∀ k, v'.ownBlock = some k -> v.ownBlock = some k \/ X.heap.size <= k) -> wpList Tryz.prog ops Q rest (a.put o.dst v') w') : wpList Tryz.prog ops Q (o :: rest) a (X.alloc (.cells arr tt)) := by
 subst hB
 obtain ⟨i, hi, hz, hsz, hby⟩ := info_parts E.info
 refine wpList_append_own_at (w := X.alloc (.cells arr tt)) hgd s x t ho base e i z size bytes E.ht hi hz hsz hby E.hzs E.hsz v n xs hs (hown.alloc _) ⟨X.heap.size, 0, none⟩ m c arr.toList hx (by simpa using hl) ?_ h1 hm hb (by simp; omega) ?_
 ·intro j u hu
  have : (⟨X.heap.size, 0, none⟩ : Addr).add j = ⟨X.heap.size, j, none⟩ := by unfold Addr.add; split <;> simp_all
  rw [this, World.cell?_alloc_at _ _ _ _ rfl]
  simpa using hu
 intro v' w' h2 h3 _ h5
 refine h v' w' h2 ((((Ext.refl X).alloc _).chg _).trans (grown_chg h3) fun x hx => Or.inl hx) fun k hk => ?_
 rcases h5 with e | e
 ·exact Or.inl (e ▸ hk)
 rw [e] at hk; simp at hk; exact Or.inr (by omega)
theorem Chg.weak {N M : ZN} {w w' : World} (h : Chg N w w') (hs : ∀ x ∈ N, x ∈ M) : Chg M w w' := ⟨h.os, h.tape, h.output, h.size, fun k hk hn => h.block k hk fun hm => hn (hs k hm)⟩
theorem elemIntsR : ElemT 22 3 (.int .i64 0) 1 8 := ⟨by kernel_rfl, by kernel_rfl, rfl, by omega⟩
def natCs (l : ZN) : List Value := l.map fun (i : Nat) => Value.int .i64 (i : Int)
theorem owns_formR {w : World} {base : Nat} {e : TypeId} {size : Nat} {v : Value} {n : Nat} {xs : List Value} (h : w.ownsRow base e size v n xs) : ∃ a c, v = .slice a n c := by
 rcases h.2 with ⟨rfl, h0⟩ | ⟨g, cap, cur, rfl, _⟩
 ·exact ⟨none, 0, by rw [h0]⟩
 exact ⟨_, _, rfl⟩
def ROrdQ (l : List Dfn) (w : World) (e : Ending) (w' : World) : Prop := Ext w w' /\ ((Sorts l /\ ∃ a n c, e = .returned (.tuple #[.slice a n c, .int .i64 0])) \/ (¬ Sorts l /\ e = .returned (.tuple #[.slice none 0 0, .int .i64 10])))
def RO1 (w wb : World) (l : List Dfn) (bs n m : Nat) (v : Value) (wr : World) : Prop := ∃ o, m = countOf l - o.length /\ RInv l o /\ wr.ownsRow wb.heap.size 3 1 v o.length (natCs o) /\ SeenAt bs (marks o n) wr /\ Ext w wr /\ wb.heap.size <= wr.heap.size
def RO2 (w3 : World) (l : List Dfn) (o : ZN) (n : Nat) (nx lf i : Value) (wr : World) : Prop := ∃ k : Nat, i = .int .i64 k /\ k <= n /\ Ext w3 wr /\
 ((nx = .int .i64 (-1) /\ (∃ b : Bool, lf = .bool b /\ (b = true ↔ ∃ j, j < k /\ isDef l j = true /\ j ∉ o)) /\ ∀ j, j < k -> isDef l j = true -> j ∉ o -> missL l o j ≠ []) \/ (∃ (p : Nat) (b : Bool), nx = .int .i64 p /\ lf = .bool b /\ p < n /\ isDef l p = true /\ p ∉ o /\ missL l o p = []))
def RO3 (w5 : World) (l : List Dfn) (o : ZN) (nm : ZB) (rd i : Value) (wr : World) : Prop := ∃ (k : Nat) (b : Bool), i = .int .i64 k /\ k <= nm.length /\ rd = .bool b /\ (b = true ↔ ∀ s ∈ nm.take k, ∀ d, firstAt l s = some d -> d ∈ o) /\ Ext w5 wr
theorem ro3_step {l : List Dfn} {o : ZN} {nm : ZB} {k : Nat} (hk : k < nm.length) {b : Bool} (h : b = true ↔ ∀ s ∈ nm.take k, ∀ d, firstAt l s = some d -> d ∈ o) {b' : Bool} (hb : b' = true ↔ ∀ d, firstAt l nm[k] = some d -> d ∈ o) : (b && b') = true ↔ ∀ s ∈ nm.take (k + 1), ∀ d, firstAt l s = some d -> d ∈ o := by
 rw [Bool.and_eq_true, h, hb, List.take_succ_eq_append_getElem hk]
 constructor
 ·rintro ⟨h1, h2⟩ s hs d hd
  rcases List.mem_append.1 hs with h3 | h3
  ·exact h1 s h3 d hd
  simp only [List.mem_singleton] at h3; subst h3; exact h2 d hd
 intro h1
 exact ⟨fun s hs => h1 s (List.mem_append_left _ hs), h1 nm[k] (List.mem_append_right _ (by simp))⟩
theorem rOrder_calls (l : List Cla) (a : OA) (n c : Nat) (w : World) (hl : IsClas w l a n c) (hn : n <= 1000) (hsz : ∀ x ∈ l, x.cond.size <= 100000) :
  Calls Tryz.prog 49 #[.slice a n c] w (ROrdQ (l.map Cla.dfn) w) := by
 have HL := hI hl
 have HN := hI hl.len
 have HSZ := hI hsz
 obtain ⟨dl, hdl⟩ : ∃ dl, dl = l.map Cla.dfn := ⟨_, rfl⟩
 have HDL := hI hdl
 have HDN := hI (show n = dl.length by rw [hdl]; simpa using hl.len)
 rw [<- hdl]
 clear hl hsz hdl
 obtain ⟨i0, hi0, hz0, hz1, hz2⟩ := info_parts elemBools.info
 have hcn : countOf dl <= 1000 := by
  have h1 := HDN.out
  have h2 : countOf dl <= dl.length := by
   unfold countOf
   have := List.length_filter_le (isDef dl) (List.range dl.length)
   simpa using this
  omega
 go_enter Tryz.func49, Tryz.ntmps49
 go_wp2_with (at_make; refine wpList_make_full _ rfl _ _ 147 rfl w.heap.size 4 i0 (.bool false) 1 elemBools.ht hi0 hz0 hz1 _ _ _ _ n rfl rfl rfl rfl ?c1 ?c2 ?c3 ?_)
 case c1 => rw [hz2]; omega
 case c2 => unfold maxLen; omega
 case c3 => omega
 intro wb hown3 hgrow3
 obtain ⟨bs, hbs⟩ : ∃ bs, bs = w.heap.size := ⟨_, rfl⟩
 rw [<- hbs] at hown3 ⊢
 have HS3 := hI (SeenAt.of_owns hown3)
 have HX3 := hI (show Ext w wb from ⟨hgrow3.os, hgrow3.tape, hgrow3.output, hgrow3.size, fun k hk => hgrow3.block k hk (by simp)⟩)
 have HBS := hI hbs
 have hbl := HS3.out.lt
 clear hown3 hgrow3 hbs
 go_wp2_with fail
 go_loopg [4] (countOf dl) (RO1 w wb dl bs n)
 case atStart => exact ⟨[], rfl, RInv.start dl, World.ownsRow_nil _ _ _ _, by rw [marks_nil]; exact HS3.out, HX3.out, Nat.le_refl _⟩
 case round =>
  obtain ⟨o, hm, hinv, hown, hseen, hx, hwbz⟩ := hrel
  obtain ⟨wo, rfl⟩ : ∃ wo : World, wo = wr := ⟨_, rfl⟩
  have HM := hI hm
  have HI := hI hinv
  have HO := hI hown
  have HSE := hI hseen
  have HX := hI hx
  obtain ⟨oa, oc, hov⟩ := owns_formR hown
  subst hov
  have hol := hinv.le
  clear hm hinv hown hseen hx HS3 HX3
  go_wp2_with fail
  go_loopw [6, 7, 8] (RO2 wo dl o n) (fun _ _ i _ => n - (intOf i).toNat)
  case atStart => exact ⟨0, rfl, by omega, Ext.refl _, Or.inl ⟨rfl, ⟨false, rfl, by simp⟩, fun j h => by omega⟩⟩
  case round =>
   obtain ⟨k, rfl, hk, hxk, hcase⟩ := hrel
   obtain ⟨wk, rfl⟩ : ∃ wk : World, wk = wr := ⟨_, rfl⟩
   have HXK := hI hxk
   clear hxk
   rcases hcase with ⟨rfl, ⟨b, rfl, hb⟩, hno⟩ | ⟨p, b, rfl, rfl, hpn, hpd, hpo, hpm⟩
   ·have HB := hI hb
    have HNO := hI hno
    clear hb hno
    by_cases hkn : k < n
    ·have hkl : k < l.length := by have := HN.out; omega
     have t1 : decide ((k : Int) < (n : Int)) = true := decide_eq_true (by omega)
     obtain ⟨cb, coff, v, rfl, hcla, hrow⟩ := (HL.out.ext (HX.out.trans HXK.out)).at hkl
     obtain ⟨c0, c1, c2, c3, c4, c5, c6, c7, c8, c9⟩ := hrow.ten
     have HEX := hI hcla.2.2.1
     have hkk := hcla.1
     have HID := hI (show isDef dl k = (l[k].kind == 1) by rw [HDL.out]; exact isDef_dfn hkl)
     have HUS := hI (show usesAt dl k = refNames (namesE l[k].cond) by rw [HDL.out]; exact usesAt_dfn hkl)
     rw [hkk] at c0
     have hLk : k < (marks o n).length := by rw [marks_len]; exact hkn
     have hcs := (HSE.out.ext HXK.out).cell hLk
     rw [marks_at hkn] at hcs
     have ti0 : (0 : Int) <= (k : Int) := by omega
     have ti1 : (k : Int) < (n : Int) := by omega
     clear hcla hrow hkk c1 c8 c9
     by_cases hgo : isDef dl k = true /\ k ∉ o
     ·obtain ⟨hgd, hgo⟩ := hgo
      have tk : (l[k].kind != 1) = false := by rw [HID.out] at hgd; simp [bne, hgd]
      have tdone : decide (k ∈ o) = false := decide_eq_false hgo
      rw [tdone] at hcs
      clear tdone
      have HGO := hI hgo
      have HGD := hI hgd
      clear hgo hgd
      go_wp2_with fail
      obtain ⟨nm, hnm⟩ : ∃ nm, nm = refNames (namesE l[k].cond) := ⟨_, rfl⟩
      have hszk := HSZ.out _ (List.getElem_mem hkl)
      refine (rnames_calls l[k].cond _ _ (by omega) HEX.out).mono ?_
      rw [<- hnm]
      rw [<- hnm] at HUS
      rintro r w5 ⟨na, nc, rfl, hst, hx5⟩
      have HST := hI hst
      have HX5 := hI (HXK.out.trans hx5)
      have hnml : nm.length <= 100000 := by
       rw [hnm]
       have h1 : (refNames (namesE l[k].cond)).length <= (namesE l[k].cond).length := by have := fold_len (namesE l[k].cond) []; simpa [refNames] using this
       exact Nat.le_trans h1 (Nat.le_trans (namesE_len _) hszk)
      clear hst hx5 hnm c0 c2 c3 c4 c5 c6 c7 hcs HEX
      go_wp2_with fail
      go_loopw [9, 11] (RO3 w5 dl o nm) (fun _ i _ => nm.length - (intOf i).toNat)
      case atStart => exact ⟨0, true, rfl, by omega, rfl, by simp, Ext.refl _⟩
      case round =>
       obtain ⟨q, rd, rfl, hq, rfl, hrd, hxq⟩ := hrel
       have HRD := hI hrd
       have HXQ := hI hxq
       clear hrd hxq
       by_cases hqn : q < nm.length
       ·have t2 : decide ((q : Int) < (nm.length : Int)) = true := decide_eq_true (by omega)
        obtain ⟨nb, noff, rfl, cn⟩ := (HST.out.ext HXQ.out).2.2.2 q hqn
        have hXall := HX.out.trans (HX5.out.trans HXQ.out)
        have HDC := hI (rDef_calls l _ n c nm[q] wr (HL.out.ext hXall) (by omega))
        have HFA := hI (show firstAt dl nm[q] = defAt l nm[q] by rw [HDL.out]; exact firstAt_dfn l _)
        cases hda : defAt l nm[q] with
        | none =>
         rw [hda, optV_none] at HDC
         have HN3 := hI (ro3_step hqn HRD.out (b' := true) (by rw [HFA.out, hda]; simp))
         clear hda hXall
         cases rd
         all_goals
          go_wp2_with fail
          refine HDC.out.mono ?_
          rintro r w6 ⟨rfl, rfl⟩
          go_wp2_with fail
          go_roundw
          case rel => exact ⟨q + 1, _, by go_num, by omega, rfl, HN3.out, HXQ.out⟩
          case measure => simp [intOf]; omega
        | some d =>
         rw [hda, optV_some] at HDC
         have hdl' : d < l.length := by
          have := hda
          unfold defAt at this
          rw [List.findIdx?_eq_some_iff_getElem] at this
          exact this.1
         have hdn : d < n := by have := HN.out; omega
         have HN3 := hI (ro3_step hqn HRD.out (b' := decide (d ∈ o)) (by rw [HFA.out, hda]; simp))
         have hLd : d < (marks o n).length := by rw [marks_len]; exact hdn
         have hcd := (HSE.out.ext (HX5.out.trans HXQ.out)).cell hLd
         rw [marks_at hdn] at hcd
         have td0 : (0 : Int) <= (d : Int) := by omega
         have td1 : (d : Int) < (n : Int) := by omega
         clear hda hXall
         cases rd
         all_goals
          go_wp2_with fail
          refine HDC.out.mono ?_
          rintro r w6 ⟨rfl, rfl⟩
          go_wp2_with fail
          go_roundw
          case rel => exact ⟨q + 1, _, by go_num, by omega, rfl, HN3.out, HXQ.out⟩
          case measure => simp [intOf]; omega
       have t2 : decide ((q : Int) < (nm.length : Int)) = false := decide_eq_false (by omega)
       have HMI := hI (show rd = true ↔ missL dl o k = [] by
        rw [HRD.out, List.take_of_length_le (by omega), miss_nil, HUS.out])
       cases rd
       ·go_wp2_with fail
        go_roundw
        case rel =>
         refine ⟨k + 1, by go_num, by omega, HX5.out.trans HXQ.out, Or.inl ⟨rfl, ⟨true, rfl, ?_⟩, fun j hj hd ho => ?_⟩⟩
         ·exact ⟨fun _ => ⟨k, by omega, HGD.out, HGO.out⟩, fun _ => rfl⟩
         by_cases e : j = k
         ·subst e; intro h; have := HMI.out.2 h; cases this
         exact HNO.out j (by omega) hd ho
        case measure => simp [intOf]; omega
       go_wp2_with fail
       go_roundw
       case rel => exact ⟨k + 1, by go_num, by omega, HX5.out.trans HXQ.out, Or.inr ⟨k, true, rfl, rfl, hkn, HGD.out, HGO.out, HMI.out.1 rfl⟩⟩
       case measure => simp [intOf]; omega
     have HSK := hI (show ∃ b' : Bool, Value.bool b = .bool b' /\ (b' = true ↔ ∃ j, j < k + 1 /\ isDef dl j = true /\ j ∉ o) from ⟨b, rfl, by
      rw [HB.out]
      constructor
      ·rintro ⟨j, h1, h2⟩; exact ⟨j, by omega, h2⟩
      rintro ⟨j, h1, h2, h3⟩
      refine ⟨j, ?_, h2, h3⟩
      rcases Nat.lt_or_ge j k with h | h
      ·exact h
      obtain rfl : j = k := by omega
      exact absurd ⟨h2, h3⟩ hgo⟩)
     have HN2 := hI (show ∀ j, j < k + 1 -> isDef dl j = true -> j ∉ o -> missL dl o j ≠ [] from fun j hj hd ho => by
      rcases Nat.lt_or_ge j k with h | h
      ·exact HNO.out j h hd ho
      obtain rfl : j = k := by omega
      exact absurd ⟨hd, ho⟩ hgo)
     by_cases hkd : isDef dl k = true
     ·have tk : (l[k].kind != 1) = false := by rw [HID.out] at hkd; simp [bne, hkd]
      have hin : decide (k ∈ o) = true := decide_eq_true (Classical.byContradiction fun h => hgo ⟨hkd, h⟩)
      rw [hin] at hcs
      clear hin hgo hkd
      go_wp2_with fail
      go_roundw
      case rel => exact ⟨k + 1, by go_num, by omega, HXK.out, Or.inl ⟨rfl, HSK.out, HN2.out⟩⟩
      case measure => simp [intOf]; omega
     have tk : (l[k].kind != 1) = true := by rw [HID.out] at hkd; simp [bne, hkd]
     clear hgo hkd
     go_wp2_with fail
     go_roundw
     case rel => exact ⟨k + 1, by go_num, by omega, HXK.out, Or.inl ⟨rfl, HSK.out, HN2.out⟩⟩
     case measure => simp [intOf]; omega
    have t1 : decide ((k : Int) < (n : Int)) = false := decide_eq_false (by omega)
    have hkd : k = dl.length := by have := HDN.out; omega
    have HXE := hI (HX.out.trans HXK.out)
    cases hbc : b
    ·have HTS := hI (show Sorts dl from ⟨o, HI.out.done fun i hi => Classical.byContradiction fun h => by
      have := HB.out.2 ⟨i, by rw [hkd]; exact isDef_lt hi, hi, h⟩
      rw [hbc] at this; cases this⟩)
     clear hkd
     go_wp2_with fail
     go_ret2
     exact ⟨HXE.out, Or.inl ⟨HTS.out, oa, _, oc, rfl⟩⟩
    obtain ⟨j, hj1, hj2, hj3⟩ := HB.out.1 hbc
    have HTS := hI (show ¬ Sorts dl from RInv.stuck (fun i hi ho => HNO.out i (by rw [hkd]; exact isDef_lt hi) hi ho) hj2 hj3)
    clear hkd
    go_wp2_with fail
    go_ret2
    exact ⟨HXE.out, Or.inr ⟨HTS.out, rfl⟩⟩
   have t2 : decide ((p : Int) < 0) = false := decide_eq_false (by omega)
   have HSN := hI (HI.out.snoc hpd hpo hpm)
   have hlt := HI.out.lt hpd hpo
   have HOK := hI (owns_chg HO.out (HXK.out.chg []) (by simp))
   have HSK := hI (HSE.out.ext HXK.out)
   have hbk := HSK.out.lt
   have hLp : p < (marks o n).length := by rw [marks_len]; exact hpn
   have hzk := HXK.out.size
   have hfs := HSK.out.free p
   have hcp := HSK.out.cell hLp
   have HSS := hI HSK.out
   have tp0 : (0 : Int) <= (p : Int) := by omega
   have tp1 : (p : Int) < (n : Int) := by omega
   clear hpd hpo hpm
   by_cases hkn : k < n
   case' pos => have t1 : decide ((k : Int) < (n : Int)) = true := decide_eq_true (by omega)
   case' neg => have t1 : decide ((k : Int) < (n : Int)) = false := decide_eq_false (by omega)
   all_goals
    go_wp2_with (at_builtin; refine wpList_append_at elemIntsR rfl _ _ rfl wb.heap.size _ o.length _ rfl HOK.out _ 1 1 rfl rfl rfl (by simp [Value.oneCell']) (by unfold maxLen; omega) (by omega) (by omega) ?_)
    intro v8 w8 hown8 hc8 hw8
    obtain ⟨a8, c8, hv8⟩ := owns_formR hown8
    subst hv8
    have hbr : bs ∉ rowOf (.slice oa o.length oc) := fun hm => by have := (HO.out.lt bs (mem_rowOf.1 hm)).1; omega
    have hS8 : SeenAt bs (marks o n) w8 := by
     obtain ⟨cur, g1, g2⟩ := HSS.out.row
     exact ⟨cur, hc8.blk g1 hbr, g2⟩
    have hf8 := hS8.free p
    have hc8' := hS8.cell hLp
    have HS9 := hI (hS8.set p true)
    rw [marks_set] at HS9
    have hbl8 := hS8.lt
    have HO8 := hI (show w8.ownsRow wb.heap.size 3 1 (.slice a8 (o.length + 1) c8) (o ++ [p]).length (natCs (o ++ [p])) by simpa [natCs] using hown8)
    have HX8 := hI (hc8.ext (HX.out.trans HXK.out) (fun q hq => by have h1 := (HO.out.lt q (mem_rowOf.1 hq)).1; have h2 := HBS.out; omega))
    have hz8 := hc8.size
    have hne8 : ∀ q, (Value.slice a8 (o.length + 1) c8).ownBlock = some q -> q ∉ [bs] := fun q hq hm => by
     simp only [List.mem_singleton] at hm
     subst hm
     rcases hw8 q hq with e | e
     ·exact hbr (mem_rowOf.2 e)
     omega
    have HO9 := hI (owns_chg HO8.out ((Chg.refl [bs] w8).setCell (p := ⟨bs, p, none⟩) (Or.inl (by simp)) (.bool true)) hne8)
    clear hown8 hc8 hw8 hS8 hfs hcp hbr hne8
    go_wp2_with fail
    go_roundg (countOf dl - (o.length + 1))
    case rel => exact ⟨o ++ [p], by simp, HSN.out, HO9.out, HS9.out, HX8.out.setAbove (by simp; rw [HBS.out]; exact Nat.le_refl _) _, by simp; omega⟩
    case measure => have := HM.out; omega
end Go.Proofs.YtefjomofjejklaaGreat
