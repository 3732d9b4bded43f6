/-
  Texts of the claim, joined: RBerr, ROrd1, Seen, Names2, Names3, Names4.
-/
import Derived.Test.YtfjlglefodndjaaGreatDoorCc13
import Derived.Test.YtfjlglefodndjaaGreatDoorCc11
import Derived.Test.YtfjlglefodndjaaGreatDoorCc03
import Derived.Test.YtfjlglefodndjaaGreatDoorCc02
import Derived.Test.YtfjlglefodndjaaGreatDoorCc06
import Derived.Test.YtfjlglefodndjaaGreatDoorCc09
import Derived.StringKeys
import Derived.Deep.DeepCutAuto
import Derived.Deep.LoopGhost
import Derived.Laws.Cover1
import Derived.Sort.Walk0
namespace Go.Proofs.YtfjlglefodndjaaGreatDoor
open Go.RowKit

def itemErr (s : List Attr) (l : List Cla) (x : Wb) : Int := if nodesErr s l x.cond ≠ 0 then nodesErr s l x.cond else backsErr s l x.unl
theorem itemErr_mk (s : List Attr) (l : List Cla) (n : ByteArray) (c : Ex) (u : List Wb) : itemErr s l (.mk n c u) = if nodesErr s l c ≠ 0 then nodesErr s l c else backsErr s l u := rfl
theorem backsErr_cons (s : List Attr) (l : List Cla) (x : Wb) (r : List Wb) : backsErr s l (x :: r) = if itemErr s l x ≠ 0 then itemErr s l x else backsErr s l r := by
  obtain ⟨n, c, u⟩ := x
  rw [backsErr, itemErr_mk]
  by_cases hn : nodesErr s l c = 0
  · simp [hn]
  · simp [hn]
theorem backsErr_zero {s : List Attr} {l : List Cla} : (r : List Wb) → (∀ j (h : j < r.length), itemErr s l r[j] = 0) → backsErr s l r = 0
  | [], _ => by rw [backsErr]
  | x :: r, h => by
    have h0 : itemErr s l x = 0 := h 0 (by simp)
    have hr := backsErr_zero r fun j hj => by have := h (j + 1) (by simpa using hj); simpa using this
    rw [backsErr_cons, h0, hr]; simp
theorem backsErr_hit {s : List Attr} {l : List Cla} : (r : List Wb) → (k : Nat) → (hk : k < r.length) → itemErr s l r[k] ≠ 0 → (∀ j (h : j < k), itemErr s l (r[j]'(by omega)) = 0) → backsErr s l r = itemErr s l r[k]
  | [], k, hk, _, _ => by simp at hk
  | x :: r, 0, _, h, _ => by
    have h' : itemErr s l x ≠ 0 := h
    show backsErr s l (x :: r) = itemErr s l x
    rw [backsErr_cons, if_pos h']
  | x :: r, k + 1, hk, h, h0 => by
    have h1 : itemErr s l x = 0 := h0 0 (by omega)
    have hr := backsErr_hit r k (by simpa using hk) (by simpa using h) fun j hj => by have := h0 (j + 1) (by omega); simpa using this
    simp only [List.getElem_cons_succ]
    rw [backsErr_cons, h1, hr]; simp
def itemLarge (l : List Cla) (x : Wb) : Bool := decide (2000 < expanded l x.cond) || backsLarge l x.unl
theorem backsLarge_any (l : List Cla) : (r : List Wb) → backsLarge l r = r.any (itemLarge l)
  | [] => by simp [backsLarge]
  | .mk n c u :: r => by rw [backsLarge, backsLarge_any l r]; rfl
set_option maxRecDepth 100000 in
set_option maxHeartbeats 8000000 in
theorem rbackErr_calls (s : List Attr) (l : List Cla) (hf : ∀ x ∈ s, x.fits) (hsl : s.length ≤ 1000000000000000) (a : Option Addr) (n c : Nat) (hn : n ≤ 1000000000000000) (m : Nat) : ∀ (r : List Wb) (ra : Option Addr) (rn rc : Nat) (sv : Value) (w : World), wbN r < m → m ≤ 1000000000000000 → wbOk r → IsSchema w s sv → IsClas w l a n c → WbsD w r ra → rn = r.length →
    Calls Tryz.prog 36 #[sv, .slice a n c, .slice ra rn rc] w (GivesE (.int .i64 (backsErr s l r)) w) := by
  induction m with
  | zero => intro r ra rn rc sv w h; omega
  | succ m ih =>
    intro r ra rn rc sv w hm hM hok hs hl hd hrn
    obtain ⟨sa, sn, sc, rfl, hsn⟩ := hs.slice
    have hrl := wbN_len r
    have hrn2 : rn ≤ 1000000000000000 := by omega
    have HS := Lib.hid hs
    have HL := Lib.hid hl
    have HD := Lib.hid hd
    have HRN := Lib.hid hrn
    have HOK := Lib.hid hok
    have IH := Lib.hid ih
    have HF := Lib.hid hf
    clear hs hl hd hrn hok ih hsn hf
    go_enter Tryz.func36, Tryz.ntmps36
    go_wp2_with fail
    go_loopw [7] (fun t wr => ∃ k : Nat, t = .int .i64 k ∧ k ≤ rn ∧ (∀ j (h : j < r.length), j < k → itemErr s l r[j] = 0) ∧ wr.heap[w.heap.size]? = some (.cells #[.slice sa sn sc] 24 (0, 0)) ∧ Ext w wr) (fun t _ => rn - (intOf t).toNat)
    case atStart => exact ⟨0, rfl, by omega, fun j _ h => by omega, alloc_new w _, (Ext.refl w).alloc _⟩
    case round =>
      obtain ⟨k, rfl, hk, hno, hbx, hxr⟩ := hrel
      have HNO := Lib.hid hno
      have HBX := Lib.hid hbx
      have HXR := Lib.hid hxr
      obtain ⟨d0, df⟩ := blk1 hbx
      clear hno hbx hxr
      by_cases hkn : k < rn
      · have hkl : k < r.length := by have := HRN.out; omega
        have t1 : decide ((k : Int) < (rn : Int)) = true := decide_eq_true (by omega)
        obtain ⟨b, off, rfl, v, hv0, hrow, hv2, hv3, hv4, hv5, hv6⟩ := WbsD.at r _ (WbsD.mono HXR.out.sub _ _ HD.out) k hkl
        obtain ⟨c0, c1, c2, c3, c4, c5, c6, c7⟩ := hrow.eight
        obtain ⟨ho1, ho2, ho3, ho4, ho5⟩ := wbOk_at r HOK.out k hkl
        have hwn := wbN_at r k hkl
        have HUU := Lib.hid hv6
        have HUN := Lib.hid hv3
        have HEX := Lib.hid hv2
        have HO3 := Lib.hid ho3
        have HO5 := Lib.hid ho5
        have ti0 : (0 : Int) ≤ (k : Int) := by omega
        have ti1 : (k : Int) < (rn : Int) := by omega
        clear hrow hv0 hv2 hv3 hv4 hv5 hv6 ho2 ho3 ho5 ho1
        go_wp2_with fail
        go_still_tail 7, (by kernel_rfl)
        change wpList _ _ _ _ _ wr.drew
        have hx2 : Ext wr wr.drew := (Ext.refl wr).drew
        generalize wr.drew = w2 at hx2 ⊢
        have HX2 := Lib.hid (HXR.out.trans hx2)
        have HB2 := Lib.hid (hx2.blk HBX.out)
        have HEX2 := Lib.hid (HEX.out.ext hx2)
        have c7' := hx2.cell c7
        have HU2 := Lib.hid (WbsD.mono hx2.sub _ _ HUU.out)
        clear hx2 d0 df c0 c1 c2 c3 c4 c5 c6 c7
        go_wp2_with fail
        refine (rnodesErr_calls s l HF.out hsl a n c hn 1000000000000000 r[k].cond _ _ w2 ho4 (by omega) HO3.out (HS.out.ext HX2.out) (HL.out.ext HX2.out) HEX2.out).mono ?_
        rintro e w3 ⟨rfl, hx3⟩
        have HX3 := Lib.hid (HX2.out.trans hx3)
        have HB3 := Lib.hid (hx3.blk HB2.out)
        obtain ⟨d0, df⟩ := blk1 (hx3.blk HB2.out)
        have c73 := hx3.cell c7'
        have HU3 := Lib.hid (WbsD.mono hx3.sub _ _ HU2.out)
        clear hx3 c7'
        by_cases hz : nodesErr s l r[k].cond = 0
        · have tz : (nodesErr s l r[k].cond != 0) = false := by simp [hz]
          have HIE := Lib.hid (show itemErr s l r[k] = backsErr s l r[k].unl by unfold itemErr; rw [if_neg (by simp [hz])])
          clear hz
          go_wp2_with fail
          go_still_tail 7, (by kernel_rfl)
          change wpList _ _ _ _ _ w3.drew
          have hx4 : Ext w3 w3.drew := (Ext.refl w3).drew
          generalize w3.drew = w4 at hx4 ⊢
          have HX4 := Lib.hid (HX3.out.trans hx4)
          have HB4 := Lib.hid (hx4.blk HB3.out)
          have HU4 := Lib.hid (WbsD.mono hx4.sub _ _ HU3.out)
          clear hx4 d0 df c73
          go_wp2_with fail
          refine (IH.out r[k].unl _ _ _ _ w4 (by omega) (by omega) HO5.out (HS.out.ext HX4.out) (HL.out.ext HX4.out) HU4.out HUN.out).mono ?_
          rintro e w5 ⟨rfl, hx5⟩
          have HX5 := Lib.hid (HX4.out.trans hx5)
          have HB5 := Lib.hid (hx5.blk HB4.out)
          clear hx5
          by_cases hy : backsErr s l r[k].unl = 0
          · have ty : (backsErr s l r[k].unl != 0) = false := by simp [hy]
            have HY := Lib.hid hy
            clear hy
            go_wp2_with fail
            go_roundw
            case rel =>
              refine ⟨k + 1, by go_num, by omega, fun j hj hjk => ?_, HB5.out, HX5.out⟩
              by_cases e' : j = k
              · subst e'; rw [HIE.out]; exact HY.out
              · exact HNO.out j hj (by omega)
            case measure => simp [intOf]; omega
          · have ty : (backsErr s l r[k].unl != 0) = true := by simp [hy]
            have HR := Lib.hid (show backsErr s l r = backsErr s l r[k].unl by rw [← HIE.out]; exact backsErr_hit r k hkl (by rw [HIE.out]; exact hy) fun j hj => HNO.out j (by omega) hj)
            clear hy
            go_wp2_with fail
            go_ret
            exact givesE_of (by rw [HR.out]) HX5.out
        · have tz : (nodesErr s l r[k].cond != 0) = true := by simp [hz]
          have HIE : itemErr s l r[k] = nodesErr s l r[k].cond := by unfold itemErr; rw [if_pos hz]
          have HR := Lib.hid (show backsErr s l r = nodesErr s l r[k].cond by rw [← HIE]; exact backsErr_hit r k hkl (by rw [HIE]; exact hz) fun j hj => HNO.out j (by omega) hj)
          clear hz HIE
          go_wp2_with fail
          go_ret
          exact givesE_of (by rw [HR.out]) HX3.out
      · have t1 : decide ((k : Int) < (rn : Int)) = false := decide_eq_false (by omega)
        have HR := Lib.hid (show backsErr s l r = 0 from backsErr_zero r fun j hj => HNO.out j hj (by have := HRN.out; omega))
        go_wp2_with fail
        go_ret
        exact givesE_of (by rw [HR.out]) HXR.out
set_option maxRecDepth 100000 in
set_option maxHeartbeats 8000000 in
theorem rbackLarge_calls (l : List Cla) (a : Option Addr) (n c : Nat) (hn : n ≤ 1000000) (hsz : ∀ x ∈ l, x.cond.size ≤ 1000000000000000) (m : Nat) : ∀ (r : List Wb) (ra : Option Addr) (rn rc : Nat) (w : World), wbN r < m → m ≤ 1000000000000000 → wbOk r → IsClas w l a n c → WbsD w r ra → rn = r.length →
    Calls Tryz.prog 39 #[.slice a n c, .slice ra rn rc] w (GivesE (.bool (backsLarge l r)) w) := by
  induction m with
  | zero => intro r ra rn rc w h; omega
  | succ m ih =>
    intro r ra rn rc w hm hM hok hl hd hrn
    have hrl := wbN_len r
    have hrn2 : rn ≤ 1000000000000000 := by omega
    have HL := Lib.hid hl
    have HD := Lib.hid hd
    have HRN := Lib.hid hrn
    have HOK := Lib.hid hok
    have IH := Lib.hid ih
    have HSZ := Lib.hid hsz
    obtain ⟨R, hR⟩ : ∃ R, R = backsLarge l r := ⟨_, rfl⟩
    rw [← hR]
    have HR := Lib.hid (show R = r.any (itemLarge l) by rw [hR]; exact backsLarge_any l r)
    clear hl hd hrn hok ih hR hsz
    go_enter Tryz.func39, Tryz.ntmps39
    go_wp2_with fail
    go_loopw [5] (fun t wr => ∃ k : Nat, t = .int .i64 k ∧ k ≤ rn ∧ (∀ j (h : j < r.length), j < k → itemLarge l r[j] = false) ∧ Ext w wr) (fun t _ => rn - (intOf t).toNat)
    case atStart => exact ⟨0, rfl, by omega, fun j _ h => by omega, Ext.refl _⟩
    case round =>
      obtain ⟨k, rfl, hk, hno, hxr⟩ := hrel
      have HNO := Lib.hid hno
      have HXR := Lib.hid hxr
      clear hno hxr
      by_cases hkn : k < rn
      · have hkl : k < r.length := by have := HRN.out; omega
        have t1 : decide ((k : Int) < (rn : Int)) = true := decide_eq_true (by omega)
        obtain ⟨b, off, rfl, v, hv0, hrow, hv2, hv3, hv4, hv5, hv6⟩ := WbsD.at r _ (WbsD.mono HXR.out.sub _ _ HD.out) k hkl
        obtain ⟨c0, c1, c2, c3, c4, c5, c6, c7⟩ := hrow.eight
        obtain ⟨ho1, ho2, ho3, ho4, ho5⟩ := wbOk_at r HOK.out k hkl
        have hwn := wbN_at r k hkl
        have HUU := Lib.hid hv6
        have HUN := Lib.hid hv3
        have HEX := Lib.hid hv2
        have HO5 := Lib.hid ho5
        clear hrow hv0 hv2 hv3 hv4 hv5 hv6 ho2 ho3 ho5 ho1
        go_wp2_with fail
        refine (rExpanded_calls l a n c hn HSZ.out r[k].cond _ wr ho4 (HL.out.ext HXR.out) HEX.out).mono ?_
        rintro e w3 ⟨rfl, hx3⟩
        have HX3 := Lib.hid (HXR.out.trans hx3)
        have c73 := hx3.cell c7
        have HU3 := Lib.hid (WbsD.mono hx3.sub _ _ HUU.out)
        clear hx3 c0 c1 c2 c3 c4 c5 c6 c7
        have HIL := Lib.hid (show itemLarge l r[k] = (decide (2000 < expanded l r[k].cond) || backsLarge l r[k].unl) from rfl)
        obtain ⟨E, hE⟩ : ∃ E, E = expanded l r[k].cond := ⟨_, rfl⟩
        rw [← hE]
        rw [← hE] at HIL
        clear hE
        by_cases hz : 2000 < E
        · have tz : decide ((2000 : Int) < (E : Int)) = true := decide_eq_true (by omega)
          have HF := Lib.hid (show R = true by
            rw [HR.out, List.any_eq_true]
            exact ⟨r[k], List.getElem_mem hkl, by rw [HIL.out, decide_eq_true hz]; rfl⟩)
          go_wp2_with fail
          go_ret
          exact givesE_b (by rw [HF.out]) HX3.out
        · have tz : decide ((2000 : Int) < (E : Int)) = false := decide_eq_false (by omega)
          rw [decide_eq_false hz, Bool.false_or] at HIL
          go_wp2_with fail
          refine (IH.out r[k].unl _ _ _ w3 (by omega) (by omega) HO5.out (HL.out.ext HX3.out) HU3.out HUN.out).mono ?_
          rintro e w5 ⟨rfl, hx5⟩
          have HX5 := Lib.hid (HX3.out.trans hx5)
          clear hx5 c73
          cases hb : backsLarge l r[k].unl
          · have HI2 := Lib.hid (HIL.out.trans hb)
            clear hb
            go_wp2_with fail
            go_roundw
            case rel =>
              refine ⟨k + 1, by go_num, by omega, fun j hj hjk => ?_, HX5.out⟩
              by_cases e' : j = k
              · subst e'; exact HI2.out
              · exact HNO.out j hj (by omega)
            case measure => simp [intOf]; omega
          · have HF := Lib.hid (show R = true by
              rw [HR.out, List.any_eq_true]
              exact ⟨r[k], List.getElem_mem hkl, by rw [HIL.out, hb]⟩)
            go_wp2_with fail
            go_ret
            exact givesE_b (by rw [HF.out]) HX5.out
      · have t1 : decide ((k : Int) < (rn : Int)) = false := decide_eq_false (by omega)
        have HF := Lib.hid (show R = false by
          rw [HR.out, List.any_eq_false]
          intro x hx
          obtain ⟨j, hj, rfl⟩ := List.mem_iff_getElem.1 hx
          have := HNO.out j hj (by have := HRN.out; omega)
          simp [this])
        go_wp2_with fail
        go_ret
        exact givesE_b (by rw [HF.out]) HXR.out
end Go.Proofs.YtfjlglefodndjaaGreatDoor

namespace Go.Proofs.YtfjlglefodndjaaGreatDoor

/-! The plain law of the reference's Order. -/
structure RInv (l : List Dfn) (o : List Nat) : Prop where
  nodup : o.Nodup
  sub : ∀ i ∈ o, isDef l i = true
  after : After l o
theorem RInv.start (l : List Dfn) : RInv l [] := ⟨List.nodup_nil, by simp, fun p i h => by simp at h⟩
theorem RInv.snoc {l : List Dfn} {o : List Nat} {p : Nat} (h : RInv l o) (hd : isDef l p = true) (hp : p ∉ o) (hm : missL l o p = []) : RInv l (o ++ [p]) where
  nodup := List.nodup_append.2 ⟨h.nodup, by simp, fun a ha b hb e => hp (by simp at hb; rw [← hb, ← e]; exact ha)⟩
  sub i hi := by
    rcases List.mem_append.1 hi with h1 | h1
    · exact h.sub i h1
    · simp at h1; rw [h1]; exact hd
  after := h.after.snoc hm
theorem RInv.le {l : List Dfn} {o : List Nat} (h : RInv l o) : o.length ≤ countOf l := nodup_le _ _ h.nodup fun i hi => mem_defs.2 (h.sub i hi)
theorem RInv.lt {l : List Dfn} {o : List Nat} {p : Nat} (h : RInv l o) (hd : isDef l p = true) (hp : p ∉ o) : o.length < countOf l := by
  have := nodup_le (p :: o) ((List.range l.length).filter (isDef l)) (List.nodup_cons.2 ⟨hp, h.nodup⟩) (fun i hi => by
    rcases List.mem_cons.1 hi with rfl | hi
    · exact mem_defs.2 hd
    · exact mem_defs.2 (h.sub i hi))
  simp only [List.length_cons] at this
  unfold countOf
  omega
theorem RInv.done {l : List Dfn} {o : List Nat} (h : RInv l o) (ha : ∀ i, isDef l i = true → i ∈ o) : Topo l o := ⟨h.nodup, fun i => ⟨h.sub i, ha i⟩, h.after⟩
theorem RInv.stuck {l : List Dfn} {o : List Nat} (hs : ∀ i, isDef l i = true → i ∉ o → missL l o i ≠ []) {p : Nat} (hd : isDef l p = true) (hp : p ∉ o) : ¬ Sorts l := by
  rintro ⟨q, hq⟩
  have key : ∀ (p i : Nat), q[p]? = some i → i ∈ o := by
    intro p
    induction p using Nat.strongRecOn with
    | ind p ih =>
      intro i hi
      refine Classical.byContradiction fun hio => ?_
      refine hs i ((hq.all i).1 (List.mem_of_getElem? hi)) hio (miss_nil.2 fun s hs d hd => ?_)
      obtain ⟨k, hk⟩ := List.mem_iff_getElem?.1 (hq.after p i hi s hs d hd)
      have hkp : k < p := by
        rcases Nat.lt_or_ge k p with h' | h'
        · exact h'
        · rw [List.getElem?_eq_none (by simp; omega)] at hk; cases hk
      rw [List.getElem?_take, if_pos hkp] at hk
      exact ih k hkp d hk
  obtain ⟨k, hk⟩ := List.mem_iff_getElem?.1 ((hq.all p).2 hd)
  exact hp (key k p hk)
end Go.Proofs.YtfjlglefodndjaaGreatDoor

namespace Go.Proofs.YtfjlglefodndjaaGreatDoor
open Go.RowKit

theorem elemBools : ElemT 106 4 (.bool false) 1 1 := ⟨by kernel_rfl, by kernel_rfl, rfl, by omega⟩
/-- Marks in a row of its own. -/
structure SeenAt (bs : Nat) (L : List Bool) (w : World) : Prop where
  row : ∃ cur : Array Value, w.heap[bs]? = some (.cells cur 4 (0, 0)) ∧ cur.toList = L.map Value.bool
theorem SeenAt.cell {bs : Nat} {L : List Bool} {w : World} (h : SeenAt bs L w) {i : Nat} (hi : i < L.length) : w.cell? ⟨bs, i, none⟩ = some (.bool L[i]) := by
  obtain ⟨cur, h1, h2⟩ := h.row
  rw [blk_cell h1]
  have : cur.toList[i]? = some (.bool L[i]) := by rw [h2]; simp [hi]
  simpa using this
theorem SeenAt.free {bs : Nat} {L : List Bool} {w : World} (h : SeenAt bs L w) (i : Nat) : w.frozen? ⟨bs, i, none⟩ = false := by
  obtain ⟨cur, h1, h2⟩ := h.row
  exact blk_free h1 i
theorem SeenAt.lt {bs : Nat} {L : List Bool} {w : World} (h : SeenAt bs L w) : bs < w.heap.size := by
  obtain ⟨cur, h1, h2⟩ := h.row
  exact blk_lt h1
theorem SeenAt.ext {bs : Nat} {L : List Bool} {w w' : World} (h : SeenAt bs L w) (hx : Ext w w') : SeenAt bs L w' := by
  obtain ⟨cur, h1, h2⟩ := h.row
  exact ⟨cur, hx.blk h1, h2⟩
theorem SeenAt.set {bs : Nat} {L : List Bool} {w : World} (h : SeenAt bs L w) (i : Nat) (b : Bool) : SeenAt bs (L.set i b) (w.setCell ⟨bs, i, none⟩ (.bool b)) := by
  obtain ⟨cur, h1, h2⟩ := h.row
  refine ⟨_, heap_setCell_same w bs i _ _ (.bool b) h1, ?_⟩
  simp [h2, List.map_set]
theorem SeenAt.of_owns {w : World} {base bs n : Nat} (h : w.ownsRow base 4 1 (.slice (some ⟨bs, 0, none⟩) n n) n (madeCells #[Value.bool false] n).toList) : SeenAt bs (List.replicate n false) w := by
  rcases h.2 with ⟨h0, _⟩ | ⟨g, cap, cur, hv, _, hg, _, _, hs, ht⟩
  · simp at h0
  · simp only [Value.slice.injEq, Option.some.injEq, Addr.mk.injEq, and_true, true_and] at hv
    obtain ⟨rfl, rfl⟩ := hv
    refine ⟨cur, hg, ?_⟩
    have e1 : cur.toList.take (n * 1) = cur.toList := List.take_of_length_le (by simp; omega)
    rw [e1] at ht
    rw [ht]
    simp only [madeCells, List.map_replicate]
    apply List.ext_getElem
    · simp
    · intro i h1 h2
      simp [Nat.mod_one]
/-- A mark for each index of o. -/
def marks (o : List Nat) (n : Nat) : List Bool := (List.range n).map fun j => decide (j ∈ o)
theorem marks_nil (n : Nat) : marks [] n = List.replicate n false := by simp [marks, List.map_const']
theorem marks_len (o : List Nat) (n : Nat) : (marks o n).length = n := by simp [marks]
theorem marks_at {o : List Nat} {n j : Nat} (hj : j < n) : (marks o n)[j]'(by rw [marks_len]; exact hj) = decide (j ∈ o) := by simp [marks]
theorem marks_set (o : List Nat) (n p : Nat) : (marks o n).set p true = marks (o ++ [p]) n := by
  apply List.ext_getElem
  · simp [marks]
  · intro j h1 h2
    have hj : j < n := by simpa [marks] using h2
    have e1 : (marks (o ++ [p]) n)[j] = decide (j ∈ o ++ [p]) := marks_at hj
    have e2 : (marks o n)[j]'(by rw [marks_len]; exact hj) = decide (j ∈ o) := marks_at hj
    rw [e1, List.getElem_set]
    by_cases e : p = j
    · subst e; simp
    · rw [if_neg e, e2]
      congr 1
      simp only [List.mem_append, List.mem_singleton]
      exact propext ⟨Or.inl, fun h => h.resolve_right fun h => e h.symm⟩
end Go.Proofs.YtfjlglefodndjaaGreatDoor

namespace Go.Proofs.YtfjlglefodndjaaGreatDoor
open Go.RowKit Go.Maps

theorem uStr2 : Tryz.prog.underlying 9 = some .string := by kernel_rfl
theorem keyedStr : Keyed Tryz.prog 9 := string_keyed uStr2
theorem uSet : Tryz.prog.underlying 84 = some (.map 9 86) := by kernel_rfl
/-- The map is the set of these names. -/
def SetAt (w : World) (b n : Nat) (l : List ByteArray) : Prop := ∃ D : DataW Unit, w.ownsMap Tryz.prog 9 unitElem b n D ∧ SetIs D l
theorem SetAt.chg {w w' : World} {b n : Nat} {l : List ByteArray} {N : List Nat} (h : SetAt w b n l) (hc : Chg N w w') (hn : b ∉ N) : SetAt w' b n l := by
  obtain ⟨D, ⟨es, clock, hb, r⟩, hs⟩ := h
  exact ⟨D, ⟨es, clock, hc.blk hb hn, r⟩, hs⟩
theorem SetAt.lt {w : World} {b n : Nat} {l : List ByteArray} (h : SetAt w b n l) : b < w.heap.size := by
  obtain ⟨D, h, _⟩ := h
  exact h.lt
theorem SetAt.mono {w : World} {b n n' : Nat} {l : List ByteArray} (h : SetAt w b n l) (hn : n ≤ n') : SetAt w b n' l := by
  obtain ⟨D, h, hs⟩ := h
  exact ⟨D, h.mono hn, hs⟩
def CollectQ (b n : Nat) (l : List ByteArray) (w : World) (e : Ending) (w' : World) : Prop := e = .returned (.tuple #[]) ∧ SetAt w' b n l ∧ Chg [b] w w'
theorem Chg.put_map {w w' : World} {b : Nat} (h : w.grownBy w' (some b)) : Chg [b] w w' := ⟨h.os, h.tape, h.output, h.size, fun k hk hn => h.block k hk (fun e => hn (by simp at e; simp [e]))⟩

theorem mask_in2 {w : World} {M : List Nat} {p : Addr} {v : Value} (h : (mask w M).cell? p = some v) : w.cell? p = some v := by
  rw [mask_cell] at h
  split at h
  · cases h
  · exact h
theorem fitsAll_mem : (l : List Ex) → fitsAll l → ∀ x ∈ l, x.fits
  | [], _, x, hx => by simp at hx
  | a :: r, h, x, hx => by
    unfold fitsAll at h
    rcases List.mem_cons.1 hx with rfl | hx
    · exact h.1
    · exact fitsAll_mem r h.2 x hx
theorem fits_parts2 {e : Ex} (h : e.fits) : e.name.size ≤ 1000000000000000 ∧ ∀ x ∈ e.args, x.fits := by
  cases e
  unfold Ex.fits at h
  exact ⟨h.1, fitsAll_mem _ h.2.2⟩

set_option maxRecDepth 100000 in
set_option maxHeartbeats 4000000 in
theorem collect_calls (m : Nat) : m ≤ 1000000 → ∀ (e : Ex) (v : Value) (w : World) (b n : Nat) (l : List ByteArray), e.size ≤ m → e.fits → IsEx (mask w [b]) e v → SetAt w b n l → n + e.size ≤ 1000000 →
    Calls Tryz.prog 68 #[v, .map (some b)] w (CollectQ b (n + e.size) (l ++ namesE e) w) := by
  induction m with
  | zero => intro _ e v w b n l h; have := size_pos e; omega
  | succ m ih =>
    intro hMM e v w b n l hm hfit he hset hn
    obtain ⟨aw, nw, cw, aa, na, ca, rfl, hw, hna, hca, ha, hx⟩ := he.parts
    have hS : e.size = 1 + sizes e.args := e.size_eq
    have hla := length_le_sizes e.args
    obtain ⟨hnm, hfa⟩ := fits_parts2 hfit
    have HFA := Lib.hid hfa
    have hbw := hset.lt
    have HX := Lib.hid ((Ext.refl w).alloc (.cells #[.int .i64 e.op, .string e.name, .slice aw nw cw, .int .i64 e.lo, .int .i64 e.hi, .slice aa na ca] 29))
    have HBX := Lib.hid (alloc_new w (.cells #[.int .i64 e.op, .string e.name, .slice aw nw cw, .int .i64 e.lo, .int .i64 e.hi, .slice aa na ca] 29))
    have HXS := Lib.hid (ExsD.mono (mask_ext [b] HX.out) e.args aa hx)
    have HSET := Lib.hid (hset.chg (HX.out.chg []) (by simp))
    have HNA := Lib.hid hna
    have HNM := Lib.hid (namesE_eq e)
    have HSZ := Lib.hid hS
    have IH := Lib.hid (ih (by omega))
    have hna2 : na ≤ 1000000 := by omega
    have hsz : sizes e.args ≤ m := by omega
    have hn2 : n + 1 + sizes e.args ≤ 1000000 := by omega
    clear hw hna hca ha hx he hset hS hla hfit hfa ih hm hn
    generalize namesE e = NE at *
    generalize e.size = SE at *
    unfold exV
    go_enter Tryz.func68, Tryz.ntmps68
    go_upto_region 1 with fail
    generalize w.alloc (.cells #[.int .i64 e.op, .string e.name, .slice aw nw cw, .int .i64 e.lo, .int .i64 e.hi, .slice aa na ca] 29) = wb at *
    have hz0 := HX.out.size
    obtain ⟨b0, b1, b2, b3, b4, b5, bf⟩ := blk6 HBX.out
    have hlx := blk_lt HBX.out
    by_cases h3 : e.op = 3
    case' pos =>
      have t3 : (e.op == 3) = true := by simp [h3]
      obtain ⟨D, hown, hsi⟩ := HSET.out
      have HOW := Lib.hid hown
      have HNE := Lib.hid (show NE = [e.name] ++ namesL e.args by rw [HNM.out, if_pos h3])
      have HSI := Lib.hid (hsi.put e.name (.agg []))
      clear hown hsi h3
      go_wp2_with (at_mapUpdate; refine wpList_mapUpdate_own _ rfl _ _ _ 84 rfl 9 86 keyedStr uSet (unitElem (H := Unit)) b n D rfl HOW.out ?c0 _ _ _ rfl rfl (Go.WideMaps.keyOf_string_mk uStr2 ?c1) _ [] unitElem_mk ?_)
      case c0 => unfold maxLen; omega
      case c1 => unfold maxLen; omega
      intro w1 hown1 hgrow1
      have hc1 := Chg.put_map hgrow1
      have HC1 := Lib.hid hc1
      obtain ⟨L, hL⟩ : ∃ L, L = l ++ [e.name] := ⟨_, rfl⟩
      have HS1 := Lib.hid (show SetAt w1 b (n + 1) L by rw [hL]; exact ⟨_, hown1, HSI.out⟩)
      have HB1 := Lib.hid (hc1.blk HBX.out (by simp; omega))
      have HNE1 := Lib.hid (show L ++ namesL e.args = l ++ NE by rw [hL, HNE.out, List.append_assoc])
      have hz1 := hc1.size
      clear hown1 hgrow1 hc1 HOW HSI HNE hL b0 b1 b2 b3 b4 b5 bf hlx
      go_upto_region 3 with fail
    case' neg =>
      have t3 : (e.op == 3) = false := by simp [h3]
      have HNE := Lib.hid (show NE = namesL e.args by rw [HNM.out, if_neg h3]; simp)
      have HC1 := Lib.hid (Chg.refl [b] wb)
      obtain ⟨L, hL⟩ : ∃ L, L = l := ⟨_, rfl⟩
      have HS1 := Lib.hid (show SetAt wb b (n + 1) L by rw [hL]; exact HSET.out.mono (Nat.le_succ n))
      have HB1 := HBX
      have HNE1 := Lib.hid (show L ++ namesL e.args = l ++ NE by rw [hL, HNE.out])
      have hz1 := Nat.le_refl wb.heap.size
      clear h3 HNE hL
      go_upto_region 3 with fail
      clear b0 b1 b2 b3 b4 b5 bf hlx
    all_goals
      obtain ⟨b0, b1, b2, b3, b4, b5, bf⟩ := blk6 HB1.out
      have hlx := blk_lt HB1.out
      go_wp2_with fail
      clear b0 b1 b2 b3 b4 b5 bf hlx
      go_loopg [16] na (fun g i wr => ∃ j : Nat, j ≤ na ∧ g = na - j ∧ i = .int .i64 j ∧ SetAt wr b (n + 1 + sizes (e.args.take j)) (L ++ namesL (e.args.take j)) ∧ Chg [b] wb wr)
      case atStart => exact ⟨0, by omega, rfl, rfl, by simpa [sizes, namesL] using HS1.out, HC1.out⟩
      case round =>
        obtain ⟨j, hj, hgj, rfl, hs, hc⟩ := hrel
        have HGN := Lib.hid hgj
        have HSJ := Lib.hid hs
        have HCJ := Lib.hid hc
        have hzr := hc.size
        clear hs hc hgj
        by_cases hlt : j < na
        · have hlt' : j < e.args.length := by have := HNA.out; omega
          have td : decide ((j : Int) < (na : Int)) = true := by simp; omega
          obtain ⟨bb, off, rfl, aw1, nw1, cw1, aa1, na1, ca1, c0, c1, c2, c3, c4, c5, c6⟩ := ExsD.at e.args _ (ExsD.mono HCJ.out.sub _ _ HXS.out) j hlt'
          have HC6 := Lib.hid c6
          replace c0 := mask_in2 c0
          replace c1 := mask_in2 c1
          replace c2 := mask_in2 c2
          replace c3 := mask_in2 c3
          replace c4 := mask_in2 c4
          replace c5 := mask_in2 c5
          have HST := Lib.hid (sizes_take_succ e.args j hlt')
          have HSL := Lib.hid (sizes_take_le e.args (j + 1))
          have HNT := Lib.hid (namesL_take e.args j hlt')
          have HFJ := Lib.hid (HFA.out _ (List.getElem_mem hlt'))
          clear c6
          generalize e.args[j] = a at *
          go_upto_region 6 with fail
          have HXA := Lib.hid ((Ext.refl wr).alloc (.cells #[.int .i64 a.op, .string a.name, .slice aw1 nw1 cw1, .int .i64 a.lo, .int .i64 a.hi, .slice aa1 na1 ca1] 29))
          have HBA := Lib.hid (alloc_new wr (.cells #[.int .i64 a.op, .string a.name, .slice aw1 nw1 cw1, .int .i64 a.lo, .int .i64 a.hi, .slice aa1 na1 ca1] 29))
          clear c0 c1 c2 c3 c4 c5
          generalize wr.alloc (.cells #[.int .i64 a.op, .string a.name, .slice aw1 nw1 cw1, .int .i64 a.lo, .int .i64 a.hi, .slice aa1 na1 ca1] 29) = wa at *
          obtain ⟨a0, a1, a2, a3, a4, a5, af⟩ := blk6 HBA.out
          have hla := blk_lt HBA.out
          go_wp2_with fail
          refine (IH.out a _ _ b _ _ (by have := HST.out; have := HSL.out; omega) HFJ.out (HC6.out.mono (mask_ext [b] HXA.out)) (HSJ.out.chg (HXA.out.chg []) (by simp)) (by have := HST.out; have := HSL.out; omega)).mono ?_
          rintro r w2 ⟨rfl, hs2, hc2⟩
          have HS2 := Lib.hid (show SetAt w2 b (n + 1 + sizes (e.args.take (j + 1))) (L ++ namesL (e.args.take (j + 1))) by
            rw [HST.out, HNT.out, ← List.append_assoc, ← Nat.add_assoc]; exact hs2)
          have HC2 := Lib.hid ((HCJ.out.then (HXA.out.chg _)).then hc2)
          clear hs2 hc2 a0 a1 a2 a3 a4 a5 af hla
          go_wp2_with fail
          go_roundg (na - (j + 1))
          case measure => have := HGN.out; omega
          case rel => exact ⟨j + 1, by omega, rfl, by go_num, HS2.out, HC2.out⟩
        · have HE2 := Lib.hid (show e.args.take j = e.args from List.take_of_length_le (by have := HNA.out; omega))
          have td : decide ((j : Int) < (na : Int)) = false := by simp; omega
          rw [HE2.out] at HSJ
          go_wp2_with fail
          go_end0
          refine ⟨rfl, ?_, (HX.out.chg _).then HCJ.out⟩
          rw [HSZ.out, ← HNE1.out, ← Nat.add_assoc]
          exact HSJ.out
end Go.Proofs.YtfjlglefodndjaaGreatDoor

namespace Go.Proofs.YtfjlglefodndjaaGreatDoor
open Go.RowKit Go.Maps

/-- A row of strings that the call owns. -/
def OwnS (w : World) (base : Nat) (l : List ByteArray) (v : Value) : Prop := w.ownsRow base 9 1 v l.length (l.flatMap strCells)
def PutQ (l : List ByteArray) (w : World) (e : Ending) (w' : World) : Prop := ∃ (a : Option Addr) (c : Nat), e = .returned (.slice a l.length c) ∧ IsStrs w' l a l.length c ∧ Ext w w'
theorem putL_lt {s x : ByteArray} {r : List ByteArray} (h : Op.bytesLess s.toList x.toList = true) : putL s (x :: r) = s :: x :: r := by
  rw [Go.Proofs.bytesLess_eq, decide_eq_true_eq] at h
  rw [putL, if_pos h]
theorem putL_same {s x : ByteArray} {r : List ByteArray} (h1 : Op.bytesLess s.toList x.toList = false) (h2 : (s.toList == x.toList) = true) : putL s (x :: r) = x :: r := by
  rw [Go.Proofs.bytesLess_eq, decide_eq_false_iff_not] at h1
  rw [putL, if_neg h1, if_pos (by simpa using h2)]
theorem putL_gt {s x : ByteArray} {r : List ByteArray} (h1 : Op.bytesLess s.toList x.toList = false) (h2 : (s.toList == x.toList) = false) : putL s (x :: r) = x :: putL s r := by
  rw [Go.Proofs.bytesLess_eq, decide_eq_false_iff_not] at h1
  rw [putL, if_neg h1, if_neg (by simpa using h2)]
theorem drop_at {l : List ByteArray} {k : Nat} (h : k < l.length) : l.drop k = l[k] :: l.drop (k + 1) := by simp

set_option maxRecDepth 100000 in
set_option maxHeartbeats 4000000 in
theorem put_calls (s : ByteArray) (l : List ByteArray) (a : Option Addr) (n c : Nat) (w : World) (hs : IsStrs w l a n c) (hn : n ≤ 1000000) :
    Calls Tryz.prog 102 #[.slice a n c, .string s] w (PutQ (putL s l) w) := by
  have HS := Lib.hid hs
  have HN := Lib.hid hs.1
  have HLEN := Lib.hid (putL_len s l)
  clear hs
  go_enter Tryz.func102, Tryz.ntmps102
  go_wp2_with fail
  go_loopg [5, 6, 7] n (fun m u d i wr => ∃ (k : Nat) (out : List ByteArray) (done : Bool), k ≤ n ∧ m = n - k ∧ i = .int .i64 k ∧ d = .bool done ∧ out.length ≤ k + 1 ∧ (done = false → out.length ≤ k) ∧ OwnS wr w.heap.size out u ∧ out ++ (if done then l.drop k else putL s (l.drop k)) = putL s l ∧ Ext w wr)
  case atStart => exact ⟨0, [], false, by omega, rfl, rfl, rfl, by simp, by simp, World.ownsRow_nil _ _ _ _, by simp, Ext.refl _⟩
  case round =>
    obtain ⟨k, out, done, hk, hm, rfl, rfl, hol, hod, hown, heq, hx⟩ := hrel
    have HM := Lib.hid hm
    have HO := Lib.hid hown
    have HEQ := Lib.hid heq
    have HX := Lib.hid hx
    have HOD := Lib.hid hod
    have hz := hx.size
    obtain ⟨ua, uc, rfl, -, -⟩ := strs_of_owns hown [] (by simp)
    clear hm hown heq hx hod
    by_cases hlt : k < n
    · have hlt' : k < l.length := by have := HN.out; omega
      have td : decide ((k : Int) < (n : Int)) = true := by simp; omega
      obtain ⟨b, off, rfl, hcell⟩ := HS.out.2.2.2 k hlt'
      have HC := Lib.hid hcell
      replace hcell := HX.out.cell hcell
      have HD := Lib.hid (drop_at hlt')
      have hbl := block_lt hcell
      simp only at hbl
      generalize l[k] = x at *
      have fin : ∀ (out2 : List ByteArray) (done2 : Bool) (u2 : Value) (w2 : World), out2 ++ (if done2 then x :: l.drop (k + 1) else putL s (x :: l.drop (k + 1))) = putL s l → (done2 = false → Op.bytesLess s.toList x.toList = false ∧ (s.toList == x.toList) = false) → out2 ++ [x] ++ (if done2 then l.drop (k + 1) else putL s (l.drop (k + 1))) = putL s l := by
        intro out2 done2 u2 w2 h1 h2
        cases done2
        · obtain ⟨h3, h4⟩ := h2 rfl
          rw [if_neg (by simp), putL_gt h3 h4] at h1
          rw [if_neg (by simp), ← h1]; simp
        · rw [if_pos rfl] at h1 ⊢
          rw [← h1]; simp
      have HFIN := Lib.hid fin
      clear fin
      have HEQ2 := Lib.hid (show out ++ (if done then x :: l.drop (k + 1) else putL s (x :: l.drop (k + 1))) = putL s l by rw [← HD.out]; exact HEQ.out)
      clear HEQ HD
      cases done
      · have hol2 : out.length ≤ k := HOD.out rfl
        cases h1 : Op.bytesLess s.toList x.toList
        · cases h2 : (s.toList == x.toList)
          case' false =>
            have HNX := Lib.hid (HFIN.out out false (.bool false) wr HEQ2.out (fun _ => ⟨h1, h2⟩))
            go_upto_region 10 with fail
          case' true =>
            have HNX := Lib.hid (HFIN.out out true (.bool false) wr (by rw [if_pos rfl, ← putL_same h1 h2]; have := HEQ2.out; rwa [if_neg (by simp)] at this) (fun h => by cases h))
            go_upto_region 10 with fail
          all_goals
            clear h1 h2
            have hz1 := HX.out.size
            go_wp2_with (at_builtin; refine wpList_append_new elemStr rfl _ _ rfl w.heap.size _ _ _ rfl HO.out _ 1 1 rfl ?c0 rfl ?c1 ?c2 ?c3 ?c4 ?_)
            case c0 => rfl
            case c1 => simp [Value.oneCell']
            case c2 => simp only [maxLen]; omega
            case c3 => omega
            try (case c4 => omega)
            intro v2 w2 hown2 hgrow2
            have HO2 := Lib.hid (show OwnS w2 w.heap.size (out ++ [x]) v2 by unfold OwnS; rw [List.length_append, List.flatMap_append]; exact hown2)
            have HX2 := Lib.hid (HX.out.grown hgrow2 (owns_base HO.out))
            clear hown2 hgrow2 hcell
            go_wp2_with fail
            go_roundg (n - (k + 1))
            case measure => have := HM.out; omega
            case rel => exact ⟨k + 1, out ++ [x], _, by omega, rfl, by go_num, rfl, by simp; omega, fun _ => by simp; omega, HO2.out, HNX.out, HX2.out⟩
        · have HNX := Lib.hid (HFIN.out (out ++ [s]) true (.bool false) wr (by rw [if_pos rfl, List.append_assoc]; have := HEQ2.out; rw [if_neg (by simp), putL_lt h1] at this; simpa using this) (fun h => by cases h))
          have hz1 := HX.out.size
          go_wp2_with (at_builtin; refine wpList_append_new elemStr rfl _ _ rfl w.heap.size _ _ _ rfl HO.out _ 1 1 rfl ?c0 rfl ?c1 ?c2 ?c3 ?c4 ?_)
          case c0 => rfl
          case c1 => simp [Value.oneCell']
          case c2 => simp only [maxLen]; omega
          case c3 => omega
          try (case c4 => omega)
          intro v2 w2 hown2 hgrow2
          have HO2 := Lib.hid (show OwnS w2 w.heap.size (out ++ [s]) v2 by unfold OwnS; rw [List.length_append, List.flatMap_append]; exact hown2)
          have HX2 := Lib.hid (HX.out.grown hgrow2 (owns_base HO.out))
          have hcell2 := HX2.out.cell HC.out
          have hbl2 := block_lt hcell2
          simp only at hbl2
          have hz2 := HX2.out.size
          have hown3 := HO2.out
          unfold OwnS at hown3
          have hl2 : (out ++ [s]).length ≤ k + 1 := by simp; omega
          generalize out ++ [s] = out2 at *
          obtain ⟨ua2, uc2, rfl, -, -⟩ := strs_of_owns hown3 [] (by simp)
          clear hown2 hgrow2 hcell hown3 h1
          go_wp2_with (at_builtin; refine wpList_append_new elemStr rfl _ _ rfl w.heap.size _ _ _ rfl HO2.out _ 1 1 rfl ?d0 rfl ?d1 ?d2 ?d3 ?d4 ?_)
          case d0 => rfl
          case d1 => simp [Value.oneCell']
          case d2 => simp only [maxLen]; omega
          case d3 => omega
          try (case d4 => omega)
          intro v4 w4 hown4 hgrow4
          have HO4 := Lib.hid (show OwnS w4 w.heap.size (out2 ++ [x]) v4 by unfold OwnS; rw [List.length_append, List.flatMap_append]; exact hown4)
          have HX4 := Lib.hid (HX2.out.grown hgrow4 (owns_base HO2.out))
          clear hown4 hgrow4 hcell2
          go_wp2_with fail
          go_roundg (n - (k + 1))
          case measure => have := HM.out; omega
          case rel => exact ⟨k + 1, out2 ++ [x], true, by omega, rfl, by go_num, rfl, by simp; omega, fun h => (by cases h), HO4.out, HNX.out, HX4.out⟩
      · have HNX := Lib.hid (HFIN.out out true (.bool false) wr HEQ2.out (fun h => by cases h))
        have hz1 := HX.out.size
        go_wp2_with (at_builtin; refine wpList_append_new elemStr rfl _ _ rfl w.heap.size _ _ _ rfl HO.out _ 1 1 rfl ?c0 rfl ?c1 ?c2 ?c3 ?c4 ?_)
        case c0 => rfl
        case c1 => simp [Value.oneCell']
        case c2 => simp only [maxLen]; omega
        case c3 => omega
        try (case c4 => omega)
        intro v2 w2 hown2 hgrow2
        have HO2 := Lib.hid (show OwnS w2 w.heap.size (out ++ [x]) v2 by unfold OwnS; rw [List.length_append, List.flatMap_append]; exact hown2)
        have HX2 := Lib.hid (HX.out.grown hgrow2 (owns_base HO.out))
        clear hown2 hgrow2 hcell
        go_wp2_with fail
        go_roundg (n - (k + 1))
        case measure => have := HM.out; omega
        case rel => exact ⟨k + 1, out ++ [x], true, by omega, rfl, by go_num, rfl, by simp; omega, fun h => (by cases h), HO2.out, HNX.out, HX2.out⟩
    · have td : decide ((k : Int) < (n : Int)) = false := by simp; omega
      have HDR := Lib.hid (show l.drop k = [] from List.drop_eq_nil_of_le (by have := HN.out; omega))
      cases done
      · have HEND := Lib.hid (show out ++ [s] = putL s l by have := HEQ.out; rw [if_neg (by simp), HDR.out] at this; exact this)
        go_wp2_with (at_builtin; refine wpList_append_new elemStr rfl _ _ rfl w.heap.size _ _ _ rfl HO.out _ 1 1 rfl ?c0 rfl ?c1 ?c2 ?c3 ?c4 ?_)
        case c0 => rfl
        case c1 => simp [Value.oneCell']
        case c2 => simp only [maxLen]; omega
        case c3 => omega
        try (case c4 => omega)
        intro v2 w2 hown2 hgrow2
        have hown3 : w2.ownsRow w.heap.size 9 1 v2 (out ++ [s]).length ((out ++ [s]).flatMap strCells) := by rw [List.length_append, List.flatMap_append]; exact hown2
        have HX2 := Lib.hid (HX.out.grown hgrow2 (owns_base HO.out))
        obtain ⟨ua2, uc2, rfl, -, hst⟩ := strs_of_owns hown3 [] (by simp)
        have HST := Lib.hid hst
        clear hown2 hgrow2 hown3 hst
        go_wp2_with fail
        go_ret
        refine ⟨ua2, uc2, ?_, ?_, HX2.out⟩
        · rw [← HEND.out]; rfl
        · rw [← HEND.out]; exact HST.out
      · have HEND := Lib.hid (show out = putL s l by have := HEQ.out; rw [if_pos rfl, HDR.out, List.append_nil] at this; exact this)
        obtain ⟨ua2, uc2, e2, -, hst⟩ := strs_of_owns HO.out [] (by simp)
        simp only [Value.slice.injEq, true_and] at e2
        obtain ⟨rfl, rfl⟩ := e2
        have HST := Lib.hid hst
        clear hst
        go_wp2_with fail
        go_ret
        refine ⟨ua, uc, ?_, ?_, HX.out⟩
        · rw [← HEND.out]; rfl
        · rw [← HEND.out]; exact HST.out
end Go.Proofs.YtfjlglefodndjaaGreatDoor

namespace Go.Proofs.YtfjlglefodndjaaGreatDoor
open Go.RowKit Go.Maps

def gath (m l : List ByteArray) : List ByteArray := m.foldl (fun l s => putL s l) l
theorem gath_append (m k l : List ByteArray) : gath (m ++ k) l = gath k (gath m l) := by simp [gath]
theorem gath_nil (l : List ByteArray) : gath [] l = l := rfl
theorem gath_one (s : ByteArray) (l : List ByteArray) : gath [s] l = putL s l := rfl
theorem gath_len (m l : List ByteArray) : (gath m l).length ≤ m.length + l.length := fold_len m l
mutual
theorem namesE_len : (e : Ex) → (namesE e).length ≤ e.size
  | .mk op name words lo hi args => by
    have := namesL_len args
    rw [namesE, Ex.size, List.length_append]
    split <;> simp <;> omega
theorem namesL_len : (l : List Ex) → (namesL l).length ≤ sizes l
  | [] => by simp [namesL, sizes]
  | e :: r => by
    have := namesE_len e
    have := namesL_len r
    rw [namesL, sizes, List.length_append]; omega
end
theorem namesL_take_len (l : List Ex) (k : Nat) : (namesL (l.take k)).length ≤ sizes l := Nat.le_trans (namesL_len _) (sizes_take_le l k)

set_option maxRecDepth 100000 in
set_option maxHeartbeats 4000000 in
theorem gather_calls (m : Nat) : m ≤ 1000000 → ∀ (e : Ex) (v : Value) (w : World) (l : List ByteArray) (a : Option Addr) (n c : Nat), e.size ≤ m → IsEx w e v → IsStrs w l a n c → n + e.size ≤ 1000000 →
    Calls Tryz.prog 89 #[.slice a n c, v] w (PutQ (gath (namesE e) l) w) := by
  induction m with
  | zero => intro _ e v w l a n c h; have := size_pos e; omega
  | succ m ih =>
    intro hMM e v w l a n c hm he hs hn
    obtain ⟨aw, nw, cw, aa, na, ca, rfl, hw, hna, hca, ha, hx⟩ := he.parts
    have hS : e.size = 1 + sizes e.args := e.size_eq
    have hla := length_le_sizes e.args
    have HX := Lib.hid ((Ext.refl w).alloc (.cells #[.int .i64 e.op, .string e.name, .slice aw nw cw, .int .i64 e.lo, .int .i64 e.hi, .slice aa na ca] 29))
    have HBX := Lib.hid (alloc_new w (.cells #[.int .i64 e.op, .string e.name, .slice aw nw cw, .int .i64 e.lo, .int .i64 e.hi, .slice aa na ca] 29))
    have HXS := Lib.hid (ExsD.ext HX.out e.args aa hx)
    have HS := Lib.hid (hs.ext HX.out)
    have HSN := Lib.hid hs.1
    have HNA := Lib.hid hna
    have HNM := Lib.hid (namesE_eq e)
    have IH := Lib.hid (ih (by omega))
    have hna2 : na ≤ 1000000 := by omega
    have hsz : sizes e.args ≤ m := by omega
    have hn2 : n + 1 + sizes e.args ≤ 1000000 := by omega
    clear hw hna hca ha hx he hs hS hla ih hm hn
    generalize namesE e = NE at *
    unfold exV
    go_enter Tryz.func89, Tryz.ntmps89
    go_upto_region 1 with fail
    generalize w.alloc (.cells #[.int .i64 e.op, .string e.name, .slice aw nw cw, .int .i64 e.lo, .int .i64 e.hi, .slice aa na ca] 29) = wb at *
    obtain ⟨b0, b1, b2, b3, b4, b5, bf⟩ := blk6 HBX.out
    have hlx := blk_lt HBX.out
    by_cases h3 : e.op = 3
    case' pos =>
      have t3 : (e.op == 3) = true := by simp [h3]
      have HNE := Lib.hid (show gath NE l = gath (namesL e.args) (putL e.name l) by rw [HNM.out, if_pos h3, gath_append, gath_one])
      have hpl := putL_len e.name l
      clear h3
      go_wp2_with fail
      refine (put_calls e.name l a n c _ HS.out (by omega)).mono ?_
      rintro r w1 ⟨a1, c1, rfl, hs1, hx1⟩
      have HS1 := Lib.hid hs1
      have HX1 := Lib.hid hx1
      have HB1 := Lib.hid (hx1.blk HBX.out)
      have hl1 : (putL e.name l).length ≤ n + 1 := by have := HSN.out; omega
      clear hs1 hx1 b0 b1 b2 b3 b4 b5 bf hlx HS HSN hpl
      generalize putL e.name l = l1 at *
      obtain ⟨n1, hn1⟩ : ∃ n1, n1 = l1.length := ⟨_, rfl⟩
      rw [← hn1] at HS1 hl1 ⊢
      clear hn1
      go_upto_region 3 with fail
    case' neg =>
      have t3 : (e.op == 3) = false := by simp [h3]
      have HNE := Lib.hid (show gath NE l = gath (namesL e.args) l by rw [HNM.out, if_neg h3]; simp)
      have HX1 := Lib.hid (Ext.refl wb)
      have HB1 := HBX
      have hl1 : n ≤ n + 1 := by omega
      have HS1 := HS
      clear h3 HS
      obtain ⟨l1, hl1e⟩ : ∃ l1, l1 = l := ⟨_, rfl⟩
      have HNE2 := Lib.hid (show gath NE l = gath (namesL e.args) l1 by rw [hl1e]; exact HNE.out)
      rw [← hl1e] at HS1 HSN
      clear hl1e HNE
      have HNE := HNE2
      clear HNE2
      go_upto_region 3 with fail
      clear b0 b1 b2 b3 b4 b5 bf hlx
    all_goals
      go_wp2_with fail
      go_loopg [0, 5] na (fun g u i wr => ∃ (j : Nat) (al : Option Addr) (nl cl : Nat), j ≤ na ∧ g = na - j ∧ i = .int .i64 j ∧ u = .slice al nl cl ∧ nl ≤ n + 1 + (namesL (e.args.take j)).length ∧ IsStrs wr (gath (namesL (e.args.take j)) l1) al nl cl ∧ Ext wb wr)
      case atStart => exact ⟨0, _, _, _, by omega, rfl, rfl, rfl, by omega, by simpa [namesL, gath_nil] using HS1.out, HX1.out⟩
      case round =>
        obtain ⟨j, al, nl, cl, hj, hgj, rfl, rfl, hnl, hsj, hxj⟩ := hrel
        have HGN := Lib.hid hgj
        have HSJ := Lib.hid hsj
        have HXJ := Lib.hid hxj
        have HNL := Lib.hid hnl
        have HBJ := Lib.hid (hxj.blk HBX.out)
        clear hsj hxj hgj hnl
        obtain ⟨b0, b1, b2, b3, b4, b5, bf⟩ := blk6 HBJ.out
        have hlx := blk_lt HBJ.out
        by_cases hlt : j < na
        · have hlt' : j < e.args.length := by have := HNA.out; omega
          have td : decide ((j : Int) < (na : Int)) = true := by simp; omega
          obtain ⟨bb, off, rfl, aw1, nw1, cw1, aa1, na1, ca1, c0, c1, c2, c3, c4, c5, c6⟩ := ExsD.at e.args _ (ExsD.ext HXJ.out _ _ HXS.out) j hlt'
          have HC6 := Lib.hid c6
          have HST := Lib.hid (sizes_take_succ e.args j hlt')
          have HSL := Lib.hid (sizes_take_le e.args (j + 1))
          have HNT := Lib.hid (namesL_take e.args j hlt')
          have HNE3 := Lib.hid (namesL_len (e.args.take j))
          clear c6
          generalize e.args[j] = a' at *
          go_wp2_with fail
          refine (IH.out a' _ _ _ al nl cl (by have := HST.out; have := HSL.out; omega) HC6.out HSJ.out (by have := HST.out; have := HSL.out; have := HNL.out; have := HNE3.out; omega)).mono ?_
          rintro r w2 ⟨a2, c2', rfl, hs2, hx2⟩
          have HL2 := Lib.hid (show (gath (namesE a') (gath (namesL (e.args.take j)) l1)).length ≤ n + 1 + (namesL (e.args.take (j + 1))).length by
            have h1 := gath_len (namesE a') (gath (namesL (e.args.take j)) l1)
            have h2 := HSJ.out.1
            have h3 := HNL.out
            rw [HNT.out, List.length_append]; omega)
          have HS2 := Lib.hid (show IsStrs w2 (gath (namesL (e.args.take (j + 1))) l1) a2 (gath (namesE a') (gath (namesL (e.args.take j)) l1)).length c2' by rw [HNT.out, gath_append]; exact hs2)
          have HX2 := Lib.hid (HXJ.out.trans hx2)
          clear hs2 hx2 c0 c1 c2 c3 c4 c5 b0 b1 b2 b3 b4 b5 bf hlx
          generalize (gath (namesE a') (gath (namesL (e.args.take j)) l1)).length = n2 at *
          go_wp2_with fail
          go_roundg (na - (j + 1))
          case measure => have := HGN.out; omega
          case rel => exact ⟨j + 1, a2, n2, c2', by omega, rfl, by go_num, rfl, HL2.out, HS2.out, HX2.out⟩
        · have HE2 := Lib.hid (show e.args.take j = e.args from List.take_of_length_le (by have := HNA.out; omega))
          have td : decide ((j : Int) < (na : Int)) = false := by simp; omega
          rw [HE2.out, ← HNE.out] at HSJ
          have HLN := Lib.hid HSJ.out.1
          go_wp2_with fail
          go_ret
          refine ⟨al, cl, ?_, ?_, HX.out.trans HXJ.out⟩
          · rw [← HLN.out]; rfl
          · rw [← HLN.out]; exact HSJ.out

/-- The reference's Names. -/
theorem rnames_calls (e : Ex) (v : Value) (w : World) (hs : e.size ≤ 900000) (he : IsEx w e v) : Calls Tryz.prog 65 #[v] w (PutQ (refNames (namesE e)) w) := by
  obtain ⟨aw, nw, cw, aa, na, ca, rfl, -, -, -, -, -⟩ := he.parts
  have HX := Lib.hid ((Ext.refl w).alloc (.cells #[.int .i64 e.op, .string e.name, .slice aw nw cw, .int .i64 e.lo, .int .i64 e.hi, .slice aa na ca] 29))
  have HE := Lib.hid (he.ext HX.out)
  clear he
  unfold exV at *
  go_enter Tryz.func65, Tryz.ntmps65
  go_wp2_with fail
  refine (gather_calls 900000 (by omega) e _ _ [] none 0 0 hs HE.out ⟨rfl, Nat.le_refl 0, Or.inl ⟨rfl, rfl⟩, fun i hi => by simp at hi⟩ (by omega)).mono ?_
  rintro r w1 ⟨a1, c1, rfl, hs1, hx1⟩
  have HS1 := Lib.hid hs1
  have HX1 := Lib.hid (HX.out.trans hx1)
  clear hs1 hx1
  go_wp2_with fail
  go_ret
  exact ⟨a1, c1, rfl, HS1.out, HX1.out⟩
end Go.Proofs.YtfjlglefodndjaaGreatDoor
