/-
  Texts of the claim, joined: Shaken, SIdx, Plain1, SWb.
-/
import Derived.Test.YtfjlglefodndjaaGreatDoorCc10
import Derived.Test.YtfjlglefodndjaaGreatDoorCc21
import Derived.Test.YtfjlglefodndjaaGreatDoorCc16
import Derived.Test.YtfjlglefodndjaaGreatDoorCc12
import Derived.Test.YtfjlglefodndjaaGreatDoorCc13
namespace Go.Proofs.YtfjlglefodndjaaGreatDoor
open Go.RowKit

/-! treatylaw10.shaken. -/
theorem cls_news {w : World} {vs : List ClV} {a : Option Addr} {n c : Nat} (h : IsRows w 10 ClV.cells vs a n c) (hn : 0 < n) : ∃ b off, a = some ⟨b, off, none⟩ ∧ ∀ j (hj : j < (vs.flatMap ClV.cells).length), w.cell? ⟨b, off + j, none⟩ = some (vs.flatMap ClV.cells)[j] := by
  have hl := h.1
  obtain ⟨b, off, rfl, _⟩ := h.2.2.2 0 (by omega)
  refine ⟨b, off, rfl, fun j hj => ?_⟩
  have hlen := length_flatMap_of ClV.cells 10 ClV.len vs
  have hi : j / 10 < vs.length := by omega
  obtain ⟨b', off', e3, hc⟩ := h.2.2.2 (j / 10) hi
  simp only [Option.some.injEq, Addr.mk.injEq, and_true] at e3
  obtain ⟨rfl, rfl⟩ := e3
  have h6 := hc (j % 10) (by rw [ClV.len]; omega)
  have e4 : off + j / 10 * 10 + j % 10 = off + j := by omega
  rw [e4] at h6
  rw [h6]
  have := flatMap_at ClV.cells 10 ClV.len vs (j / 10) hi (j % 10) (by rw [ClV.len]; omega)
  rw [show j / 10 * 10 + j % 10 = j by omega, List.getElem?_eq_getElem hj] at this
  exact this.symm
theorem cells_oneC (vs : List ClV) : ∀ u ∈ vs.flatMap ClV.cells, u.oneCell' = true := by
  intro u hu
  obtain ⟨x, _, hx⟩ := List.mem_flatMap.1 hu
  simp only [ClV.cells, List.mem_cons, List.not_mem_nil, or_false] at hx
  rcases hx with rfl | rfl | rfl | rfl | rfl | rfl | rfl | rfl | rfl | rfl <;> rfl
theorem cur_set {vs : List ClV} {cur cur' : Array Value} {mn k : Nat} {cv : ClV} (hvs : vs.length = mn) (h0 : ∀ j, j < mn * 10 → cur[j]? = (vs.flatMap ClV.cells)[j]?) (h1 : ∀ i, i < 10 → cur'[k * 10 + i]? = cv.cells[i]?) (h2 : ∀ j, (j < k * 10 ∨ k * 10 + 10 ≤ j) → cur'[j]? = cur[j]?) :
    ∀ i (hi : i < (vs.set k cv).length) (j : Nat) (hj : j < ((vs.set k cv)[i]).cells.length), cur'[i * 10 + j]? = some (((vs.set k cv)[i]).cells[j]) := by
  intro i hi j hj
  have hiv : i < vs.length := by simpa using hi
  have hj10 : j < 10 := by rw [ClV.len] at hj; exact hj
  by_cases hik : i = k
  · subst hik
    rw [h1 j hj10]
    simp only [List.getElem_set_self] at hj ⊢
    rw [List.getElem?_eq_getElem hj]
  · rw [h2 _ (by omega)]
    simp only [List.getElem_set_ne (fun h => hik (Eq.symm h))] at hj ⊢
    rw [h0 _ (by omega)]
    exact flatMap_at ClV.cells 10 ClV.len vs i hiv j hj
theorem cla_row {W : World} {vs : List ClV} {m : List Cla} {cur cur' : Array Value} {g mn cap k : Nat} {c : Cla} {cv : ClV} {t : TypeId} (hvs : vs.length = mn) (hm : m.length = mn) (hcap : mn ≤ cap) (hb : W.heap[g]? = some (.cells cur' t (0, 0)))
    (h0 : ∀ j, j < mn * 10 → cur[j]? = (vs.flatMap ClV.cells)[j]?) (h1 : ∀ i, i < 10 → cur'[k * 10 + i]? = cv.cells[i]?) (h2 : ∀ j, (j < k * 10 ∨ k * 10 + 10 ≤ j) → cur'[j]? = cur[j]?)
    (hold : ∀ i (h1 : i < m.length) (h2 : i < vs.length), IsCla W m[i] vs[i]) (hnew : IsCla W c cv) : IsClas W (m.set k c) (some ⟨g, 0, none⟩) mn cap := by
  refine ⟨vs.set k cv, ⟨by simp [hvs], hcap, Or.inr ⟨g, 0, rfl⟩, fun i hi => ⟨g, 0, rfl, fun j hj => ?_⟩⟩, by simp [hvs, hm], fun i q1 q2 => ?_⟩
  · rw [Nat.zero_add, blk_cell hb]
    exact cur_set hvs h0 h1 h2 i hi j hj
  · by_cases hik : i = k
    · subst hik
      simp only [List.getElem_set_self]
      exact hnew
    · simp only [List.getElem_set_ne (fun h => hik (Eq.symm h))]
      exact hold i (by simpa using q1) (by simpa using q2)
def shNames : List ByteArray := [⟨#[110]⟩, ⟨#[99, 45, 97, 97]⟩, ⟨#[116]⟩, ⟨#[112, 101, 114, 105, 108]⟩, ⟨#[102, 114, 101, 115, 104]⟩]
theorem shNames_size : ∀ x ∈ shNames, x.size ≤ 16 := by decide +kernel
theorem good_fit {c : Cla} (h : CGood c) (hn : c.name.size ≤ 1000) : c.fit := by
  obtain ⟨g1, g2, g3, g4, g5, g6⟩ := h
  have hl := wbN_len c.unl
  exact ⟨by omega, g1, g2, slim_of_size _ (by omega), by omega, wbFits_of_ok _ g5 (by omega)⟩
def ShQ (w0 : World) (bd : Nat) (w : World) (e : Ending) (w' : World) : Prop := ∃ l a n c, e = .returned (.slice a n c) ∧ IsClas w' l a n c ∧ (∀ x ∈ l, x.fit) ∧ n ≤ 1000 ∧ DeckAt w0 w' bd ∧ Chg [bd] w w'
set_option maxRecDepth 100000 in
set_option maxHeartbeats 16000000 in
theorem shaken_calls {w0 w : World} {bd : Nat} (hd : DeckAt w0 w bd) (m : List Cla) (ma : Option Addr) (mn mc : Nat) (hm : IsClas (mask w [bd]) m ma mn mc) (hmn : 0 < mn) (hm9 : mn ≤ 50) (hg : ∀ c ∈ m, CGood c ∧ c.name.size ≤ 1000) :
    Calls Tryz.prog 15 #[.slice ma mn mc, .pointer (some ⟨bd, 0, none⟩)] w (ShQ w0 bd w) := by
  have h0w : w0.heap.size ≤ w.heap.size := by obtain ⟨_, _, _, _, _, _, _, _, hx, _⟩ := hd; exact hx.size
  have h0d := hd
  obtain ⟨_, _, _, _, hbb, _, _, _, _, h0d⟩ := h0d
  have hbd := blk_lt hbb
  clear hbb
  obtain ⟨vs, hrows, hml, hmi⟩ := hm
  have hvl : vs.length = mn := hrows.1.symm
  have HML := Lib.hid (show m.length = mn by omega)
  have HMI := Lib.hid hmi
  have HVL := Lib.hid hvl
  have HG := Lib.hid hg
  have HD := Lib.hid hd
  have HLEN := Lib.hid (show (vs.flatMap ClV.cells).length = mn * 10 by rw [length_flatMap_of ClV.cells 10 ClV.len, hvl])
  have HSL := Lib.hid (show 0 < mn → ∃ b off, ma = some ⟨b, off, none⟩ ∧ ∀ j (hj : j < (vs.flatMap ClV.cells).length), (w.alloc (.cells #[] 38)).cell? ⟨b, off + j, none⟩ = some (vs.flatMap ClV.cells)[j] from fun h => by
    obtain ⟨b, off, e1, e2⟩ := cls_news hrows h
    exact ⟨b, off, e1, fun j hj => ((Ext.refl w).alloc _).cell (mask_sub _ _ _ _ (e2 j hj))⟩)
  clear hrows hml hmi hvl hg hd
  go_enter Tryz.func15, Tryz.ntmps15
  go_wp2_with (at_builtin; refine wpList_append_all elemCla rfl _ _ rfl w.heap.size _ 0 [] rfl ?o0 ma mn mc (vs.flatMap ClV.cells) rfl ?o1 ?o2 ?o3 ?o4 ?o5 ?o6 ?_)
  case o0 => exact World.ownsRow_lit w #[] 0 (Nat.le_refl _) (by simp) rfl
  case o1 => exact HLEN.out
  case o2 => exact fun h => HSL.out h
  case o3 => exact cells_oneC vs
  case o4 => omega
  case o5 => omega
  case o6 => simp
  intro v3 w3 hown3 hgrow3 hat3
  have HC3 := Lib.hid (show Chg [bd] w w3 from ((Chg.refl [bd] w).alloc _).grown hgrow3 (fun y hy => by simp only [Value.ownBlock] at hy; injection hy with hy; subst hy; exact Or.inr (Nat.le_refl _)))
  have hrn : ∀ k, k < w.heap.size → k ∉ rowOf (.slice (some ⟨w.heap.size, 0, none⟩) 0 0) := fun k hk hm => by have := mem_rowOf.1 hm; simp only [Value.ownBlock] at this; injection this with this; omega
  have HD3 := Lib.hid ((HD.out.ext ((Ext.refl w).alloc (.cells #[] 38))).chg (grown_chg hgrow3) (hrn _ (by omega)) (fun y hy => by have := mem_rowOf.1 hy; simp only [Value.ownBlock] at this; injection this with this; omega))
  have HO3 := Lib.hid hown3
  have hz3 := hgrow3.size
  simp at hz3
  clear hown3 hgrow3 hat3 hrn HD HSL
  obtain ⟨g, cap, cur, hv3, hg1, hgb, hgn, hgc, hcapn⟩ : ∃ g cap cur, v3 = .slice (some ⟨g, 0, none⟩) mn cap ∧ w.heap.size ≤ g ∧ w3.heap[g]? = some (.cells cur 38 (0, 0)) ∧ mn * 10 ≤ cur.size ∧ (∀ j, j < mn * 10 → cur[j]? = (vs.flatMap ClV.cells)[j]?) ∧ mn ≤ cap := by
    have h := HO3.out
    rcases h.2 with ⟨_, h0⟩ | ⟨g, cap, cur, h1, h2, h3, h4, h5, h6, h7⟩
    · omega
    · have hq : mn ≤ cap := by simpa using h4
      refine ⟨g, cap, cur, by simpa using h1, h2, h3, ?_, fun j hj => ?_, hq⟩
      · rw [h6]
        omega
      · have h8 := congrArg (fun l => l[j]?) h7
        try simp only [Nat.zero_add] at h8
        rw [List.getElem?_take, if_pos hj] at h8
        simpa using h8
  subst hv3
  have HGC := Lib.hid hgc
  have HGB := Lib.hid hgb
  have hgl := blk_lt hgb
  clear hgc hgb HO3
  go_wp2_with fail
  refine (next_calls HD3.out _ (by omega) (by omega)).mono ?_
  rintro r w4 ⟨q, rfl, hq0, hq1, hd4, hc4⟩
  obtain ⟨k, rfl⟩ : ∃ k : Nat, q = (k : Int) := ⟨q.toNat, by omega⟩
  have hkn : k < mn := by omega
  have HD4 := Lib.hid hd4
  have HC4 := Lib.hid (HC3.out.then hc4)
  have HGB4 := Lib.hid (hc4.blk HGB.out (by simp; omega))
  have hz4 := hc4.size
  clear hd4 hc4 HD3 HC3 HGB
  go_wp2_with fail
  refine (next_calls HD4.out _ (by omega) (by omega)).mono ?_
  rintro r w5 ⟨q5, rfl, hr0, hr5, hd5, hc5⟩
  have HD5 := Lib.hid hd5
  have HC5 := Lib.hid (HC4.out.then hc5)
  have HGB5 := Lib.hid (hc5.blk HGB4.out (by simp; omega))
  have hz5 := hc5.size
  clear hd5 hc5 HD4 HC4 HGB4
  have hk10 : k * 10 + 10 ≤ cur.size := by omega
  have hkv : k < vs.length := by have := HVL.out; omega
  have hkm : k < m.length := by have := HML.out; omega
  have HCK := Lib.hid (show ∀ j, j < 10 → cur[k * 10 + j]? = vs[k].cells[j]? from fun j hj => by
    have h1 := HGC.out (k * 10 + j) (by omega)
    rw [h1, flatMap_at ClV.cells 10 ClV.len vs k hkv j (by rw [ClV.len]; exact hj), List.getElem?_eq_getElem (by rw [ClV.len]; exact hj)])
  have HOLD := Lib.hid (fun (W : World) (hW : Chg [bd] w W) => show ∀ i (h1 : i < m.length) (h2 : i < vs.length), IsCla W m[i] vs[i] from fun i h1 h2 => (HMI.out i h1 h2).mono (hW.sub.trans (mask_sub _ _)))
  have HFIN := Lib.hid (fun (W : World) (cur' : Array Value) (c : Cla) (cv : ClV) (hW : Chg [bd] w W) (hD : DeckAt w0 W bd) (hb : W.heap[g]? = some (.cells cur' 38 (0, 0))) (h1 : ∀ i, i < 10 → cur'[k * 10 + i]? = cv.cells[i]?) (h2 : ∀ j, (j < k * 10 ∨ k * 10 + 10 ≤ j) → cur'[j]? = cur[j]?) (hnew : IsCla W c cv) (hf : c.fit) =>
    show ShQ w0 bd w (.returned (.slice (some ⟨g, 0, none⟩) mn cap)) W from ⟨m.set k c, _, _, _, rfl, cla_row HVL.out HML.out hcapn hb HGC.out h1 h2 (HOLD.out W hW) hnew, fun x hx => by
      rcases List.mem_or_eq_of_mem_set hx with hx | rfl
      · exact good_fit (HG.out x hx).1 (HG.out x hx).2
      · exact hf, by omega, hD, hW⟩)
  have hgk := HG.out _ (List.getElem_mem hkm)
  have HGK := Lib.hid (good_fit hgk.1 hgk.2)
  have HGS := Lib.hid hgk.1
  clear hgk
  have q5c : q5 = 0 ∨ q5 = 1 ∨ q5 = 2 ∨ q5 = 3 ∨ q5 = 4 := by omega
  clear hr0 hr5 hq0 hq1
  have hkI0 : (0 : Int) ≤ (k : Int) := by omega
  have hkI1 : (k : Int) < (mn : Int) := by omega
  rcases q5c with rfl | rfl | rfl | rfl | rfl
  · -- a name
    obtain ⟨wn, hwn⟩ : ∃ wn, wn = w5.alloc (.cells (shNames.map Value.string).toArray 9) := ⟨_, rfl⟩
    have hwn' : wn = w5.alloc (.cells #[.string ⟨#[110]⟩, .string ⟨#[99, 45, 97, 97]⟩, .string ⟨#[116]⟩, .string ⟨#[112, 101, 114, 105, 108]⟩, .string ⟨#[102, 114, 101, 115, 104]⟩] 9) := hwn
    have HBN := Lib.hid (show wn.heap[w5.heap.size]? = some (.cells (shNames.map Value.string).toArray 9 (0, 0)) by rw [hwn]; exact alloc_new w5 _)
    have hxn : Ext w5 wn := by rw [hwn]; exact (Ext.refl _).alloc _
    have HDN := Lib.hid (HD5.out.ext hxn)
    have HCN := Lib.hid (HC5.out.then (hxn.chg [bd]))
    have HGN := Lib.hid (hxn.blk HGB5.out)
    have hln := blk_lt HBN.out
    clear hwn hxn HD5
    go_wp2_with fail
    rw [← hwn']
    clear hwn'
    refine (next_calls HDN.out _ (by omega) (by omega)).mono ?_
    rintro r w6 ⟨q, rfl, hq0, hq1, hd6, hc6⟩
    obtain ⟨k5, rfl⟩ : ∃ k : Nat, q = (k : Int) := ⟨q.toNat, by omega⟩
    have hk5 : k5 < shNames.length := by show k5 < 5; omega
    have hkc := str_cell (hc6.blk HBN.out (by simp; omega)) hk5
    have hnmz := shNames_size _ (List.getElem_mem hk5)
    generalize shNames[k5] = nm at hkc hnmz
    have HD6 := Lib.hid hd6
    have HC6 := Lib.hid (HCN.out.then hc6)
    have HGB6 := Lib.hid (hc6.blk HGN.out (by simp; omega))
    have hlg := blk_lt HGB6.out
    clear hd6 hc6 HDN HCN HBN hk5 HGN
    have cf : ∀ j, w6.frozen? ⟨g, j, none⟩ = false := fun j => frozen_of_row w6 g j cur _ HGB6.out
    have c1 : w6.cell? ⟨g, k * 10 + 1, none⟩ = some (.string vs[k].name) := by rw [blk_cell HGB6.out]; have := HCK.out 1 (by omega); simpa [ClV.cells] using this
    go_wp2_with fail
    go_ret
    have hcs : Chg [g] w6 (w6.setCell ⟨g, k * 10 + 1, none⟩ (.string nm)) := (Chg.refl _ _).setCell (Or.inl (by simp)) _
    have hcw : Chg [bd] w (w6.setCell ⟨g, k * 10 + 1, none⟩ (.string nm)) := HC6.out.trans hcs (by intro y hy; simp at hy; subst hy; exact Or.inr hg1)
    have hold := HOLD.out _ hcw k hkm hkv
    refine HFIN.out _ (cur.setIfInBounds (k * 10 + 1) (.string nm)) { m[k] with name := nm } { vs[k] with name := nm } hcw (HD6.out.chg hcs (by simp; omega) (by simp; omega)) (heap_setCell_same _ _ _ _ _ _ HGB6.out) (fun i hi => ?_) (fun j hj => ?_) ⟨hold.1, rfl, hold.2.2⟩ ?_
    · have hh := HCK.out i hi
      rw [Array.getElem?_setIfInBounds]
      by_cases h1 : i = 1
      · subst h1
        rw [if_pos rfl, if_pos (by omega)]
        rfl
      · rw [if_neg (by omega), hh]
        have hi' : i = 0 ∨ i = 2 ∨ i = 3 ∨ i = 4 ∨ i = 5 ∨ i = 6 ∨ i = 7 ∨ i = 8 ∨ i = 9 := by omega
        rcases hi' with rfl | rfl | rfl | rfl | rfl | rfl | rfl | rfl | rfl <;> rfl
    · rw [Array.getElem?_setIfInBounds, if_neg (by omega)]
    · obtain ⟨f1, f2⟩ := HGK.out
      exact ⟨by show nm.size ≤ _; omega, f2⟩
  · -- a definition
    have cf : ∀ j, w5.frozen? ⟨g, j, none⟩ = false := fun j => frozen_of_row w5 g j cur _ HGB5.out
    have c0 : w5.cell? ⟨g, k * 10, none⟩ = some (.int .i64 vs[k].kind) := by rw [blk_cell HGB5.out]; have := HCK.out 0 (by omega); simpa [ClV.cells] using this
    have c8 : w5.cell? ⟨g, k * 10 + 8, none⟩ = some (.slice vs[k].au vs[k].nu vs[k].cu) := by rw [blk_cell HGB5.out]; have := HCK.out 8 (by omega); simpa [ClV.cells] using this
    have c9 : w5.cell? ⟨g, k * 10 + 9, none⟩ = some (.int .i64 vs[k].amount) := by rw [blk_cell HGB5.out]; have := HCK.out 9 (by omega); simpa [ClV.cells] using this
    have hlg := blk_lt HGB5.out
    go_wp2_with fail
    go_ret
    have hcs : Chg [g] w5 (((w5.setCell ⟨g, k * 10, none⟩ (.int .i64 1)).setCell ⟨g, k * 10 + 9, none⟩ (.int .i64 0)).setCell ⟨g, k * 10 + 8, none⟩ (.slice none 0 0)) := (((Chg.refl _ _).setCell (Or.inl (by simp)) _).setCell (Or.inl (by simp)) _).setCell (Or.inl (by simp)) _
    have hcw : Chg [bd] w (((w5.setCell ⟨g, k * 10, none⟩ (.int .i64 1)).setCell ⟨g, k * 10 + 9, none⟩ (.int .i64 0)).setCell ⟨g, k * 10 + 8, none⟩ (.slice none 0 0)) := HC5.out.trans hcs (by intro y hy; simp at hy; subst hy; exact Or.inr hg1)
    have hold := HOLD.out _ hcw k hkm hkv
    refine HFIN.out _ (((cur.setIfInBounds (k * 10) (.int .i64 1)).setIfInBounds (k * 10 + 9) (.int .i64 0)).setIfInBounds (k * 10 + 8) (.slice none 0 0)) ⟨1, m[k].name, m[k].cond, [], 0⟩ ⟨1, vs[k].name, vs[k].x, none, 0, 0, 0⟩ hcw (HD5.out.chg hcs (by simp; omega) (by simp; omega)) (heap_setCell_same _ _ _ _ _ _ (heap_setCell_same _ _ _ _ _ _ (heap_setCell_same _ _ _ _ _ _ HGB5.out))) (fun i hi => ?_) (fun j hj => ?_) ⟨rfl, hold.2.1, hold.2.2.1, rfl, Nat.le_refl _, Or.inl ⟨rfl, rfl⟩, by unfold WbsD; trivial, rfl⟩ ?_
    · have hh := HCK.out i hi
      simp only [Array.getElem?_setIfInBounds, Array.size_setIfInBounds]
      have hi' : i = 0 ∨ i = 1 ∨ i = 2 ∨ i = 3 ∨ i = 4 ∨ i = 5 ∨ i = 6 ∨ i = 7 ∨ i = 8 ∨ i = 9 := by omega
      rcases hi' with rfl | rfl | rfl | rfl | rfl | rfl | rfl | rfl | rfl | rfl
      all_goals
        repeat (first | rw [if_pos (by omega)] | rw [if_neg (by omega)])
        first | rfl | (rw [hh]; rfl)
    · simp only [Array.getElem?_setIfInBounds]
      rw [if_neg (by omega), if_neg (by omega), if_neg (by omega)]
    · obtain ⟨f1, f2, f3, f4, f5, f6⟩ := HGK.out
      exact ⟨f1, f2, f3, f4, by simp, by unfold wbFits; trivial⟩
  · -- a write-back
    have HTC := Lib.hid (twisted_calls 1000 (by omega) m[k].cond vs[k].x w0 w5 bd [g] HGS.out.2.2.1 HGS.out.1 HGS.out.2.1 HD5.out ((HMI.out k hkm hkv).2.2.1.mono (mask_sub_mask fun y hy hn => by
      simp only [List.mem_cons, List.not_mem_nil, or_false, not_or] at hn ⊢
      exact ⟨⟨hn, by omega⟩, HC5.out.block y hy (by simpa using hn)⟩)) (by simp; exact blk_lt HGB5.out))
    have c2 : w5.cell? ⟨g, k * 10 + 2, none⟩ = some (.int .i64 vs[k].x.op) := by rw [blk_cell HGB5.out]; have := HCK.out 2 (by omega); simpa [ClV.cells] using this
    have c3 : w5.cell? ⟨g, k * 10 + 2 + 1, none⟩ = some (.string vs[k].x.name) := by rw [blk_cell HGB5.out]; have := HCK.out 3 (by omega); simpa [ClV.cells] using this
    have c4 : w5.cell? ⟨g, k * 10 + 2 + 2, none⟩ = some (.slice vs[k].x.aw vs[k].x.nw vs[k].x.cw) := by rw [blk_cell HGB5.out]; have := HCK.out 4 (by omega); simpa [ClV.cells] using this
    have c5 : w5.cell? ⟨g, k * 10 + 2 + 3, none⟩ = some (.int .i64 vs[k].x.lo) := by rw [blk_cell HGB5.out]; have := HCK.out 5 (by omega); simpa [ClV.cells] using this
    have c6 : w5.cell? ⟨g, k * 10 + 2 + 4, none⟩ = some (.int .i64 vs[k].x.hi) := by rw [blk_cell HGB5.out]; have := HCK.out 6 (by omega); simpa [ClV.cells] using this
    have c7 : w5.cell? ⟨g, k * 10 + 2 + 5, none⟩ = some (.slice vs[k].x.aa vs[k].x.na vs[k].x.ca) := by rw [blk_cell HGB5.out]; have := HCK.out 7 (by omega); simpa [ClV.cells] using this
    have hlg := blk_lt HGB5.out
    unfold ExV.val exV at HTC
    go_wp2_with fail
    refine HTC.out.mono ?_
    rintro r w6 ⟨e', v', rfl, hok', he', hd6, hc6⟩
    have HOK6 := Lib.hid hok'
    have HE6 := Lib.hid he'
    have HD6 := Lib.hid hd6
    have HC6 := Lib.hid (HC5.out.then hc6)
    have HGB6 := Lib.hid (hc6.blk HGB5.out (by simp; omega))
    have hlg6 := blk_lt HGB6.out
    have cf : ∀ j, w6.frozen? ⟨g, j, none⟩ = false := fun j => frozen_of_row w6 g j cur _ HGB6.out
    clear hok' he' hd6 hc6 c2 c3 c4 c5 c6 c7 HTC hlg
    unfold ExV.val exV
    have c8 : w6.cell? ⟨g, k * 10 + 8, none⟩ = some (.slice vs[k].au vs[k].nu vs[k].cu) := by rw [blk_cell HGB6.out]; have := HCK.out 8 (by omega); simpa [ClV.cells] using this
    obtain ⟨W, hW⟩ : ∃ W, W = (w6.setCell ⟨g, k * 10 + 8, none⟩ (.slice (some ⟨w6.heap.size, 0, none⟩) 1 1)).alloc (.cells #[.string ⟨#[119]⟩, .int .i64 v'.op, .string v'.name, .slice v'.aw v'.nw v'.cw, .int .i64 v'.lo, .int .i64 v'.hi, .slice v'.aa v'.na v'.ca, .slice none 0 0] 77) := ⟨_, rfl⟩
    have hcs : Chg [g] w6 W := by rw [hW]; exact ((Chg.refl [g] w6).setCell (Or.inl (by simp)) _).alloc _
    have hbz : W.heap[w6.heap.size]? = some (.cells #[.string ⟨#[119]⟩, .int .i64 v'.op, .string v'.name, .slice v'.aw v'.nw v'.cw, .int .i64 v'.lo, .int .i64 v'.hi, .slice v'.aa v'.na v'.ca, .slice none 0 0] 77 (0, 0)) := by rw [hW]; exact alloc_atR (by simp)
    have hbg : W.heap[g]? = some (.cells (cur.setIfInBounds (k * 10 + 8) (.slice (some ⟨w6.heap.size, 0, none⟩) 1 1)) 38 (0, 0)) := by rw [hW]; exact blk_alloc (heap_setCell_same _ _ _ _ _ _ HGB6.out)
    have HCS := Lib.hid hcs
    have HBZ := Lib.hid hbz
    have HBG := Lib.hid hbg
    clear hcs hbz hbg
    go_wp2_with fail
    rw [← hW]
    clear hW
    go_ret
    have hcw : Chg [bd] w W := HC6.out.trans HCS.out (by intro y hy; simp at hy; subst hy; exact Or.inr hg1)
    have hold := HOLD.out _ hcw k hkm hkv
    have hex : IsEx W e' v'.val := HE6.out.mono ((mask_less w6 (M := [g]) (N := [bd, g]) (by simp)).trans (HCS.out.sub.trans (mask_sub _ _)))
    refine HFIN.out W _ ⟨m[k].kind, m[k].name, m[k].cond, [.mk ⟨#[119]⟩ e' []], m[k].amount⟩ ⟨vs[k].kind, vs[k].name, vs[k].x, some ⟨w6.heap.size, 0, none⟩, 1, 1, vs[k].amount⟩ hcw (HD6.out.chg HCS.out (by simp; omega) (by simp; omega)) HBG.out (fun i hi => ?_) (fun j hj => ?_) ⟨hold.1, hold.2.1, hold.2.2.1, rfl, Nat.le_refl _, Or.inr ⟨_, _, rfl⟩, ?_, hold.2.2.2.2.2.2.2⟩ ?_
    · have hh := HCK.out i hi
      rw [Array.getElem?_setIfInBounds]
      by_cases h1 : i = 8
      · subst h1
        rw [if_pos rfl, if_pos (by omega)]
        rfl
      · rw [if_neg (by omega), hh]
        have hi' : i = 0 ∨ i = 1 ∨ i = 2 ∨ i = 3 ∨ i = 4 ∨ i = 5 ∨ i = 6 ∨ i = 7 ∨ i = 9 := by omega
        rcases hi' with rfl | rfl | rfl | rfl | rfl | rfl | rfl | rfl | rfl <;> rfl
    · rw [Array.getElem?_setIfInBounds, if_neg (by omega)]
    · refine WbsD.of [.mk ⟨#[119]⟩ e' []] 0 [⟨⟨#[119]⟩, v', none, 0, 0⟩] rfl fun i q1 q2 => ?_
      obtain rfl : i = 0 := by simp at q1; omega
      refine ⟨rfl, fun j hj => ?_, hex, rfl, Nat.le_refl _, Or.inl ⟨rfl, rfl⟩, by unfold WbsD; trivial⟩
      simp only [Nat.zero_mul, Nat.zero_add, List.getElem_cons_zero] at hj ⊢
      rw [blk_cell HBZ.out, WbV.len] at *
      have hj' : j = 0 ∨ j = 1 ∨ j = 2 ∨ j = 3 ∨ j = 4 ∨ j = 5 ∨ j = 6 ∨ j = 7 := by omega
      rcases hj' with rfl | rfl | rfl | rfl | rfl | rfl | rfl | rfl <;> rfl
    · obtain ⟨f1, f2, f3, f4, f5, f6⟩ := HGK.out
      have hz := HOK6.out.2.2
      have hz2 := HGS.out.2.2.1
      refine ⟨f1, f2, f3, f4, by simp, ?_⟩
      unfold wbFits
      exact ⟨by show 1 ≤ _; omega, HOK6.out.1, HOK6.out.2.1, slim_of_size _ (by omega), by simp, by unfold wbFits; trivial, by unfold wbFits; trivial⟩
  all_goals
    have HTC := Lib.hid (twisted_calls 1000 (by omega) m[k].cond vs[k].x w0 w5 bd [g] HGS.out.2.2.1 HGS.out.1 HGS.out.2.1 HD5.out ((HMI.out k hkm hkv).2.2.1.mono (mask_sub_mask fun y hy hn => by
      simp only [List.mem_cons, List.not_mem_nil, or_false, not_or] at hn ⊢
      exact ⟨⟨hn, by omega⟩, HC5.out.block y hy (by simpa using hn)⟩)) (by simp; exact blk_lt HGB5.out))
    have c2 : w5.cell? ⟨g, k * 10 + 2, none⟩ = some (.int .i64 vs[k].x.op) := by rw [blk_cell HGB5.out]; have := HCK.out 2 (by omega); simpa [ClV.cells] using this
    have c3 : w5.cell? ⟨g, k * 10 + 2 + 1, none⟩ = some (.string vs[k].x.name) := by rw [blk_cell HGB5.out]; have := HCK.out 3 (by omega); simpa [ClV.cells] using this
    have c4 : w5.cell? ⟨g, k * 10 + 2 + 2, none⟩ = some (.slice vs[k].x.aw vs[k].x.nw vs[k].x.cw) := by rw [blk_cell HGB5.out]; have := HCK.out 4 (by omega); simpa [ClV.cells] using this
    have c5 : w5.cell? ⟨g, k * 10 + 2 + 3, none⟩ = some (.int .i64 vs[k].x.lo) := by rw [blk_cell HGB5.out]; have := HCK.out 5 (by omega); simpa [ClV.cells] using this
    have c6 : w5.cell? ⟨g, k * 10 + 2 + 4, none⟩ = some (.int .i64 vs[k].x.hi) := by rw [blk_cell HGB5.out]; have := HCK.out 6 (by omega); simpa [ClV.cells] using this
    have c7 : w5.cell? ⟨g, k * 10 + 2 + 5, none⟩ = some (.slice vs[k].x.aa vs[k].x.na vs[k].x.ca) := by rw [blk_cell HGB5.out]; have := HCK.out 7 (by omega); simpa [ClV.cells] using this
    have hlg := blk_lt HGB5.out
    unfold ExV.val exV at HTC
    go_wp2_with fail
    refine HTC.out.mono ?_
    rintro r w6 ⟨e', v', rfl, hok', he', hd6, hc6⟩
    have HOK6 := Lib.hid hok'
    have HE6 := Lib.hid he'
    have HD6 := Lib.hid hd6
    have HC6 := Lib.hid (HC5.out.then hc6)
    have HGB6 := Lib.hid (hc6.blk HGB5.out (by simp; omega))
    have hlg6 := blk_lt HGB6.out
    have cf : ∀ j, w6.frozen? ⟨g, j, none⟩ = false := fun j => frozen_of_row w6 g j cur _ HGB6.out
    clear hok' he' hd6 hc6 c2 c3 c4 c5 c6 c7 HTC hlg
    unfold ExV.val exV
    have c2 : w6.cell? ⟨g, k * 10 + 2, none⟩ = some (.int .i64 vs[k].x.op) := by rw [blk_cell HGB6.out]; have := HCK.out 2 (by omega); simpa [ClV.cells] using this
    have c3 : w6.cell? ⟨g, k * 10 + 2 + 1, none⟩ = some (.string vs[k].x.name) := by rw [blk_cell HGB6.out]; have := HCK.out 3 (by omega); simpa [ClV.cells] using this
    have c4 : w6.cell? ⟨g, k * 10 + 2 + 2, none⟩ = some (.slice vs[k].x.aw vs[k].x.nw vs[k].x.cw) := by rw [blk_cell HGB6.out]; have := HCK.out 4 (by omega); simpa [ClV.cells] using this
    have c5 : w6.cell? ⟨g, k * 10 + 2 + 3, none⟩ = some (.int .i64 vs[k].x.lo) := by rw [blk_cell HGB6.out]; have := HCK.out 5 (by omega); simpa [ClV.cells] using this
    have c6 : w6.cell? ⟨g, k * 10 + 2 + 4, none⟩ = some (.int .i64 vs[k].x.hi) := by rw [blk_cell HGB6.out]; have := HCK.out 6 (by omega); simpa [ClV.cells] using this
    have c7 : w6.cell? ⟨g, k * 10 + 2 + 5, none⟩ = some (.slice vs[k].x.aa vs[k].x.na vs[k].x.ca) := by rw [blk_cell HGB6.out]; have := HCK.out 7 (by omega); simpa [ClV.cells] using this
    go_wp2_with fail
    obtain ⟨W, hW⟩ : ∃ W, W = put6at w6 g (k * 10 + 2) v' := ⟨_, rfl⟩
    have hcs : Chg [g] w6 W := by rw [hW]; exact put6at_chg _ _ _ _ (by simp)
    have hbg : W.heap[g]? = some (.cells ((((((cur.setIfInBounds (k * 10 + 2) (.int .i64 v'.op)).setIfInBounds (k * 10 + 2 + 1) (.string v'.name)).setIfInBounds (k * 10 + 2 + 2) (.slice v'.aw v'.nw v'.cw)).setIfInBounds (k * 10 + 2 + 3) (.int .i64 v'.lo)).setIfInBounds (k * 10 + 2 + 4) (.int .i64 v'.hi)).setIfInBounds (k * 10 + 2 + 5) (.slice v'.aa v'.na v'.ca)) 38 (0, 0)) := by
      rw [hW]
      unfold put6at
      exact heap_setCell_same _ _ _ _ _ _ (heap_setCell_same _ _ _ _ _ _ (heap_setCell_same _ _ _ _ _ _ (heap_setCell_same _ _ _ _ _ _ (heap_setCell_same _ _ _ _ _ _ (heap_setCell_same _ _ _ _ _ _ HGB6.out)))))
    unfold put6at at hW
    rw [← hW]
    go_ret
    have hcw : Chg [bd] w W := HC6.out.trans hcs (by intro y hy; simp at hy; subst hy; exact Or.inr hg1)
    have hold := HOLD.out _ hcw k hkm hkv
    have hex : IsEx W e' v'.val := HE6.out.mono ((mask_less w6 (M := [g]) (N := [bd, g]) (by simp)).trans (hcs.sub.trans (mask_sub _ _)))
    refine HFIN.out W _ ⟨m[k].kind, m[k].name, e', m[k].unl, m[k].amount⟩ ⟨vs[k].kind, vs[k].name, v', vs[k].au, vs[k].nu, vs[k].cu, vs[k].amount⟩ hcw (HD6.out.chg hcs (by simp; omega) (by simp; omega)) hbg (fun i hi => ?_) (fun j hj => ?_) ⟨hold.1, hold.2.1, hex, hold.2.2.2⟩ ?_
    · have hh := HCK.out i hi
      simp only [Array.getElem?_setIfInBounds, Array.size_setIfInBounds]
      have hi' : i = 0 ∨ i = 1 ∨ i = 2 ∨ i = 3 ∨ i = 4 ∨ i = 5 ∨ i = 6 ∨ i = 7 ∨ i = 8 ∨ i = 9 := by omega
      rcases hi' with rfl | rfl | rfl | rfl | rfl | rfl | rfl | rfl | rfl | rfl
      all_goals
        repeat (first | rw [if_pos (by omega)] | rw [if_neg (by omega)])
        first | rfl | (rw [hh]; rfl)
    · simp only [Array.getElem?_setIfInBounds]
      rw [if_neg (by omega), if_neg (by omega), if_neg (by omega), if_neg (by omega), if_neg (by omega), if_neg (by omega)]
    · obtain ⟨f1, f2, f3, f4, f5, f6⟩ := HGK.out
      have hz := HOK6.out.2.2
      have hz2 := HGS.out.2.2.1
      exact ⟨f1, HOK6.out.1, HOK6.out.2.1, slim_of_size _ (by show e'.size ≤ _; omega), f5, f6⟩
end Go.Proofs.YtfjlglefodndjaaGreatDoor

namespace Go.Proofs.YtfjlglefodndjaaGreatDoor
open Go.RowKit

/-! The program's look-ups: schema.Index, wording.Find. -/
set_option maxRecDepth 100000 in
set_option maxHeartbeats 1000000 in
theorem sIndex_calls (s : List Attr) (v : Value) (x : ByteArray) (w : World) (hs : IsSchema w s v) (hl : s.length ≤ 1000000000000000) :
    Calls Tryz.prog 50 #[v, .string x] w (GivesE (optV (attrAt s x)) w) := by
  obtain ⟨a, n, c, rfl, hn, hnc, hoa, hat⟩ := hs.parts
  have HS := Lib.hid hs
  have HN := Lib.hid hn
  have hn2 : n ≤ 1000000000000000 := by omega
  clear hs hn hat hnc hoa
  go_enter Tryz.func50, Tryz.ntmps50
  go_wp2_with fail
  go_loopw [11] (fun t wr => ∃ k : Nat, t = .int .i64 k ∧ k ≤ n ∧ (∀ j (h : j < s.length), j < k → decide (s[j].name = x) = false) ∧ Ext w wr) (fun t _ => n - (intOf t).toNat)
  case atStart => exact ⟨0, rfl, by omega, fun j _ h => by omega, (Ext.refl w).alloc _⟩
  case round =>
    obtain ⟨k, rfl, hk, hno, hx⟩ := hrel
    have HNO := Lib.hid hno
    have HX := Lib.hid hx
    clear hno hx
    by_cases hkn : k < n
    · have hks : k < s.length := by have := HN.out; omega
      obtain ⟨a', n', c', e', hx1, hx2, hx3, hat⟩ := (HS.out.ext HX.out).parts
      simp only [Value.agg.injEq, Array.mk.injEq, List.cons.injEq, Value.slice.injEq, and_true] at e'
      obtain ⟨rfl, rfl, rfl⟩ := e'
      clear hx1 hx2 hx3
      obtain ⟨b, off, rfl, aw, nw, cw, h0, h1, h2, h3, h4, h5⟩ := hat k hks
      have t1 : decide ((k : Int) < (n : Int)) = true := decide_eq_true (by omega)
      cases he : (s[k].name.toList == x.toList)
      · have HE := Lib.hid (dec_of_beq he)
        clear hat h5
        go_wp2_with fail
        go_roundw
        case rel =>
          refine ⟨k + 1, by go_num, by omega, fun j hj hjk => ?_, HX.out.alloc _⟩
          by_cases e : j = k
          · subst e; exact HE.out
          · exact HNO.out j hj (by omega)
        case measure => simp [intOf]; omega
      · have HF := Lib.hid (show attrAt s x = some k from find_hit hks (dec_of_beq he) HNO.out)
        clear hat h5
        go_wp2_with fail
        go_ret2
        exact ⟨by rw [optV, HF.out]; rfl, HX.out.alloc _⟩
    · have t1 : decide ((k : Int) < (n : Int)) = false := decide_eq_false (by omega)
      have HF := Lib.hid (show attrAt s x = none from find_miss fun j hj => HNO.out j hj (by have := HN.out; omega))
      go_wp2_with fail
      go_ret2
      exact ⟨by rw [optV, HF.out]; rfl, HX.out⟩
set_option maxRecDepth 100000 in
set_option maxHeartbeats 1000000 in
theorem sFind_calls (l : List Cla) (a : Option Addr) (n c : Nat) (x : ByteArray) (w : World) (hs : IsClas w l a n c) (hl : n ≤ 1000000000000000) :
    Calls Tryz.prog 60 #[.slice a n c, .string x] w (GivesE (optV (findAt l x)) w) := by
  have HS := Lib.hid hs
  have HN := Lib.hid hs.len
  clear hs
  go_enter Tryz.func60, Tryz.ntmps60
  go_wp2_with fail
  go_loopw [10] (fun t wr => ∃ k : Nat, t = .int .i64 k ∧ k ≤ n ∧ (∀ j (h : j < l.length), j < k → decide (l[j].name = x) = false) ∧ Ext w wr) (fun t _ => n - (intOf t).toNat)
  case atStart => exact ⟨0, rfl, by omega, fun j _ h => by omega, Ext.refl _⟩
  case round =>
    obtain ⟨k, rfl, hk, hno, hx⟩ := hrel
    have HNO := Lib.hid hno
    have HX := Lib.hid hx
    clear hno hx
    by_cases hkn : k < n
    · have hks : k < l.length := by have := HN.out; omega
      obtain ⟨b, off, v, rfl, hcla, hrow⟩ := (HS.out.ext HX.out).at hks
      obtain ⟨c0, c1, c2, c3, c4, c5, c6, c7, c8, c9⟩ := hrow.ten
      have hq2 := hcla.2.1
      rw [hq2] at c1
      have t1 : decide ((k : Int) < (n : Int)) = true := decide_eq_true (by omega)
      cases he : (l[k].name.toList == x.toList)
      · have HE := Lib.hid (dec_of_beq he)
        clear hcla hrow hq2
        go_wp2_with fail
        go_roundw
        case rel =>
          refine ⟨k + 1, by go_num, by omega, fun j hj hjk => ?_, HX.out.alloc _⟩
          by_cases e : j = k
          · subst e; exact HE.out
          · exact HNO.out j hj (by omega)
        case measure => simp [intOf]; omega
      · have HF := Lib.hid (show findAt l x = some k from find_hit hks (dec_of_beq he) HNO.out)
        clear hcla hrow hq2
        go_wp2_with fail
        go_ret2
        exact ⟨by rw [optV, HF.out]; rfl, HX.out.alloc _⟩
    · have t1 : decide ((k : Int) < (n : Int)) = false := decide_eq_false (by omega)
      have HF := Lib.hid (show findAt l x = none from find_miss fun j hj => HNO.out j hj (by have := HN.out; omega))
      go_wp2_with fail
      go_ret2
      exact ⟨by rw [optV, HF.out]; rfl, HX.out⟩
end Go.Proofs.YtfjlglefodndjaaGreatDoor

namespace Go.Proofs.YtfjlglefodndjaaGreatDoor

mutual
def pNodes : Ex → Bool
  | .mk op name words lo hi args => nodeB (.mk op name words lo hi args) && pNodesAll args
def pNodesAll : List Ex → Bool
  | [] => true
  | e :: r => pNodes e && pNodesAll r
end
mutual
theorem validF_spec : (e : Ex) → (d n : Int) → n ≤ 300 → d ≤ 17 → ((validF e d n).1 = true ↔ (d + e.depth ≤ 17 ∧ n + e.size ≤ 300 ∧ pNodes e = true)) ∧ ((validF e d n).1 = true → (validF e d n).2 = n + e.size)
  | .mk op name words lo hi args, d, n, hn, hd => by
    have hs : (Ex.mk op name words lo hi args).size = 1 + sizes args := by simp [Ex.size]
    have hp : (Ex.mk op name words lo hi args).depth = depths args + 1 := by simp [Ex.depth]
    rw [validF, hs, hp, pNodes]
    by_cases hc : 300 < n + 1 ∨ 16 < d ∨ nodeB (.mk op name words lo hi args) = false
    · rw [if_pos hc]
      refine ⟨⟨fun h => by simp at h, fun ⟨h1, h2, h3⟩ => ?_⟩, fun h => by simp at h⟩
      rcases hc with hc | hc | hc
      · omega
      · omega
      · rw [hc] at h3; simp at h3
    · rw [if_neg hc]
      have hnb : nodeB (.mk op name words lo hi args) = true := by
        cases hh : nodeB (.mk op name words lo hi args)
        · exact absurd (Or.inr (Or.inr hh)) hc
        · rfl
      obtain ⟨h1, h2⟩ := validsF_spec args (d + 1) (n + 1) (by omega) (by omega)
      rw [hnb, Bool.true_and]
      refine ⟨h1.trans ⟨fun ⟨a, b, c⟩ => ⟨by omega, by omega, c⟩, fun ⟨a, b, c⟩ => ⟨by omega, by omega, c⟩⟩, fun h => by have := h2 h; omega⟩
theorem validsF_spec : (l : List Ex) → (d n : Int) → n ≤ 300 → d ≤ 17 → ((validsF l d n).1 = true ↔ (d + depths l ≤ 17 ∧ n + sizes l ≤ 300 ∧ pNodesAll l = true)) ∧ ((validsF l d n).1 = true → (validsF l d n).2 = n + sizes l)
  | [], d, n, hn, hd => by simp [validsF, depths, sizes, pNodesAll]; omega
  | e :: r, d, n, hn, hd => by
    obtain ⟨h1, h2⟩ := validF_spec e d n hn hd
    rw [validsF, depths, sizes, pNodesAll]
    by_cases hv : (validF e d n).1 = true
    · rw [if_pos hv]
      have e2 := h2 hv
      obtain ⟨a1, a2, a3⟩ := h1.1 hv
      obtain ⟨h3, h4⟩ := validsF_spec r d (validF e d n).2 (by omega) hd
      refine ⟨h3.trans ⟨fun ⟨a, b, c⟩ => ⟨by omega, by omega, by rw [a3, c]; rfl⟩, fun ⟨a, b, c⟩ => ⟨by omega, by omega, by rw [a3] at c; simpa using c⟩⟩, fun h => by have := h4 h; omega⟩
    · rw [if_neg hv]
      refine ⟨⟨fun h => by simp at h, fun ⟨a, b, c⟩ => absurd (h1.2 ⟨by omega, by omega, ?_⟩) hv⟩, fun h => by simp at h⟩
      rw [Bool.and_eq_true] at c; exact c.1
end

theorem nodeB_ref (e : Ex) (h : e.args.length ≤ 300) : nodeB e = refNodeB e := by
  obtain ⟨op, name, words, lo, hi, args⟩ := e
  simp only [nodeB, refNodeB, refNode, Ex.op, Ex.name, Ex.words, Ex.lo, Ex.hi, Ex.args, wordsB] at *
  by_cases h1 : 1 ≤ op ∧ op ≤ 8
  · have hk : op = 1 ∨ op = 2 ∨ op = 3 ∨ op = 4 ∨ op = 5 ∨ op = 6 ∨ op = 7 ∨ op = 8 := by omega
    have hw : words.isEmpty = decide (words.length = 0) := by cases words <;> simp
    have hw2 : (words.length != 0) = decide (1 ≤ words.length) := by cases words <;> simp
    rw [hw, hw2]
    rcases hk with rfl | rfl | rfl | rfl | rfl | rfl | rfl | rfl
    all_goals
      simp only [show ((1 : Int).toNat) = 1 from rfl, show ((2 : Int).toNat) = 2 from rfl, show ((3 : Int).toNat) = 3 from rfl, show ((4 : Int).toNat) = 4 from rfl, show ((5 : Int).toNat) = 5 from rfl, show ((6 : Int).toNat) = 6 from rfl, show ((7 : Int).toNat) = 7 from rfl, show ((8 : Int).toNat) = 8 from rfl, opLeast, opMost, opNamed]
      rw [Bool.eq_iff_iff]
      simp
      try grind
  · simp [h1]
mutual
theorem pNodes_ref : (e : Ex) → e.size ≤ 300 → pNodes e = nodesB e
  | .mk op name words lo hi args, h => by
    have hs : (Ex.mk op name words lo hi args).size = 1 + sizes args := by simp [Ex.size]
    have hl := length_le_sizes args
    rw [pNodes, nodesB, nodeB_ref _ (by simp only [Ex.args]; omega), pNodesAll_ref args (by omega)]
theorem pNodesAll_ref : (l : List Ex) → sizes l ≤ 300 → pNodesAll l = nodesAll l
  | [], _ => by simp [pNodesAll, nodesAll]
  | e :: r, h => by
    rw [sizes] at h
    rw [pNodesAll, nodesAll, pNodes_ref e (by omega), pNodesAll_ref r (by omega)]
end
/-- The program's Valid and the reference's are one. -/
theorem validB_ref (e : Ex) : validB e = refExprB e := by
  unfold validB refExprB
  have h := (validF_spec e 1 0 (by omega) (by omega)).1
  have e1 : refSize e ≤ 300 ↔ e.size ≤ 300 := by unfold refSize; omega
  rw [Bool.eq_iff_iff, h, Bool.and_eq_true, Bool.and_eq_true]
  constructor
  · rintro ⟨a, b, c⟩
    refine ⟨⟨?_, ?_⟩, by rw [← pNodes_ref e (by omega)]; exact c⟩
    · rw [decide_eq_false (by omega)]; rfl
    · rw [decide_eq_true_eq, e1]; omega
  · rintro ⟨⟨a, b⟩, c⟩
    have a2 : ¬ 16 < e.depth := fun h => by rw [decide_eq_true h] at a; cases a
    have b2 := e1.1 (of_decide_eq_true b)
    exact ⟨by omega, by omega, by rw [pNodes_ref e (by omega)]; exact c⟩
end Go.Proofs.YtfjlglefodndjaaGreatDoor

namespace Go.Proofs.YtfjlglefodndjaaGreatDoor
open Go.RowKit

/-! wording.writeBacks: checks and counts. -/
theorem wbN_take_succ : (l : List Wb) → (k : Nat) → (hk : k < l.length) → wbN (l.take (k + 1)) = wbN (l.take k) + 1 + wbN l[k].unl
  | [], k, hk => by simp at hk
  | .mk n c u :: r, 0, _ => by simp [wbN, Wb.unl]
  | .mk n c u :: r, k + 1, hk => by
    have := wbN_take_succ r k (by simpa using hk)
    simp [wbN] at this ⊢
    omega
theorem wbN_take_le : (l : List Wb) → (k : Nat) → wbN (l.take k) ≤ wbN l
  | [], k => by simp [wbN]
  | .mk n c u :: r, 0 => by simp [wbN]
  | .mk n c u :: r, k + 1 => by have := wbN_take_le r k; simp [wbN]; omega
def WbQ (R : Bool) (T : Nat) (bc : Nat) (w : World) (e : Ending) (w' : World) : Prop := ∃ m : Nat, e = .returned (.bool R) ∧ w'.heap[bc]? = some (.cells #[.int .i64 ((m : Nat) : Int)] 3 (0, 0)) ∧ m ≤ 41 ∧ (R = true → m = T) ∧ Chg [bc] w w'
def WbRel (w : World) (bc d n : Nat) (l : List Wb) (nl : Nat) (t : Value) (wr : World) : Prop := ∃ k m : Nat, t = .int .i64 ((k : Nat) : Int) ∧ k ≤ nl ∧ (∀ j (h : j < l.length), j < k → itemB (17 - d) l[j] = true) ∧ m = n + wbN (l.take k) ∧ m ≤ 40 ∧ (k = 0 ∨ d ≠ 17) ∧
  wr.heap[bc]? = some (.cells #[.int .i64 ((m : Nat) : Int)] 3 (0, 0)) ∧ Chg [bc] w wr
set_option maxRecDepth 100000 in
set_option maxHeartbeats 8000000 in
theorem writeBacks_calls {w0 : World} (ho : HasOps w0) (fm : Nat) : ∀ (l : List Wb) (a : Option Addr) (nl c d n bc : Nat) (w : World), wbN l < fm → nl ≤ 1000000000000000 → wbFits l → 1 ≤ d → d ≤ 17 → n ≤ 40 → nl = l.length → WbsD (mask w [bc]) l a → Ext w0 w → w0.heap.size ≤ bc →
    w.heap[bc]? = some (.cells #[.int .i64 ((n : Nat) : Int)] 3 (0, 0)) →
    Calls Tryz.prog 112 #[.slice a nl c, .int .i64 ((d : Nat) : Int), .pointer (some ⟨bc, 0, none⟩)] w (WbQ (backsB (17 - d) l && decide (n + wbN l ≤ 40)) (n + wbN l) bc w) := by
  induction fm with
  | zero => intro l a nl c d n bc w h; omega
  | succ fm ih =>
    intro l a nl c d n bc w hfm hnl hfit hd1 hd2 hn hln hdat hx0 hbc hcell
    have HD := Lib.hid hdat
    have HN := Lib.hid hln
    have HFT := Lib.hid hfit
    have HX0 := Lib.hid hx0
    have HO := Lib.hid ho
    have IH := Lib.hid ih
    have HBC := Lib.hid hbc
    have HCELL := Lib.hid hcell
    have HQ := Lib.hid (backsB_eq (17 - d) l)
    obtain ⟨R, hR⟩ : ∃ R, R = (backsB (17 - d) l && decide (n + wbN l ≤ 40)) := ⟨_, rfl⟩
    rw [← hR]
    have HR := Lib.hid hR
    obtain ⟨T, hT⟩ : ∃ T, T = n + wbN l := ⟨_, rfl⟩
    rw [← hT]
    have HT := Lib.hid hT
    clear hdat hln hfit hx0 ih hcell hR hT ho
    go_enter Tryz.func112, Tryz.ntmps112
    go_wp2_with fail
    go_loopw [11] (WbRel w bc d n l nl) (fun t _ => nl - (intOf t).toNat)
    case atStart => exact ⟨0, n, rfl, by omega, fun j _ h => by omega, by simp [wbN], hn, Or.inl rfl, HCELL.out, Chg.refl _ _⟩
    case round =>
      obtain ⟨k, m, rfl, hk, hall, hm, hm40, hk17, hcb, hch⟩ := hrel
      have HK17 := Lib.hid hk17
      have HALL := Lib.hid hall
      have HM := Lib.hid hm
      have HCB := Lib.hid hcb
      have HCH := Lib.hid hch
      obtain ⟨cc0, ccf⟩ := blk1 hcb
      have hbcl := blk_lt hcb
      clear hall hm hcb hch hk17
      by_cases hkn : k < nl
      case neg =>
        have t1 : decide ((k : Int) < (nl : Int)) = false := decide_eq_false (by omega)
        have HE := Lib.hid (show m = T ∧ R = true by
          have h1 := HM.out
          have h2 := HN.out
          rw [List.take_of_length_le (by omega)] at h1
          refine ⟨by rw [HT.out, h1], ?_⟩
          rw [HR.out, Bool.and_eq_true]
          refine ⟨?_, by simp; omega⟩
          rw [HQ.out, Bool.and_eq_true]
          refine ⟨?_, ?_⟩
          · by_cases h0 : l.length = 0
            · simp [h0]
            · have hd17 : 17 - d ≠ 0 := by
                have := HK17.out
                omega
              simp [hd17]
          · rw [List.all_eq_true]
            intro x hx
            obtain ⟨j, hj, rfl⟩ := List.mem_iff_getElem.1 hx
            exact HALL.out j hj (by omega))
        go_wp2_with fail
        go_ret
        exact ⟨m, by rw [HE.out.2]; rfl, HCB.out, by omega, fun _ => HE.out.1, HCH.out⟩
      have hkl : k < l.length := by have := HN.out; omega
      have t1 : decide ((k : Int) < (nl : Int)) = true := decide_eq_true (by omega)
      obtain ⟨b, off, rfl, v, hv0, hrow, hv2, hv3, hv4, hv5, hv6⟩ := WbsD.at l _ (WbsD.mono HCH.out.sub _ _ HD.out) k hkl
      obtain ⟨c0, c1, c2, c3, c4, c5, c6, c7⟩ := (hrow.mono (mask_sub _ _)).eight
      obtain ⟨ho1, ho2, ho3, ho4, hou, ho5⟩ := wbFits_at l HFT.out k hkl
      have hvn : v.nu ≤ 1000000000000000 := by rw [hv3]; exact hou
      have hwn := wbN_at l k hkl
      have HU := Lib.hid hv6
      have HUN := Lib.hid hv3
      have HEX := Lib.hid hv2
      have HO2 := Lib.hid ho2
      have HO5 := Lib.hid ho5
      have HIT := Lib.hid (show itemB (17 - d) l[k] = (nameB l[k].name && refExprB l[k].cond && backsB (17 - d - 1) l[k].unl) from rfl)
      have HTS := Lib.hid (wbN_take_succ l k hkl)
      have htl := wbN_take_le l (k + 1)
      have HTL := Lib.hid htl
      have hblt := block_lt c0
      rw [hv0] at c0
      simp only at hblt
      clear hrow hv0 hv2 hv3 hv4 hv5 hv6 ho2 ho3 ho4 hou ho5 htl
      obtain ⟨wx, hwx⟩ : ∃ wx, wx = (wr.setCell ⟨bc, 0, none⟩ (.int .i64 ((m : Int) + 1))).alloc (.cells #[.string l[k].name, .int .i64 v.x.op, .string v.x.name, .slice v.x.aw v.x.nw v.x.cw, .int .i64 v.x.lo, .int .i64 v.x.hi, .slice v.x.aa v.x.na v.x.ca, .slice v.au v.nu v.cu] 77) := ⟨_, rfl⟩
      have HBX := Lib.hid (show wx.heap[wr.heap.size]? = some (.cells #[.string l[k].name, .int .i64 v.x.op, .string v.x.name, .slice v.x.aw v.x.nw v.x.cw, .int .i64 v.x.lo, .int .i64 v.x.hi, .slice v.x.aa v.x.na v.x.ca, .slice v.au v.nu v.cu] 77 (0, 0)) by
        rw [hwx]
        exact alloc_atR (by simp))
      have HCX := Lib.hid (show wx.heap[bc]? = some (.cells #[.int .i64 (((m + 1 : Nat)) : Int)] 3 (0, 0)) by
        rw [hwx]
        have := heap_setCell_same wr bc 0 _ _ (.int .i64 ((m : Int) + 1)) HCB.out
        exact blk_alloc this)
      have HHX := Lib.hid (show Chg [bc] wr wx by rw [hwx]; exact ((Chg.refl [bc] wr).setCell (Or.inl (by simp)) _).alloc _)
      go_upto_region 5 with fail
      rw [← hwx]
      have HXX := Lib.hid ((HCH.out.then HHX.out).ext HX0.out (by simpa using HBC.out))
      clear hwx cc0 ccf c0 c1 c2 c3 c4 c5 c6 c7
      obtain ⟨cc0, ccf⟩ := blk1 HCX.out
      have HFAL := Lib.hid (fun (h : itemB (17 - d) l[k] = false) => show R = false by
        rw [HR.out, HQ.out]
        have : l.all (itemB (17 - d)) = false := by
          rw [List.all_eq_false]
          exact ⟨l[k], List.getElem_mem hkl, by rw [h]; simp⟩
        rw [this]; simp)
      have HCNT := Lib.hid (fun (h : 40 < n + wbN l) => show R = false by
        rw [HR.out]
        have : decide (n + wbN l ≤ 40) = false := decide_eq_false (by omega)
        rw [this]; simp)
      by_cases h17 : d = 17
      · have t2 : decide ((16 : Int) < (d : Int)) = true := decide_eq_true (by omega)
        have HF := Lib.hid (show R = false by
          rw [HR.out, HQ.out, h17]
          have : ¬ l.length = 0 := by omega
          simp [this])
        go_wp2_with fail
        go_ret
        exact ⟨m + 1, by rw [HF.out]; rfl, HCX.out, by omega, fun h => (by rw [HF.out] at h; cases h), HCH.out.then HHX.out⟩
      have t2 : decide ((16 : Int) < (d : Int)) = false := decide_eq_false (by omega)
      by_cases h40 : 40 < m + 1
      · have t3 : decide ((40 : Int) < ((m + 1 : Nat) : Int)) = true := decide_eq_true (by omega)
        have HF := Lib.hid (HCNT.out (by have h1 := HM.out; have h2 := HTS.out; have h3 := HTL.out; omega))
        go_wp2_with fail
        go_ret
        exact ⟨m + 1, by rw [HF.out]; rfl, HCX.out, by omega, fun h => (by rw [HF.out] at h; cases h), HCH.out.then HHX.out⟩
      have t3 : decide ((40 : Int) < ((m + 1 : Nat) : Int)) = false := decide_eq_false (by omega)
      obtain ⟨c0, c1, c2, c3, c4, c5, c6, c7, cf⟩ := blk8 HBX.out
      have hltx := blk_lt HBX.out
      cases hnb : nameB l[k].name
      · have HNB := Lib.hid hnb
        have HF := Lib.hid (HFAL.out (by rw [HIT.out, hnb]; rfl))
        clear hnb
        go_wp2_with fail
        refine (name_calls _ _ ho1).mono ?_
        rintro r w1 ⟨rfl, rfl⟩
        rw [HNB.out]
        go_wp2_with fail
        go_ret
        exact ⟨m + 1, by rw [HF.out]; rfl, HCX.out, by omega, fun h => (by rw [HF.out] at h; cases h), HCH.out.then HHX.out⟩
      have HNB := Lib.hid hnb
      rw [hnb, Bool.true_and] at HIT
      clear hnb
      go_wp2_with fail
      refine (name_calls _ _ ho1).mono ?_
      rintro r w1 ⟨rfl, rfl⟩
      rw [HNB.out]
      go_wp2_with fail
      refine (Valid_calls l[k].cond _ wx (HEX.out.mono (HHX.out.sub.trans (mask_sub _ _))) (HO.out.ext HXX.out) HO2.out).mono ?_
      rintro r w2 ⟨rfl, hx2⟩
      rw [validB_ref]
      have HX2 := Lib.hid (HXX.out.trans hx2)
      have HC2 := Lib.hid (hx2.blk HCX.out)
      have HB2 := Lib.hid (hx2.blk HBX.out)
      have HCH2 := Lib.hid ((HCH.out.then HHX.out).then (hx2.chg [bc]))
      have HU2 := Lib.hid (WbsD.mono ((HHX.out.then (hx2.chg [bc])).sub) _ _ HU.out)
      clear hx2 c0 c1 c2 c3 c4 c5 c6 c7 cf cc0 ccf hltx
      obtain ⟨c0, c1, c2, c3, c4, c5, c6, c7, cf⟩ := blk8 HB2.out
      have hltx := blk_lt HB2.out
      cases hxb : refExprB l[k].cond
      · have HF := Lib.hid (HFAL.out (by rw [HIT.out, hxb]; rfl))
        go_wp2_with fail
        go_ret
        exact ⟨m + 1, by rw [HF.out]; rfl, HC2.out, by omega, fun h => (by rw [HF.out] at h; cases h), HCH2.out⟩
      rw [hxb, Bool.true_and] at HIT
      clear hxb
      have Q1 := Lib.hid (show (d : Int) + 1 = ((d + 1 : Nat) : Int) by omega)
      have HWF := Lib.hid (IH.out l[k].unl v.au v.nu v.cu (d + 1) (m + 1) bc w2 (by omega) hvn HO5.out (by omega) (by omega) (by omega) HUN.out HU2.out HX2.out HBC.out HC2.out)
      have e1 : 17 - (d + 1) = 17 - d - 1 := by omega
      rw [e1, ← HIT.out] at HWF
      clear e1
      go_wp2_with fail
      rw [Q1.out]
      refine HWF.out.mono ?_
      rintro r w3 ⟨m3, rfl, hc3, hm3, hT3, hch3⟩
      have HC3 := Lib.hid hc3
      have HT3 := Lib.hid hT3
      have HCH3 := Lib.hid (HCH2.out.then hch3)
      clear hc3 hT3 hch3 c0 c1 c2 c3 c4 c5 c6 c7 cf hltx
      cases hib : itemB (17 - d) l[k]
      · have HF := Lib.hid (HFAL.out hib)
        simp only [Bool.false_and]
        clear hib
        go_wp2_with fail
        go_ret
        exact ⟨m3, by rw [HF.out]; rfl, HC3.out, hm3, fun h => (by rw [HF.out] at h; cases h), HCH3.out⟩
      have HIB := Lib.hid hib
      rw [hib] at HT3
      clear hib
      simp only [Bool.true_and]
      by_cases hs40 : m + 1 + wbN l[k].unl ≤ 40
      case neg =>
        have t4 : decide (m + 1 + wbN l[k].unl ≤ 40) = false := decide_eq_false hs40
        rw [t4]
        have HF := Lib.hid (HCNT.out (by have h1 := HM.out; have h2 := HTS.out; have h3 := HTL.out; omega))
        clear t4
        go_wp2_with fail
        go_ret
        exact ⟨m3, by rw [HF.out]; rfl, HC3.out, hm3, fun h => (by rw [HF.out] at h; cases h), HCH3.out⟩
      have t4 : decide (m + 1 + wbN l[k].unl ≤ 40) = true := decide_eq_true hs40
      rw [t4]
      have HMM := Lib.hid (HT3.out (by rw [t4]; rfl))
      clear t4
      go_wp2_with fail
      go_roundw
      case rel =>
        refine ⟨k + 1, m3, by go_num, by omega, fun j hj hjk => ?_, ?_, ?_, ?_, HC3.out, HCH3.out⟩
        · by_cases e : j = k
          · subst e; exact HIB.out
          · exact HALL.out j hj (by omega)
        · rw [HTS.out, HMM.out, HM.out]; omega
        · rw [HMM.out]; exact hs40
        · exact Or.inr h17
      case measure => simp [intOf]; omega
end Go.Proofs.YtfjlglefodndjaaGreatDoor
