/-
  Texts of the claim, joined: Defs, CNode, RBack, RBack2, RClause, Plain1.
-/
import Derived.Test.YtfjlglefodndjaaGreatDoorCe13
import Derived.Test.YtfjlglefodndjaaGreatDoorCe09
import Derived.Test.YtfjlglefodndjaaGreatDoorCe07
import Derived.Test.YtfjlglefodndjaaGreatDoorCe08
namespace Go.Proofs.YtfjlglefodndjaaGreatDoor
open Go.RowKit Go.Maps

/-! check.definitions: a map from names to conditions. -/
theorem uMapSE : Tryz.prog.underlying 61 = some (.map 9 29) := by kernel_rfl
theorem zeroEx (w : World) : (zeroValue 29).run Tryz.prog w = .ok (.agg #[.int .i64 0, .string ⟨#[]⟩, .slice none 0 0, .int .i64 0, .int .i64 0, .slice none 0 0]) w := by kernel_rfl
theorem defAt_take {l : List Cla} {k : Nat} (hk : k < l.length) (s : ByteArray) : defAt (l.take (k + 1)) s = match defAt (l.take k) s with | some d => some d | none => if l[k].kind = 1 ∧ l[k].name = s then some k else none := by
  have h := first_take (l := l.map Cla.dfn) (k := k) (by simpa using hk) s
  rw [← List.map_take, ← List.map_take, firstAt_dfn, firstAt_dfn] at h
  rw [h]
  cases defAt (l.take k) s <;> simp [Cla.dfn]
/-- What the map g holds: the conditions of the first definition of each name. -/
def DefsG (w : World) (l : List Cla) (g : ByteArray → Option Value) : Prop := ∀ s, (defAt l s = none → g s = none) ∧ ∀ d, defAt l s = some d → ∃ v, g s = some v ∧ IsEx w (l.getD d cla0).cond v
theorem DefsG.ext {w w' : World} {l : List Cla} {g : ByteArray → Option Value} (h : DefsG w l g) (hx : Ext w w') : DefsG w' l g := fun s => ⟨(h s).1, fun d hd => by obtain ⟨v, h1, h2⟩ := (h s).2 d hd; exact ⟨v, h1, h2.ext hx⟩⟩
def DefsAt (w : World) (l : List Cla) (b n : Nat) : Prop := ∃ g, MapAt w 9 b n (strF g) ∧ DefsG w l g
theorem DefsAt.ext {w w' : World} {l : List Cla} {b n : Nat} (h : DefsAt w l b n) (hx : Ext w w') : DefsAt w' l b n := by
  obtain ⟨g, h1, h2⟩ := h
  exact ⟨g, h1.ext hx, h2.ext hx⟩
theorem getD_take {l : List Cla} {k d : Nat} (hd : d < k) : (l.take k).getD d cla0 = l.getD d cla0 := by simp [List.getD, hd]
theorem DefsG.skip {w : World} {l : List Cla} {k : Nat} {g : ByteArray → Option Value} (hk : k < l.length) (h : DefsG w (l.take k) g) (hs : l[k].kind ≠ 1 ∨ defAt (l.take k) l[k].name ≠ none) : DefsG w (l.take (k + 1)) g := by
  intro s
  have hdd : ∀ d, defAt (l.take k) s = some d → d < k := fun d hd => by have := defAt_lt hd; simp at this; omega
  have key : defAt (l.take (k + 1)) s = defAt (l.take k) s := by
    rw [defAt_take hk]
    cases hd : defAt (l.take k) s with
    | some d => rfl
    | none =>
      rw [if_neg]
      rintro ⟨h1, h2⟩
      rcases hs with h3 | h3
      · exact h3 h1
      · rw [h2] at h3; exact h3 hd
  rw [key]
  refine ⟨(h s).1, fun d hd => ?_⟩
  have := hdd d hd
  rw [getD_take (by omega), ← getD_take (k := k) this]
  exact (h s).2 d hd
theorem DefsG.step {w : World} {l : List Cla} {k : Nat} {g : ByteArray → Option Value} (hk : k < l.length) (h : DefsG w (l.take k) g) (hk1 : l[k].kind = 1) (hn : defAt (l.take k) l[k].name = none) {v : Value} (hv : IsEx w l[k].cond v) : DefsG w (l.take (k + 1)) (upS g l[k].name (some v)) := by
  intro s
  rw [defAt_take hk]
  by_cases e : s = l[k].name
  · subst e
    rw [hn, upS_same]
    simp only [hk1, and_self, if_true]
    refine ⟨fun h => by simp at h, fun d hd => ?_⟩
    obtain rfl : k = d := by simpa using hd
    rw [getD_take (by omega), getD_cla hk]
    exact ⟨v, rfl, hv⟩
  · rw [upS_other _ _ e]
    cases hd : defAt (l.take k) s with
    | none =>
      have : ¬ (l[k].kind = 1 ∧ l[k].name = s) := fun h => e h.2.symm
      simp only [if_neg this]
      exact ⟨fun _ => (h s).1 hd, fun d hd' => by cases hd'⟩
    | some d =>
      have hdk : d < k := by have := defAt_lt hd; simp at this; omega
      refine ⟨fun h => by simp at h, fun d' hd' => ?_⟩
      obtain rfl : d = d' := by simpa using hd'
      rw [getD_take (by omega), ← getD_take (k := k) hdk]
      exact (h s).2 d hd
def DefsQ (l : List Cla) (n : Nat) (w : World) (e : Ending) (w' : World) : Prop := ∃ b, e = .returned (.map (some b)) ∧ DefsAt w' l b n ∧ Ext w w'
set_option maxRecDepth 100000 in
set_option maxHeartbeats 8000000 in
theorem definitions_calls (l : List Cla) (a : Option Addr) (n c : Nat) (w : World) (hl : IsClas w l a n c) (hn : n ≤ 1000000) (hsz : ∀ x ∈ l, x.name.size ≤ 1000000000000000) :
    Calls Tryz.prog 25 #[.slice a n c] w (DefsQ l n w) := by
  have HL := Lib.hid hl
  have HN := Lib.hid hl.len
  have HSZ := Lib.hid hsz
  clear hl hsz
  have hmm := @run_makeMap Tryz.prog
  have HM0 := Lib.hid (MapAt.made w 9)
  have HX0 := Lib.hid ((Ext.refl w).alloc (.map #[] 0))
  obtain ⟨bf, hbf⟩ : ∃ bf : Nat, bf = w.heap.size := ⟨_, rfl⟩
  rw [← hbf] at HM0
  have HBF := Lib.hid hbf
  go_enter Tryz.func25, Tryz.ntmps25
  go_wp2_with fail
  rw [← hbf]
  clear hbf hmm
  go_loopw [11] (fun i wr => ∃ (k : Nat) (g : ByteArray → Option Value), k ≤ n ∧ i = .int .i64 k ∧ MapAt wr 9 bf k (strF g) ∧ DefsG w (l.take k) g ∧ Ext w wr) (fun i _ => n - (intOf i).toNat)
  case atStart =>
    refine ⟨0, fun _ => none, by omega, rfl, HM0.out.congr fun x => ?_, fun s => ⟨fun _ => rfl, fun d hd => ?_⟩, HX0.out⟩
    · cases x <;> simp [strF]
    · simp [defAt] at hd
  case round =>
    obtain ⟨k, g, hk, rfl, hmap, hg, hx⟩ := hrel
    have HMP := Lib.hid hmap
    have HX := Lib.hid hx
    have HG := Lib.hid hg
    have hbw := hmap.lt
    clear hmap hx hg HM0 HX0
    by_cases hlt : k < n
    · have hlt' : k < l.length := by have := HN.out; omega
      have t1 : decide ((k : Int) < (n : Int)) = true := decide_eq_true (by omega)
      obtain ⟨cb, coff, v, rfl, hcla, hrow⟩ := HL.out.at hlt'
      obtain ⟨c0, c1, c2, c3, c4, c5, c6, c7, c8, c9⟩ := (hrow.mono HX.out.sub).ten
      have hns : v.name.size ≤ 1000000000000000 := by rw [hcla.2.1]; exact HSZ.out _ (List.getElem_mem hlt')
      have hblt := block_lt c0
      simp only at hblt
      have HEX := Lib.hid (show IsEx w l[k].cond (.agg #[.int .i64 v.x.op, .string v.x.name, .slice v.x.aw v.x.nw v.x.cw, .int .i64 v.x.lo, .int .i64 v.x.hi, .slice v.x.aa v.x.na v.x.ca]) from hcla.2.2.1)
      have HEK := Lib.hid (show l[k].kind = v.kind from hcla.1.symm)
      have HEN := Lib.hid (show l[k].name = v.name from hcla.2.1.symm)
      have HST := Lib.hid (fun h1 h2 => HG.out.step hlt' h1 h2 HEX.out)
      have HSK := Lib.hid (HG.out.skip hlt')
      rw [HEK.out, HEN.out] at HST HSK
      clear hcla hrow
      cases hfa : defAt (l.take k) v.name with
      | none =>
        have HF := Lib.hid (show strF g (.string v.name.data.toList) = none by rw [strF_at]; exact (HG.out _).1 hfa)
        cases hkd : (v.kind == 1)
        · have HKN := Lib.hid (HSK.out (Or.inl (by simpa using hkd)))
          go_wp2_with (at_lookup; refine wpList_map_ok _ rfl _ _ 61 rfl 9 29 keyedStr uMapSE (zeroEx _) bf k _ rfl (HMP.out.ext ((Ext.refl wr).alloc _)) _ _ rfl (keyStr hns) trivial ?_; rw [HF.out])
          go_roundw
          case rel => exact ⟨k + 1, g, by omega, by go_num, (HMP.out.ext (((Ext.refl wr).alloc _).alloc _)).more (by omega), HKN.out, (HX.out.alloc _).alloc _⟩
          case measure => simp [intOf]; omega
        · have HKN := Lib.hid (HST.out (by simpa using hkd) hfa)
          clear hfa
          go_wp2_with (first
            | (at_lookup; refine wpList_map_ok _ rfl _ _ 61 rfl 9 29 keyedStr uMapSE (zeroEx _) bf k _ rfl (HMP.out.ext ((Ext.refl wr).alloc _)) _ _ rfl (keyStr hns) trivial ?_; rw [HF.out])
            | (at_mapUpdate; refine wpList_map_put _ rfl _ _ _ 61 rfl 9 29 keyedStr uMapSE bf k _ rfl (HMP.out.ext (((Ext.refl wr).alloc _).alloc _)) ?c3 _ _ _ rfl rfl (keyStr hns) trivial ?_))
          case c3 => unfold maxLen; omega
          intro w1 hm1 hc1
          have HM1 := Lib.hid (hm1.congr (setF_str g v.name _))
          have HX1 := Lib.hid (hc1.ext ((HX.out.alloc _).alloc _) (by rw [← HBF.out]; simp))
          clear hm1 hc1
          go_wp2_with fail
          go_roundw
          case rel => exact ⟨k + 1, _, by omega, by go_num, HM1.out, HKN.out, HX1.out⟩
          case measure => simp [intOf]; omega
      | some d =>
        obtain ⟨u, hu, hux⟩ := (HG.out v.name).2 d hfa
        obtain ⟨aw, nw, cw, aa, na, ca, rfl, -, -, -, -, -⟩ := hux.parts
        have HF := Lib.hid (show strF g (.string v.name.data.toList) = some _ by rw [strF_at]; exact hu)
        have HKN := Lib.hid (HSK.out (Or.inr (by rw [hfa]; simp)))
        unfold exV at HF
        clear hfa hu hux
        cases hkd : (v.kind == 1)
        all_goals
          go_wp2_with (at_lookup; refine wpList_map_ok _ rfl _ _ 61 rfl 9 29 keyedStr uMapSE (zeroEx _) bf k _ rfl (HMP.out.ext ((Ext.refl wr).alloc _)) _ _ rfl (keyStr hns) trivial ?_; rw [HF.out])
          go_roundw
          case rel => exact ⟨k + 1, g, by omega, by go_num, (HMP.out.ext (((Ext.refl wr).alloc _).alloc _)).more (by omega), HKN.out, (HX.out.alloc _).alloc _⟩
          case measure => simp [intOf]; omega
    · have t1 : decide ((k : Int) < (n : Int)) = false := decide_eq_false (by omega)
      have hkn : k = n := by omega
      have HGE := Lib.hid (show DefsAt wr l bf n from ⟨g, by rw [← hkn]; exact HMP.out, by have := HG.out.ext HX.out; rwa [List.take_of_length_le (by have := HN.out; omega)] at this⟩)
      clear hkn
      go_wp2_with fail
      go_ret
      exact ⟨bf, rfl, HGE.out, HX.out⟩
end Go.Proofs.YtfjlglefodndjaaGreatDoor

namespace Go.Proofs.YtfjlglefodndjaaGreatDoor
open Go.RowKit Go.Maps

/-! check.node: what it computes for any node. -/
def kindFor (op : Int) : Int := if op = 3 then 3 else if op = 4 then 1 else if op = 5 then 2 else 0
def cnodeErr (s : List Attr) (l : List Cla) (op : Int) (name : ByteArray) (words : List ByteArray) (lo hi : Int) : Int :=
  if kindFor op = 0 then 0 else match attrAt s name with
  | none => if op = 3 ∧ (defAt l name).isSome = true then 0 else 7
  | some i => if (s.getD i attr0).kind ≠ kindFor op then 9 else if (words.all fun x => decide (x ∈ (s.getD i attr0).words)) = false then 7 else if lo < (s.getD i attr0).lo ∨ (s.getD i attr0).hi < hi then 1 else 0
theorem cnode_none {s : List Attr} {l : List Cla} {op : Int} {name : ByteArray} {words : List ByteArray} {lo hi : Int} (hk : kindFor op ≠ 0) (h : attrAt s name = none) : cnodeErr s l op name words lo hi = if op = 3 ∧ (defAt l name).isSome = true then 0 else 7 := by
  unfold cnodeErr; rw [if_neg hk, h]
theorem cnode_some {s : List Attr} {l : List Cla} {op : Int} {name : ByteArray} {words : List ByteArray} {lo hi : Int} (hk : kindFor op ≠ 0) {i : Nat} (h : attrAt s name = some i) (hi' : i < s.length) : cnodeErr s l op name words lo hi =
    if s[i].kind ≠ kindFor op then 9 else if (words.all fun x => decide (x ∈ s[i].words)) = false then 7 else if lo < s[i].lo ∨ s[i].hi < hi then 1 else 0 := by
  unfold cnodeErr; rw [if_neg hk, h]
  simp only [getD_attr hi']
set_option maxRecDepth 100000 in
set_option maxHeartbeats 8000000 in
theorem cnode_calls (s : List Attr) (sv : Value) (l : List Cla) (bm nm : Nat) (e : Ex) (ev : Value) (w : World) (hs : IsSchema w s sv) (hf : ∀ x ∈ s, x.fits) (hsl : s.length ≤ 1000000000000000) (hd : DefsAt w l bm nm) (he : IsEx w e ev) (hew : e.words.length ≤ 1000000000000000) (hen : e.name.size ≤ 1000000000000000) :
    Calls Tryz.prog 79 #[sv, .map (some bm), ev] w (GivesE (.int .i64 (cnodeErr s l e.op e.name e.words e.lo e.hi)) w) := by
  obtain ⟨sa, sn, sc, rfl, hsn⟩ := hs.slice
  obtain ⟨aw, nw, cw, aa, na, ca, rfl, hw, hna, hca, ha, hx⟩ := he.parts
  have HS := Lib.hid hs
  have HF := Lib.hid hf
  have HD := Lib.hid hd
  have HW := Lib.hid hw
  have HSN := Lib.hid hsn
  have HNW := Lib.hid hw.1
  have hnw : nw ≤ 1000000000000000 := by rw [hw.1]; exact hew
  have hsn2 : sn ≤ 1000000000000000 := by omega
  clear hs hf hd hw hsn he hna hca ha hx hew
  unfold exV
  obtain ⟨op, name, words, lo, hi, args⟩ := e
  simp only [Ex.op, Ex.name, Ex.words, Ex.lo, Ex.hi] at *
  obtain ⟨wa, hwa⟩ : ∃ wa, wa = (w.alloc (.cells #[.slice sa sn sc] 24)).alloc (.cells #[.int .i64 op, .string name, .slice aw nw cw, .int .i64 lo, .int .i64 hi, .slice aa na ca] 29) := ⟨_, rfl⟩
  have hxa : Ext w wa := by rw [hwa]; exact ((Ext.refl _).alloc _).alloc _
  have hb0 : wa.heap[w.heap.size]? = some (.cells #[.slice sa sn sc] 24 (0, 0)) := by rw [hwa]; exact blk_alloc (alloc_new w _)
  have hb1 : wa.heap[w.heap.size + 1]? = some (.cells #[.int .i64 op, .string name, .slice aw nw cw, .int .i64 lo, .int .i64 hi, .slice aa na ca] 29 (0, 0)) := by rw [hwa]; exact alloc_atR (by simp)
  have HI := Lib.hid (sIndex_calls s _ name wa (HS.out.ext hxa) (by have := HSN.out; omega))
  have HXA := Lib.hid hxa
  have HB0 := Lib.hid hb0
  have HB1 := Lib.hid hb1
  obtain ⟨E, hE⟩ : ∃ E, E = cnodeErr s l op name words lo hi := ⟨_, rfl⟩
  rw [← hE]
  have HE := Lib.hid hE
  clear hE
  obtain ⟨a0, af⟩ := blk1 hb0
  obtain ⟨b0, b1, b2, b3, b4, b5, bf⟩ := blk6 hb1
  have hlt1 := blk_lt hb1
  clear hxa hb0 hb1
  by_cases hop : op = 3 ∨ op = 4 ∨ op = 5
  case neg =>
    have HR := Lib.hid (show E = 0 by
      rw [HE.out, cnodeErr, if_pos]
      unfold kindFor
      rw [if_neg (by omega), if_neg (by omega), if_neg (by omega)])
    have e3 : (op == 3) = false := by simp; omega
    have e4 : (op == 4) = false := by simp; omega
    have e5 : (op == 5) = false := by simp; omega
    clear hop
    go_enter Tryz.func79, Tryz.ntmps79
    go_upto_region 1 with fail
    rw [← hwa]
    clear hwa
    go_wp2_with fail
    go_ret
    exact givesE_of (by rw [HR.out]) HXA.out
  obtain ⟨kd, hkd⟩ : ∃ kd : Int, (op = 3 ∧ kd = 3) ∨ (op = 4 ∧ kd = 1) ∨ (op = 5 ∧ kd = 2) := by
    rcases hop with h | h | h
    · exact ⟨3, Or.inl ⟨h, rfl⟩⟩
    · exact ⟨1, Or.inr (Or.inl ⟨h, rfl⟩)⟩
    · exact ⟨2, Or.inr (Or.inr ⟨h, rfl⟩)⟩
  have hkf : kindFor op = kd ∧ kd ≠ 0 := by
    rcases hkd with ⟨rfl, rfl⟩ | ⟨rfl, rfl⟩ | ⟨rfl, rfl⟩ <;> exact ⟨rfl, by decide⟩
  clear hop
  have HK0 := Lib.hid (show kindFor op ≠ 0 by rw [hkf.1]; exact hkf.2)
  have HKF := Lib.hid hkf.1
  clear hkf
  cases ho : attrAt s name with
  | none =>
    rw [ho, optV_none] at HI
    have HQ := Lib.hid (show E = if op = 3 ∧ (defAt l name).isSome = true then 0 else 7 by rw [HE.out]; exact cnode_none HK0.out ho)
    clear ho HE HK0 HKF
    obtain ⟨g, hmap, hg⟩ := HD.out
    have HMP := Lib.hid hmap
    have HG := Lib.hid hg
    clear hmap hg
    cases hda : defAt l name with
    | none =>
      have HFN := Lib.hid (show strF g (.string name.data.toList) = none by rw [strF_at]; exact (HG.out _).1 hda)
      have HR := Lib.hid (show E = 7 by rw [HQ.out, hda]; simp)
      clear hda HQ
      rcases hkd with ⟨rfl, rfl⟩ | ⟨rfl, rfl⟩ | ⟨rfl, rfl⟩
      all_goals
        go_enter Tryz.func79, Tryz.ntmps79
        go_upto_region 1 with fail
        rw [← hwa]
        clear hwa
        go_wp2_with fail
        refine HI.out.mono ?_
        rintro r w3 ⟨rfl, hx3⟩
        have HX3 := Lib.hid (HXA.out.trans hx3)
        have HM3 := Lib.hid (HMP.out.ext HX3.out)
        clear b0 b1 b2 b3 b4 b5 bf a0 af hlt1
        obtain ⟨b0, b1, b2, b3, b4, b5, bf⟩ := blk6 (hx3.blk HB1.out)
        have hlt := blk_lt (hx3.blk HB1.out)
        clear hx3
        go_wp2_with (at_lookup; refine wpList_map_ok _ rfl _ _ 61 rfl 9 29 keyedStr uMapSE (zeroEx _) bm nm _ rfl HM3.out _ _ rfl (keyStr hen) trivial ?_; rw [HFN.out])
        go_ret
        exact givesE_of (by rw [HR.out]) (HX3.out.alloc _)
    | some d =>
      obtain ⟨u, hu, hux⟩ := (HG.out name).2 d hda
      obtain ⟨aw', nw', cw', aa', na', ca', rfl, -, -, -, -, -⟩ := hux.parts
      have HFN := Lib.hid (show strF g (.string name.data.toList) = some _ by rw [strF_at]; exact hu)
      unfold exV at HFN
      have HR := Lib.hid (show E = if op = 3 then 0 else 7 by rw [HQ.out, hda]; simp)
      clear hda HQ hu hux
      rcases hkd with ⟨rfl, rfl⟩ | ⟨rfl, rfl⟩ | ⟨rfl, rfl⟩
      all_goals
        go_enter Tryz.func79, Tryz.ntmps79
        go_upto_region 1 with fail
        rw [← hwa]
        clear hwa
        go_wp2_with fail
        refine HI.out.mono ?_
        rintro r w3 ⟨rfl, hx3⟩
        have HX3 := Lib.hid (HXA.out.trans hx3)
        have HM3 := Lib.hid (HMP.out.ext HX3.out)
        clear b0 b1 b2 b3 b4 b5 bf a0 af hlt1
        obtain ⟨b0, b1, b2, b3, b4, b5, bf⟩ := blk6 (hx3.blk HB1.out)
        have hlt := blk_lt (hx3.blk HB1.out)
        clear hx3
        go_wp2_with (at_lookup; refine wpList_map_ok _ rfl _ _ 61 rfl 9 29 keyedStr uMapSE (zeroEx _) bm nm _ rfl HM3.out _ _ rfl (keyStr hen) trivial ?_; rw [HFN.out])
        go_ret
        exact givesE_of (by rw [HR.out]; decide) (HX3.out.alloc _)
  | some i =>
    rw [ho, optV_some] at HI
    have his := attrAt_lt ho
    have hin : i < sn := by have := HSN.out; omega
    have HQ := Lib.hid (show E = if s[i].kind ≠ kd then 9 else if (words.all fun x => decide (x ∈ s[i].words)) = false then 7 else if lo < s[i].lo ∨ s[i].hi < hi then 1 else 0 by rw [HE.out, cnode_some HK0.out ho his, HKF.out])
    clear ho HE HK0 HKF
    have ti0 : (0 : Int) ≤ (i : Int) := by omega
    have ti1 : (i : Int) < (sn : Int) := by omega
    have hfi := HF.out _ (List.getElem_mem his)
    have hxn0 := hfi.2.1
    clear hfi
    by_cases hk : s[i].kind = kd
    case neg =>
      have tk : (s[i].kind != kd) = true := by simp [hk]
      have HR := Lib.hid (show E = 9 by rw [HQ.out, if_pos hk])
      clear hk HQ
      rcases hkd with ⟨rfl, rfl⟩ | ⟨rfl, rfl⟩ | ⟨rfl, rfl⟩
      all_goals
        go_enter Tryz.func79, Tryz.ntmps79
        go_upto_region 1 with fail
        rw [← hwa]
        clear hwa
        go_wp2_with fail
        refine HI.out.mono ?_
        rintro r w3 ⟨rfl, hx3⟩
        have HX3 := Lib.hid (HXA.out.trans hx3)
        clear b0 b1 b2 b3 b4 b5 bf a0 af hlt1
        obtain ⟨d0, df⟩ := blk1 (hx3.blk HB0.out)
        have hlt := blk_lt (hx3.blk HB1.out)
        obtain ⟨sb, soff, xw, xn, xc, rfl, g0, g1, g2, g3, g4, g5⟩ := (HS.out.ext HX3.out).cells his
        clear hx3 g5
        go_wp2_with fail
        go_ret
        exact givesE_of (by rw [HR.out]) (HX3.out.alloc _)
    have tk : (s[i].kind != kd) = false := by simp [hk]
    have HR := Lib.hid (show E = if (words.all fun x => decide (x ∈ s[i].words)) = false then 7 else if lo < s[i].lo ∨ s[i].hi < hi then 1 else 0 by rw [HQ.out, if_neg (by simpa using hk)])
    clear hk HQ
    rcases hkd with ⟨rfl, rfl⟩ | ⟨rfl, rfl⟩ | ⟨rfl, rfl⟩
    all_goals
      go_enter Tryz.func79, Tryz.ntmps79
      go_upto_region 1 with fail
      rw [← hwa]
      clear hwa
      go_wp2_with fail
      refine HI.out.mono ?_
      rintro r w3 ⟨rfl, hx3⟩
      have HX3 := Lib.hid (HXA.out.trans hx3)
      clear b0 b1 b2 b3 b4 b5 bf a0 af hlt1
      obtain ⟨d0, df⟩ := blk1 (hx3.blk HB0.out)
      have HB13 := Lib.hid (hx3.blk HB1.out)
      have hlt := blk_lt (hx3.blk HB1.out)
      obtain ⟨sb, soff, xw, xn, xc, rfl, g0, g1, g2, g3, g4, g5⟩ := (HS.out.ext HX3.out).cells his
      have HG5 := Lib.hid g5
      have hxn : xn ≤ 1000000000000000 := by rw [g5.1]; exact hxn0
      clear hx3 g5
      go_upto_region 17 with fail
      obtain ⟨wb, hwb⟩ : ∃ wb, wb = w3.alloc (.cells #[.string s[i].name, .int .i64 s[i].kind, .slice xw xn xc, .int .i64 s[i].lo, .int .i64 s[i].hi] 91) := ⟨_, rfl⟩
      rw [← hwb]
      have hxb : Ext w3 wb := by rw [hwb]; exact (Ext.refl _).alloc _
      have hbb : wb.heap[w3.heap.size]? = some (.cells #[.string s[i].name, .int .i64 s[i].kind, .slice xw xn xc, .int .i64 s[i].lo, .int .i64 s[i].hi] 91 (0, 0)) := by rw [hwb]; exact alloc_new w3 _
      have HBB := Lib.hid hbb
      have HB6 := Lib.hid (hxb.blk HB13.out)
      have HXB := Lib.hid (HX3.out.trans hxb)
      have HGB := Lib.hid (HG5.out.ext hxb)
      have HWB := Lib.hid (HW.out.ext HXB.out)
      obtain ⟨p0, p1, p2, p3, p4, pf⟩ := blk5b hbb
      obtain ⟨q0, q1, q2, q3, q4, q5, qf⟩ := blk6 HB6.out
      have hltb := blk_lt hbb
      clear hwb hxb hbb d0 df g0 g1 g2 g3 g4 HG5 hlt
      go_wp2_with fail
      go_loop [57] (fun t => ∃ k : Nat, t = .int .i64 k ∧ k ≤ nw ∧ (∀ j (h : j < words.length), j < k → decide (words[j] ∈ s[i].words) = true)) (fun t => nw - (intOf t).toNat)
      case atStart => exact ⟨0, rfl, by omega, fun j _ h => by omega⟩
      case round =>
        obtain ⟨k, rfl, hk, hall⟩ := hrel
        have HALL := Lib.hid hall
        clear hall
        by_cases hkn : k < nw
        · have hkw : k < words.length := by have := HNW.out; omega
          have t1 : decide ((k : Int) < (nw : Int)) = true := decide_eq_true (by omega)
          obtain ⟨wb', woff, rfl, cw0⟩ := HWB.out.2.2.2 k hkw
          cases hany : decide (words[k] ∈ s[i].words)
          · have HA := Lib.hid hany
            have HR2 := Lib.hid (show E = 7 by
              rw [HR.out, if_pos]
              rw [List.all_eq_false]
              exact ⟨words[k], List.getElem_mem hkw, by rw [hany]; simp⟩)
            clear hany
            go_wp2_with fail
            refine (contains_calls _ _ _ _ _ _ hxn HGB.out).mono ?_
            rintro e w' ⟨rfl, rfl⟩
            rw [HA.out]
            go_wp2_with fail
            go_ret
            exact givesE_of (by rw [HR2.out]) HXB.out
          · have HA := Lib.hid hany
            clear hany
            go_wp2_with fail
            refine (contains_calls _ _ _ _ _ _ hxn HGB.out).mono ?_
            rintro e w' ⟨rfl, rfl⟩
            rw [HA.out]
            go_wp2_with fail
            go_round
            case rel =>
              refine ⟨k + 1, by go_num, by omega, fun j hj hjk => ?_⟩
              by_cases e : j = k
              · subst e; exact HA.out
              · exact HALL.out j hj (by omega)
            case measure => simp [intOf]; omega
        · have t1 : decide ((k : Int) < (nw : Int)) = false := decide_eq_false (by omega)
          have HR2 := Lib.hid (show E = if lo < s[i].lo ∨ s[i].hi < hi then 1 else 0 by
            rw [HR.out, if_neg]
            rw [Bool.not_eq_false, List.all_eq_true]
            intro y hy
            obtain ⟨j, hj, rfl⟩ := List.mem_iff_getElem.1 hy
            exact HALL.out j hj (by have := HNW.out; omega))
          clear HALL
          go_wp2_with fail
          all_goals (go_ret; exact givesE_of (by rw [HR2.out]; simp_all <;> omega) HXB.out)
end Go.Proofs.YtfjlglefodndjaaGreatDoor

namespace Go.Proofs.YtfjlglefodndjaaGreatDoor
open Go.RowKit

/-- How many write-backs there are. -/
def wbN : List Wb → Nat
  | [] => 0
  | .mk _ _ u :: r => 1 + wbN u + wbN r
theorem wbN_at : (l : List Wb) → (k : Nat) → (hk : k < l.length) → wbN l[k].unl + 1 ≤ wbN l
  | [], k, hk => by simp at hk
  | .mk n c u :: r, 0, _ => by simp only [List.getElem_cons_zero, Wb.unl, wbN]; omega
  | .mk n c u :: r, k + 1, hk => by
    have := wbN_at r k (by simpa using hk)
    simp only [List.getElem_cons_succ, wbN]; omega
theorem wbN_len : (l : List Wb) → l.length ≤ wbN l
  | [] => by simp [wbN]
  | .mk n c u :: r => by have := wbN_len r; simp only [List.length_cons, wbN]; omega
def bkSum : List Wb → Nat
  | [] => 0
  | .mk _ _ u :: r => min (cntBacks u) 41 + bkSum r
theorem cnt_sum : (l : List Wb) → cntBacks l = l.length + bkSum l
  | [] => by simp [cntBacks, bkSum]
  | .mk n c u :: r => by rw [cntBacks, bkSum, cnt_sum r]; simp; omega
theorem bkSum_take_succ : (l : List Wb) → (k : Nat) → (hk : k < l.length) → bkSum (l.take (k + 1)) = bkSum (l.take k) + min (cntBacks l[k].unl) 41
  | [], k, hk => by simp at hk
  | .mk n c u :: r, 0, _ => by simp [bkSum, Wb.unl]
  | .mk n c u :: r, k + 1, hk => by
    have := bkSum_take_succ r k (by simpa using hk)
    simp [bkSum] at this ⊢
    omega
theorem bkSum_take_le : (l : List Wb) → (k : Nat) → bkSum (l.take k) ≤ bkSum l
  | [], k => by simp [bkSum]
  | .mk n c u :: r, 0 => by simp [bkSum]
  | .mk n c u :: r, k + 1 => by have := bkSum_take_le r k; simp [bkSum]; omega
/-- Bounds on what is read. -/
def wbOk : List Wb → Prop
  | [] => True
  | .mk n c u :: r => n.size ≤ 1000000000000000 ∧ c.fits ∧ c.few ∧ c.size ≤ 1000000000000000 ∧ wbOk u ∧ wbOk r
theorem wbOk_at : (l : List Wb) → wbOk l → (k : Nat) → (hk : k < l.length) → l[k].name.size ≤ 1000000000000000 ∧ l[k].cond.fits ∧ l[k].cond.few ∧ l[k].cond.size ≤ 1000000000000000 ∧ wbOk l[k].unl
  | [], _, k, hk => by simp at hk
  | .mk n c u :: r, h, 0, _ => by rw [wbOk] at h; exact ⟨h.1, h.2.1, h.2.2.1, h.2.2.2.1, h.2.2.2.2.1⟩
  | .mk n c u :: r, h, k + 1, hk => by rw [wbOk] at h; simpa using wbOk_at r h.2.2.2.2.2 k (by simpa using hk)
/-- Bounds on write-backs that came in: only lengths. -/
def wbFits : List Wb → Prop
  | [] => True
  | .mk n c u :: r => n.size ≤ 1000000000000000 ∧ c.fits ∧ c.few ∧ c.slim ∧ u.length ≤ 1000000000000000 ∧ wbFits u ∧ wbFits r
def Wb.fit (x : Wb) : Prop := x.name.size ≤ 1000000000000000 ∧ x.cond.fits ∧ x.cond.few ∧ x.cond.slim ∧ x.unl.length ≤ 1000000000000000 ∧ wbFits x.unl
theorem wbFits_of : (l : List Wb) → (∀ x ∈ l, x.fit) → wbFits l
  | [], _ => by unfold wbFits; trivial
  | .mk n c u :: r, h => by
    unfold wbFits
    obtain ⟨h1, h2, h3, h4, h5, h6⟩ := h _ List.mem_cons_self
    exact ⟨h1, h2, h3, h4, h5, h6, wbFits_of r fun x hx => h x (by simp [hx])⟩
theorem wbFits_at : (l : List Wb) → wbFits l → (k : Nat) → (hk : k < l.length) → l[k].fit
  | [], _, k, hk => by simp at hk
  | .mk n c u :: r, h, 0, _ => by rw [wbFits] at h; exact ⟨h.1, h.2.1, h.2.2.1, h.2.2.2.1, h.2.2.2.2.1, h.2.2.2.2.2.1⟩
  | .mk n c u :: r, h, k + 1, hk => by rw [wbFits] at h; simpa using wbFits_at r h.2.2.2.2.2.2 k (by simpa using hk)
theorem wbFits_of_ok : (l : List Wb) → wbOk l → wbN l ≤ 1000000000000000 → wbFits l
  | [], _, _ => by unfold wbFits; trivial
  | .mk n c u :: r, h, hn => by
    rw [wbOk] at h
    rw [wbN] at hn
    have hu := wbN_len u
    unfold wbFits
    exact ⟨h.1, h.2.1, h.2.2.1, slim_of_size c h.2.2.2.1, by omega, wbFits_of_ok u h.2.2.2.2.1 (by omega), wbFits_of_ok r h.2.2.2.2.2 (by omega)⟩
set_option maxRecDepth 100000 in
set_option maxHeartbeats 2000000 in
theorem rcount_calls (m : Nat) : ∀ (l : List Wb) (a : Option Addr) (n c : Nat) (w : World), wbN l ≤ m → n ≤ 1000000000000000 → wbFits l → WbsD w l a → n = l.length →
    Calls Tryz.prog 62 #[.slice a n c] w (Gives (.int .i64 (min (cntBacks l) 41 : Nat)) w) := by
  induction m with
  | zero =>
    intro l a n c w hm hn2 hfit hd hn
    have hl := wbN_len l
    have : l = [] := List.eq_nil_of_length_eq_zero (by omega)
    subst this
    subst hn
    have HR := Lib.hid (show (min (cntBacks []) 41 : Nat) = 0 by simp [cntBacks])
    generalize (min (cntBacks []) 41 : Nat) = R at *
    clear hd hfit
    go_enter Tryz.func62, Tryz.ntmps62
    go_wp2_with fail
    go_loop [3, 4] (fun t i => t = .int .i64 0 ∧ i = .int .i64 0) (fun _ _ => 0)
    case atStart => exact ⟨rfl, rfl⟩
    case round =>
      obtain ⟨rfl, rfl⟩ := hrel
      go_wp2_with fail
      all_goals (go_ret; exact ⟨by rw [HR.out]; rfl, rfl⟩)
  | succ m ih =>
    intro l a n c w hm hn2 hfit hd hn
    have HFT := Lib.hid hfit
    have HD := Lib.hid hd
    have HN := Lib.hid hn
    have IH := Lib.hid ih
    have HCS := Lib.hid (cnt_sum l)
    clear hd hn ih hfit
    go_enter Tryz.func62, Tryz.ntmps62
    go_wp2_with fail
    go_loop [3, 4] (fun t i => ∃ k : Nat, i = .int .i64 k ∧ k ≤ n ∧ t = .int .i64 ((n + bkSum (l.take k) : Nat) : Int) ∧ (k = 0 ∨ n + bkSum (l.take k) ≤ 81)) (fun _ i => n - (intOf i).toNat)
    case atStart => exact ⟨0, rfl, by omega, by simp [bkSum], Or.inl rfl⟩
    case round =>
      obtain ⟨k, rfl, hk, rfl, hle⟩ := hrel
      have hk0 : bkSum (l.take k) ≤ 81 := by
        rcases hle with h | h
        · subst h; simp [bkSum]
        · omega
      obtain ⟨N, hN⟩ : ∃ N, N = n + bkSum (l.take k) := ⟨_, rfl⟩
      rw [← hN]
      have hNb : N ≤ 1000000000000081 := by omega
      have HNN := Lib.hid hN
      clear hN hle
      by_cases hgo : k < n ∧ N ≤ 40
      · obtain ⟨hkn, hN40⟩ := hgo
        have hkl : k < l.length := by have := HN.out; omega
        have t1 : decide ((k : Int) < (n : Int)) = true := decide_eq_true (by omega)
        have t2 : decide ((N : Int) ≤ 40) = true := decide_eq_true (by omega)
        obtain ⟨b, off, rfl, v, hv0, hrow, hv2, hv3, hv4, hv5, hv6⟩ := WbsD.at l _ HD.out k hkl
        obtain ⟨c0, c1, c2, c3, c4, c5, c6, c7⟩ := hrow.eight
        have hwn := wbN_at l k hkl
        have HU := Lib.hid hv6
        have HUN := Lib.hid hv3
        have hft := wbFits_at l HFT.out k hkl
        have hvn : v.nu ≤ 1000000000000000 := by rw [hv3]; exact hft.2.2.2.2.1
        have HFU := Lib.hid hft.2.2.2.2.2
        have HTS := Lib.hid (bkSum_take_succ l k hkl)
        clear hrow hv0 hv2 hv3 hv4 hv5 hv6 hft
        go_wp2_with fail
        refine (IH.out l[k].unl _ _ _ w (by omega) hvn HFU.out HU.out HUN.out).mono ?_
        rintro r w1 ⟨rfl, rfl⟩
        obtain ⟨M, hM⟩ : ∃ M, M = (min (cntBacks l[k].unl) 41 : Nat) := ⟨_, rfl⟩
        have hMl : M ≤ 41 := by omega
        rw [← hM]
        rw [← hM] at HTS
        clear hM
        go_wp2_with fail
        go_round
        case rel => exact ⟨k + 1, by go_num, by omega, by rw [HTS.out, ← Nat.add_assoc, ← HNN.out]; go_num, Or.inr (by rw [HTS.out, ← Nat.add_assoc, ← HNN.out]; omega)⟩
        case measure => simp [intOf]; omega
      · have HR := Lib.hid (show (min (cntBacks l) 41 : Nat) = min N 41 by
          have h1 := HCS.out
          have h2 := HN.out
          have h3 := HNN.out
          by_cases h : k < n
          · have h4 : 40 < N := by have := fun h2 => hgo ⟨h, h2⟩; omega
            have h5 := bkSum_take_le l k
            omega
          · have e : l.take k = l := List.take_of_length_le (by omega)
            rw [e] at h3
            omega)
        generalize (min (cntBacks l) 41 : Nat) = R at *
        by_cases hkn : k < n
        · have t1 : decide ((k : Int) < (n : Int)) = true := decide_eq_true (by omega)
          have t2 : decide ((N : Int) ≤ 40) = false := decide_eq_false (by omega)
          clear hgo
          go_wp2_with fail
          all_goals (go_ret; exact ⟨congrArg (fun z : Int => Ending.returned (.int .i64 z)) (by have := HR.out; omega), rfl⟩)
        · have t1 : decide ((k : Int) < (n : Int)) = false := decide_eq_false (by omega)
          clear hgo
          go_wp2_with fail
          all_goals (go_ret; exact ⟨congrArg (fun z : Int => Ending.returned (.int .i64 z)) (by have := HR.out; omega), rfl⟩)
end Go.Proofs.YtfjlglefodndjaaGreatDoor

namespace Go.Proofs.YtfjlglefodndjaaGreatDoor
open Go.RowKit

def itemB (d : Nat) (x : Wb) : Bool := nameB x.name && refExprB x.cond && backsB (d - 1) x.unl
theorem backsB_eq (d : Nat) : (l : List Wb) → backsB d l = ((decide (l.length = 0) || decide (d ≠ 0)) && l.all (itemB d))
  | [] => by simp [backsB]
  | .mk n c u :: r => by
    rw [backsB, backsB_eq d r]
    simp only [List.length_cons, List.all_cons, itemB, Wb.name, Wb.cond, Wb.unl]
    by_cases hd : d = 0
    · simp [hd]
    · simp [hd, Bool.and_assoc]
theorem givesE_b {a b : Bool} {w w' : World} (h : a = b) (hx : Ext w w') : GivesE (.bool b) w (.returned (.bool a)) w' := by subst h; exact ⟨rfl, hx⟩
set_option maxRecDepth 100000 in
set_option maxHeartbeats 4000000 in
theorem rbacks_calls (m : Nat) : ∀ (l : List Wb) (a : Option Addr) (n c d : Nat) (w : World), wbN l ≤ m → n ≤ 1000000000000000 → wbFits l → d ≤ 1000 → WbsD w l a → n = l.length →
    Calls Tryz.prog 63 #[.slice a n c, .int .i64 d] w (GivesE (.bool (backsB d l)) w) := by
  induction m with
  | zero =>
    intro l a n c d w hm hn2 hok hd hD hn
    have hl := wbN_len l
    have : l = [] := List.eq_nil_of_length_eq_zero (by omega)
    subst this
    subst hn
    have HR := Lib.hid (show backsB d [] = true by simp [backsB])
    generalize backsB d [] = R at *
    clear hD hok
    go_enter Tryz.func63, Tryz.ntmps63
    go_wp2_with fail
    go_loop [5] (fun t => t = .int .i64 0) (fun _ => 0)
    case atStart => exact rfl
    case round =>
      subst hrel
      go_wp2_with fail
      all_goals (go_ret; exact givesE_b (by rw [HR.out]) (Ext.refl _))
  | succ m ih =>
    intro l a n c d w hm hn2 hok hd hD hn
    have HD := Lib.hid hD
    have HN := Lib.hid hn
    have HOK := Lib.hid hok
    have IH := Lib.hid ih
    have HQ := Lib.hid (backsB_eq d l)
    clear hD hn ih hok
    obtain ⟨R, hR⟩ : ∃ R, R = backsB d l := ⟨_, rfl⟩
    rw [← hR]
    rw [← hR] at HQ
    clear hR
    by_cases h0 : 0 < n ∧ d = 0
    · obtain ⟨hn0, hd0⟩ := h0
      have t0 : decide ((0 : Int) < (n : Int)) = true := decide_eq_true (by omega)
      have HR := Lib.hid (show R = false by rw [HQ.out, ← HN.out, hd0]; simp; intro h; omega)
      subst hd0
      go_enter Tryz.func63, Tryz.ntmps63
      go_wp2_with fail
      go_ret
      exact givesE_b (by rw [HR.out]) (Ext.refl _)
    · have HQ2 := Lib.hid (show R = l.all (itemB d) by
        rw [HQ.out]
        by_cases h : n = 0
        · have : l = [] := List.eq_nil_of_length_eq_zero (by have := HN.out; omega)
          subst this; simp
        · have hd1 : d ≠ 0 := fun e => h0 ⟨by omega, e⟩
          simp [hd1])
      clear HQ
      by_cases hn0 : 0 < n
      case neg =>
        obtain rfl : n = 0 := by omega
        have hl0 : l = [] := List.eq_nil_of_length_eq_zero HN.out.symm
        have HR := Lib.hid (show R = true by rw [HQ2.out, hl0]; rfl)
        clear h0 hl0 hn0
        go_enter Tryz.func63, Tryz.ntmps63
        go_wp2_with fail
        go_loop [5] (fun t => t = .int .i64 0) (fun _ => 0)
        case atStart => exact rfl
        case round =>
          subst hrel
          go_wp2_with fail
          all_goals (go_ret; exact givesE_b (by rw [HR.out]) (Ext.refl _))
      case pos =>
        have t0 : decide ((0 : Int) < (n : Int)) = true := decide_eq_true (by omega)
        have td : ((d : Int) == 0) = false := by have := fun e => h0 ⟨hn0, e⟩; simp; omega
        go_enter Tryz.func63, Tryz.ntmps63
        go_wp2_with fail
        go_loopw [5] (fun t wr => ∃ k : Nat, t = .int .i64 k ∧ k ≤ n ∧ (∀ j (h : j < l.length), j < k → itemB d l[j] = true) ∧ Ext w wr) (fun t _ => n - (intOf t).toNat)
        case atStart => exact ⟨0, rfl, by omega, fun j _ h => by omega, Ext.refl _⟩
        case round =>
          obtain ⟨k, rfl, hk, hall, hxr⟩ := hrel
          have HALL := Lib.hid hall
          have HXR := Lib.hid hxr
          clear hall hxr
          by_cases hkn : k < n
          · have hkl : k < l.length := by have := HN.out; omega
            have t1 : decide ((k : Int) < (n : Int)) = true := decide_eq_true (by omega)
            have hd1 : 1 ≤ d := by have := fun e => h0 ⟨by omega, e⟩; omega
            obtain ⟨b, off, rfl, v, hv0, hrow, hv2, hv3, hv4, hv5, hv6⟩ := WbsD.at l _ (WbsD.mono HXR.out.sub _ _ HD.out) k hkl
            obtain ⟨c0, c1, c2, c3, c4, c5, c6, c7⟩ := hrow.eight
            obtain ⟨ho1, ho2, ho3, ho4, hou, ho5⟩ := wbFits_at l HOK.out k hkl
            have hvn : v.nu ≤ 1000000000000000 := by rw [hv3]; exact hou
            have HO4 := Lib.hid ho4
            have hwn := wbN_at l k hkl
            have HU := Lib.hid hv6
            have HUN := Lib.hid hv3
            have HEX := Lib.hid hv2
            have HO2 := Lib.hid ho2
            have HO3 := Lib.hid ho3
            have HO5 := Lib.hid ho5
            have HIT := Lib.hid (show itemB d l[k] = (nameB l[k].name && refExprB l[k].cond && backsB (d - 1) l[k].unl) from rfl)
            rw [hv0] at c0
            clear hrow hv0 hv2 hv3 hv4 hv5 hv6 ho2 ho3 ho5 ho4 hou
            have q1 : ((d : Int) - 1) = ((d - 1 : Nat) : Int) := by omega
            cases hnb : nameB l[k].name
            · have HNB := Lib.hid hnb
              have HR := Lib.hid (show R = false by
                rw [HQ2.out, List.all_eq_false]
                exact ⟨l[k], List.getElem_mem hkl, by rw [HIT.out, hnb]; simp⟩)
              clear hnb q1
              go_wp2_with fail
              refine (rname_calls _ _ ho1).mono ?_
              rintro r w1 ⟨rfl, rfl⟩
              rw [HNB.out]
              go_wp2_with fail
              go_ret
              exact givesE_b (by rw [HR.out]) HXR.out
            · have HNB := Lib.hid hnb
              cases hxb : refExprB l[k].cond
              · have HXB := Lib.hid hxb
                have HR := Lib.hid (show R = false by
                  rw [HQ2.out, List.all_eq_false]
                  exact ⟨l[k], List.getElem_mem hkl, by rw [HIT.out, hxb]; simp⟩)
                clear hnb hxb q1
                go_wp2_with fail
                refine (rname_calls _ _ ho1).mono ?_
                rintro r w1 ⟨rfl, rfl⟩
                rw [HNB.out]
                go_wp2_with fail
                refine (rexpr_slim l[k].cond _ _ HEX.out HO4.out HO2.out HO3.out).mono ?_
                rintro r w1 ⟨rfl, hx1⟩
                rw [HXB.out]
                have HX1 := Lib.hid (HXR.out.trans hx1)
                clear hx1 c0 c1 c2 c3 c4 c5 c6 c7
                go_wp2_with fail
                go_ret
                exact givesE_b (by rw [HR.out]) HX1.out
              · have HXB := Lib.hid hxb
                clear q1
                go_wp2_with fail
                refine (rname_calls _ _ ho1).mono ?_
                rintro r w1 ⟨rfl, rfl⟩
                rw [HNB.out]
                go_wp2_with fail
                refine (rexpr_slim l[k].cond _ _ HEX.out HO4.out HO2.out HO3.out).mono ?_
                rintro r w1 ⟨rfl, hx1⟩
                rw [HXB.out]
                have HX1 := Lib.hid (HXR.out.trans hx1)
                have c7' := hx1.cell c7
                have HU1 := Lib.hid (WbsD.mono hx1.sub _ _ HU.out)
                have q1 : ((d : Int) - 1) = ((d - 1 : Nat) : Int) := by omega
                clear hx1 c0 c1 c2 c3 c4 c5 c6 c7
                go_wp2_with fail
                refine (IH.out l[k].unl _ _ _ (d - 1) w1 (by omega) hvn HO5.out (by omega) HU1.out HUN.out).mono ?_
                rintro r w2 ⟨rfl, hx2⟩
                have HX2 := Lib.hid (HX1.out.trans hx2)
                clear hx2 c7' q1
                cases hbb : backsB (d - 1) l[k].unl
                · have HR := Lib.hid (show R = false by
                    rw [HQ2.out, List.all_eq_false]
                    exact ⟨l[k], List.getElem_mem hkl, by rw [HIT.out, hbb]; simp⟩)
                  clear hnb hxb
                  go_wp2_with fail
                  go_ret
                  exact givesE_b (by rw [HR.out]) HX2.out
                · have HI2 := Lib.hid (show itemB d l[k] = true by rw [HIT.out, hnb, hxb, hbb]; rfl)
                  clear hnb hxb
                  go_wp2_with fail
                  go_roundw
                  case rel =>
                    refine ⟨k + 1, by go_num, by omega, fun j hj hjk => ?_, HX2.out⟩
                    by_cases e : j = k
                    · subst e; exact HI2.out
                    · exact HALL.out j hj (by omega)
                  case measure => simp [intOf]; omega
          · have t1 : decide ((k : Int) < (n : Int)) = false := decide_eq_false (by omega)
            have HR := Lib.hid (show R = true by
              rw [HQ2.out, List.all_eq_true]
              intro x hx
              obtain ⟨j, hj, rfl⟩ := List.mem_iff_getElem.1 hx
              exact HALL.out j hj (by have := HN.out; omega))
            go_wp2_with fail
            go_ret
            exact givesE_b (by rw [HR.out]) HXR.out
end Go.Proofs.YtfjlglefodndjaaGreatDoor

namespace Go.Proofs.YtfjlglefodndjaaGreatDoor
open Go.RowKit

theorem blk10r {w : World} {b : Nat} {v0 v1 v2 v3 v4 v5 v6 v7 v8 v9 : Value} {t : TypeId} (h : w.heap[b]? = some (.cells #[v0, v1, v2, v3, v4, v5, v6, v7, v8, v9] t (0, 0))) :
    w.cell? ⟨b, 0, none⟩ = some v0 ∧ w.cell? ⟨b, 1, none⟩ = some v1 ∧ w.cell? ⟨b, 2, none⟩ = some v2 ∧ w.cell? ⟨b, 3, none⟩ = some v3 ∧ w.cell? ⟨b, 4, none⟩ = some v4 ∧ w.cell? ⟨b, 5, none⟩ = some v5 ∧ w.cell? ⟨b, 6, none⟩ = some v6 ∧ w.cell? ⟨b, 7, none⟩ = some v7 ∧ w.cell? ⟨b, 8, none⟩ = some v8 ∧ w.cell? ⟨b, 9, none⟩ = some v9 ∧ (∀ j, w.frozen? ⟨b, j, none⟩ = false) :=
  ⟨blk_cell h 0, blk_cell h 1, blk_cell h 2, blk_cell h 3, blk_cell h 4, blk_cell h 5, blk_cell h 6, blk_cell h 7, blk_cell h 8, blk_cell h 9, fun j => blk_free h j⟩
/-- Bounds on a clause. -/
def Cla.ok (c : Cla) : Prop := c.name.size ≤ 1000000000000000 ∧ c.cond.fits ∧ c.cond.few ∧ c.cond.size ≤ 1000000000000000 ∧ wbOk c.unl ∧ wbN c.unl ≤ 1000000000000000
/-- Bounds on a clause that came in: only lengths. -/
def Cla.fit (c : Cla) : Prop := c.name.size ≤ 1000000000000000 ∧ c.cond.fits ∧ c.cond.few ∧ c.cond.slim ∧ c.unl.length ≤ 1000000000000000 ∧ wbFits c.unl
theorem Cla.ok.fit {c : Cla} (h : c.ok) : c.fit := ⟨h.1, h.2.1, h.2.2.1, slim_of_size _ h.2.2.2.1, Nat.le_trans (wbN_len _) h.2.2.2.2.2, wbFits_of_ok _ h.2.2.2.2.1 h.2.2.2.2.2⟩
def amountB (m amount : Int) : Bool := (decide (m = 0) && (amount == 0)) || (decide (0 < m) && decide (1 ≤ amount) && decide (amount ≤ m))
set_option maxRecDepth 100000 in
set_option maxHeartbeats 8000000 in
theorem rclause_fit (c : Cla) (v : ClV) (w : World) (hc : IsCla w c v) (hok : c.fit) :
    Calls Tryz.prog 33 #[.agg #[.int .i64 v.kind, .string v.name, .int .i64 v.x.op, .string v.x.name, .slice v.x.aw v.x.nw v.x.cw, .int .i64 v.x.lo, .int .i64 v.x.hi, .slice v.x.aa v.x.na v.x.ca, .slice v.au v.nu v.cu, .int .i64 v.amount]] w (GivesE (.bool (clauseB c)) w) := by
  obtain ⟨hk, hnm, hex, hnu, -, -, hwb, ham⟩ := hc
  obtain ⟨ho1, ho2, ho3, ho4, ho5, ho6⟩ := hok
  rw [hk, hnm, ham]
  have HEX := Lib.hid hex
  have HWB := Lib.hid hwb
  have HNU := Lib.hid hnu
  have HO2 := Lib.hid ho2
  have HO3 := Lib.hid ho3
  have HO4 := Lib.hid ho4
  have HO6 := Lib.hid ho6
  have hnu2 : v.nu ≤ 1000000000000000 := by rw [hnu]; exact ho5
  obtain ⟨R, hR⟩ : ∃ R, R = clauseB c := ⟨_, rfl⟩
  rw [← hR]
  have HR := Lib.hid (show R = (decide (1 ≤ c.kind) && decide (c.kind ≤ 10) && nameB c.name && refExprB c.cond && (decide (c.unl.length = 0) || ((c.kind == 3) && decide (cntBacks c.unl ≤ 40) && backsB 16 c.unl)) && amountB (mostOf c.kind) c.amount) by rw [hR]; rfl)
  clear hk hnm hex hnu hwb ham ho2 ho3 ho4 ho5 ho6 hR
  obtain ⟨kind, name, cond, unl, amount⟩ := c
  simp only at *
  obtain ⟨vk, vn, x, au, nu, cu, va⟩ := v
  simp only at *
  obtain ⟨wa, hwa⟩ : ∃ wa, wa = w.alloc (.cells #[.int .i64 kind, .string name, .int .i64 x.op, .string x.name, .slice x.aw x.nw x.cw, .int .i64 x.lo, .int .i64 x.hi, .slice x.aa x.na x.ca, .slice au nu cu, .int .i64 amount] 38) := ⟨_, rfl⟩
  have hxa : Ext w wa := by rw [hwa]; exact (Ext.refl _).alloc _
  have hb : wa.heap[w.heap.size]? = some (.cells #[.int .i64 kind, .string name, .int .i64 x.op, .string x.name, .slice x.aw x.nw x.cw, .int .i64 x.lo, .int .i64 x.hi, .slice x.aa x.na x.ca, .slice au nu cu, .int .i64 amount] 38 (0, 0)) := by rw [hwa]; exact alloc_new w _
  have HXA := Lib.hid hxa
  have HB := Lib.hid hb
  clear hxa hb
  by_cases h1 : kind < 1
  · have t1 : decide (kind < 1) = true := decide_eq_true h1
    have HF := Lib.hid (show R = false by rw [HR.out]; simp; intro h; omega)
    clear h1 hwa
    go_enter Tryz.func33, Tryz.ntmps33
    go_wp2_with fail
    go_ret
    exact givesE_b (by rw [HF.out]) ((Ext.refl w).alloc _)
  · have t1 : decide (kind < 1) = false := decide_eq_false h1
    by_cases h10 : 10 < kind
    · have t10 : decide (10 < kind) = true := decide_eq_true h10
      have HF := Lib.hid (show R = false by rw [HR.out]; simp; intro _ h; omega)
      clear h10 h1 hwa
      go_enter Tryz.func33, Tryz.ntmps33
      go_wp2_with fail
      go_ret
      exact givesE_b (by rw [HF.out]) ((Ext.refl w).alloc _)
    · have t10 : decide (10 < kind) = false := decide_eq_false h10
      have hk1 : decide (1 ≤ kind) = true := decide_eq_true (by omega)
      have hk2 : decide (kind ≤ 10) = true := decide_eq_true (by omega)
      rw [hk1, hk2, Bool.true_and, Bool.true_and] at HR
      clear hk1 hk2 h1 h10
      go_enter Tryz.func33, Tryz.ntmps33
      go_wp2_with fail
      rw [← hwa]
      clear hwa
      refine (rname_calls _ _ ho1).mono ?_
      rintro r w1 ⟨rfl, rfl⟩
      obtain ⟨b0, b1, b2, b3, b4, b5, b6, b7, b8, b9, bf⟩ := blk10r HB.out
      cases hnb : nameB name
      · have HF := Lib.hid (show R = false by rw [HR.out, hnb]; rfl)
        go_wp2_with fail
        go_ret
        exact givesE_b (by rw [HF.out]) HXA.out
      · rw [hnb, Bool.true_and] at HR
        clear hnb
        go_wp2_with fail
        refine (rexpr_slim cond _ _ (HEX.out.ext HXA.out) HO4.out HO2.out HO3.out).mono ?_
        rintro r w1 ⟨rfl, hx1⟩
        have HX1 := Lib.hid (HXA.out.trans hx1)
        have HB1 := Lib.hid (hx1.blk HB.out)
        clear hx1 b0 b1 b2 b3 b4 b5 b6 b7 b8 b9 bf HB
        obtain ⟨b0, b1, b2, b3, b4, b5, b6, b7, b8, b9, bf⟩ := blk10r HB1.out
        cases hxb : refExprB cond
        · have HF := Lib.hid (show R = false by rw [HR.out, hxb]; rfl)
          go_wp2_with fail
          go_ret
          exact givesE_b (by rw [HF.out]) HX1.out
        · rw [hxb, Bool.true_and] at HR
          clear hxb
          obtain ⟨U, hU⟩ : ∃ U, U = (decide (unl.length = 0) || ((kind == 3) && decide (cntBacks unl ≤ 40) && backsB 16 unl)) := ⟨_, rfl⟩
          rw [← hU] at HR
          have HU := Lib.hid hU
          clear hU
          go_upto_region 3 with fail
          go_cut [44] (fun s44 wx => s44 = .bool (!U) ∧ Ext w1 wx)
          case first =>
            by_cases h0 : nu = 0
            · have t0 : decide ((0 : Int) < (nu : Int)) = false := decide_eq_false (by omega)
              have HF := Lib.hid (show U = true by rw [HU.out, ← HNU.out, h0]; simp)
              go_wp2_with fail
              go_meet
              case rel => exact ⟨by rw [HF.out]; rfl, Ext.refl _⟩
            · have t0 : decide ((0 : Int) < (nu : Int)) = true := decide_eq_true (by omega)
              have hl0 : decide (unl.length = 0) = false := decide_eq_false (by have := HNU.out; omega)
              rw [hl0, Bool.false_or] at HU
              clear hl0
              by_cases h3 : kind = 3
              · have t3 : (kind != 3) = false := by simp [h3]
                have e3 : (kind == 3) = true := by simp [h3]
                rw [e3, Bool.true_and] at HU
                clear e3 h3
                go_wp2_with fail
                refine (rcount_calls (wbN unl) unl _ _ _ w1 (Nat.le_refl _) hnu2 HO6.out (WbsD.mono HX1.out.sub _ _ HWB.out) HNU.out).mono ?_
                rintro r w2 ⟨rfl, rfl⟩
                obtain ⟨M, hM⟩ : ∃ M, M = (min (cntBacks unl) 41 : Nat) := ⟨_, rfl⟩
                rw [← hM]
                have hMl : M ≤ 41 := by omega
                have HCB := Lib.hid (show decide (cntBacks unl ≤ 40) = decide (M ≤ 40) by rw [hM]; congr 1; exact propext ⟨fun h => by omega, fun h => by omega⟩)
                rw [HCB.out] at HU
                clear hM HCB
                by_cases h40 : M ≤ 40
                · have t40 : decide ((40 : Int) < (M : Int)) = false := decide_eq_false (by omega)
                  have e40 : decide (M ≤ 40) = true := decide_eq_true h40
                  rw [e40, Bool.true_and] at HU
                  clear e40
                  go_wp2_with fail
                  refine (rbacks_calls (wbN unl) unl _ _ _ 16 w1 (Nat.le_refl _) hnu2 HO6.out (by omega) (WbsD.mono HX1.out.sub _ _ HWB.out) HNU.out).mono ?_
                  rw [← HU.out]
                  rintro r w2 ⟨rfl, hx2⟩
                  have HX2 := Lib.hid hx2
                  clear hx2
                  go_wp2_with fail
                  go_meet
                  case rel => exact ⟨rfl, HX2.out⟩
                · have t40 : decide ((40 : Int) < (M : Int)) = true := decide_eq_true (by omega)
                  have HF := Lib.hid (show U = false by rw [HU.out, decide_eq_false h40]; rfl)
                  go_wp2_with fail
                  go_meet
                  case rel => exact ⟨by rw [HF.out]; rfl, Ext.refl _⟩
              · have t3 : (kind != 3) = true := by simp [h3]
                have HF := Lib.hid (show U = false by rw [HU.out]; simp [h3])
                clear h3
                go_wp2_with fail
                go_meet
                case rel => exact ⟨by rw [HF.out]; rfl, Ext.refl _⟩
          case rest =>
            obtain ⟨rfl, hx2⟩ := hcut
            have HX2 := Lib.hid (HX1.out.trans hx2)
            have HB2 := Lib.hid (hx2.blk HB1.out)
            clear b0 b1 b2 b3 b4 b5 b6 b7 b8 b9 bf hx2 HB1
            obtain ⟨b0, b1, b2, b3, b4, b5, b6, b7, b8, b9, bf⟩ := blk10r HB2.out
            cases hUc : U
            · have HF := Lib.hid (show R = false by rw [HR.out, hUc]; rfl)
              go_wp2_with fail
              go_ret
              exact givesE_b (by rw [HF.out]) HX2.out
            · rw [hUc, Bool.true_and] at HR
              clear hUc
              go_wp2_with fail
              refine (rMost_calls _ _).mono ?_
              rintro r w3 ⟨rfl, rfl⟩
              generalize mostOf kind = M at *
              go_wp2_with fail
              all_goals (go_ret; exact givesE_b (by rw [HR.out, amountB]; simp_all <;> omega) HX2.out)
theorem rclause_calls (c : Cla) (v : ClV) (w : World) (hc : IsCla w c v) (hok : c.ok) :
    Calls Tryz.prog 33 #[.agg #[.int .i64 v.kind, .string v.name, .int .i64 v.x.op, .string v.x.name, .slice v.x.aw v.x.nw v.x.cw, .int .i64 v.x.lo, .int .i64 v.x.hi, .slice v.x.aa v.x.na v.x.ca, .slice v.au v.nu v.cu, .int .i64 v.amount]] w (GivesE (.bool (clauseB c)) w) := rclause_fit c v w hc hok.fit
end Go.Proofs.YtfjlglefodndjaaGreatDoor

namespace Go.Proofs.YtfjlglefodndjaaGreatDoor

mutual
def pNodes : Ex → Bool
  | .mk op name words lo hi args => nodeB (.mk op name words lo hi args) && pNodesAll args
def pNodesAll : List Ex → Bool
  | [] => true
  | e :: r => pNodes e && pNodesAll r
end
mutual
theorem validF_spec : (e : Ex) → (d n : Int) → n ≤ 300 → d ≤ 17 → ((validF e d n).1 = true ↔ (d + e.depth ≤ 17 ∧ n + e.size ≤ 300 ∧ pNodes e = true)) ∧ ((validF e d n).1 = true → (validF e d n).2 = n + e.size)
  | .mk op name words lo hi args, d, n, hn, hd => by
    have hs : (Ex.mk op name words lo hi args).size = 1 + sizes args := by simp [Ex.size]
    have hp : (Ex.mk op name words lo hi args).depth = depths args + 1 := by simp [Ex.depth]
    rw [validF, hs, hp, pNodes]
    by_cases hc : 300 < n + 1 ∨ 16 < d ∨ nodeB (.mk op name words lo hi args) = false
    · rw [if_pos hc]
      refine ⟨⟨fun h => by simp at h, fun ⟨h1, h2, h3⟩ => ?_⟩, fun h => by simp at h⟩
      rcases hc with hc | hc | hc
      · omega
      · omega
      · rw [hc] at h3; simp at h3
    · rw [if_neg hc]
      have hnb : nodeB (.mk op name words lo hi args) = true := by
        cases hh : nodeB (.mk op name words lo hi args)
        · exact absurd (Or.inr (Or.inr hh)) hc
        · rfl
      obtain ⟨h1, h2⟩ := validsF_spec args (d + 1) (n + 1) (by omega) (by omega)
      rw [hnb, Bool.true_and]
      refine ⟨h1.trans ⟨fun ⟨a, b, c⟩ => ⟨by omega, by omega, c⟩, fun ⟨a, b, c⟩ => ⟨by omega, by omega, c⟩⟩, fun h => by have := h2 h; omega⟩
theorem validsF_spec : (l : List Ex) → (d n : Int) → n ≤ 300 → d ≤ 17 → ((validsF l d n).1 = true ↔ (d + depths l ≤ 17 ∧ n + sizes l ≤ 300 ∧ pNodesAll l = true)) ∧ ((validsF l d n).1 = true → (validsF l d n).2 = n + sizes l)
  | [], d, n, hn, hd => by simp [validsF, depths, sizes, pNodesAll]; omega
  | e :: r, d, n, hn, hd => by
    obtain ⟨h1, h2⟩ := validF_spec e d n hn hd
    rw [validsF, depths, sizes, pNodesAll]
    by_cases hv : (validF e d n).1 = true
    · rw [if_pos hv]
      have e2 := h2 hv
      obtain ⟨a1, a2, a3⟩ := h1.1 hv
      obtain ⟨h3, h4⟩ := validsF_spec r d (validF e d n).2 (by omega) hd
      refine ⟨h3.trans ⟨fun ⟨a, b, c⟩ => ⟨by omega, by omega, by rw [a3, c]; rfl⟩, fun ⟨a, b, c⟩ => ⟨by omega, by omega, by rw [a3] at c; simpa using c⟩⟩, fun h => by have := h4 h; omega⟩
    · rw [if_neg hv]
      refine ⟨⟨fun h => by simp at h, fun ⟨a, b, c⟩ => absurd (h1.2 ⟨by omega, by omega, ?_⟩) hv⟩, fun h => by simp at h⟩
      rw [Bool.and_eq_true] at c; exact c.1
end

theorem nodeB_ref (e : Ex) (h : e.args.length ≤ 300) : nodeB e = refNodeB e := by
  obtain ⟨op, name, words, lo, hi, args⟩ := e
  simp only [nodeB, refNodeB, refNode, Ex.op, Ex.name, Ex.words, Ex.lo, Ex.hi, Ex.args, wordsB] at *
  by_cases h1 : 1 ≤ op ∧ op ≤ 8
  · have hk : op = 1 ∨ op = 2 ∨ op = 3 ∨ op = 4 ∨ op = 5 ∨ op = 6 ∨ op = 7 ∨ op = 8 := by omega
    have hw : words.isEmpty = decide (words.length = 0) := by cases words <;> simp
    have hw2 : (words.length != 0) = decide (1 ≤ words.length) := by cases words <;> simp
    rw [hw, hw2]
    rcases hk with rfl | rfl | rfl | rfl | rfl | rfl | rfl | rfl
    all_goals
      simp only [show ((1 : Int).toNat) = 1 from rfl, show ((2 : Int).toNat) = 2 from rfl, show ((3 : Int).toNat) = 3 from rfl, show ((4 : Int).toNat) = 4 from rfl, show ((5 : Int).toNat) = 5 from rfl, show ((6 : Int).toNat) = 6 from rfl, show ((7 : Int).toNat) = 7 from rfl, show ((8 : Int).toNat) = 8 from rfl, opLeast, opMost, opNamed]
      rw [Bool.eq_iff_iff]
      simp
      try grind
  · simp [h1]
mutual
theorem pNodes_ref : (e : Ex) → e.size ≤ 300 → pNodes e = nodesB e
  | .mk op name words lo hi args, h => by
    have hs : (Ex.mk op name words lo hi args).size = 1 + sizes args := by simp [Ex.size]
    have hl := length_le_sizes args
    rw [pNodes, nodesB, nodeB_ref _ (by simp only [Ex.args]; omega), pNodesAll_ref args (by omega)]
theorem pNodesAll_ref : (l : List Ex) → sizes l ≤ 300 → pNodesAll l = nodesAll l
  | [], _ => by simp [pNodesAll, nodesAll]
  | e :: r, h => by
    rw [sizes] at h
    rw [pNodesAll, nodesAll, pNodes_ref e (by omega), pNodesAll_ref r (by omega)]
end
/-- The program's Valid and the reference's are one. -/
theorem validB_ref (e : Ex) : validB e = refExprB e := by
  unfold validB refExprB
  have h := (validF_spec e 1 0 (by omega) (by omega)).1
  have e1 : refSize e ≤ 300 ↔ e.size ≤ 300 := by unfold refSize; omega
  rw [Bool.eq_iff_iff, h, Bool.and_eq_true, Bool.and_eq_true]
  constructor
  · rintro ⟨a, b, c⟩
    refine ⟨⟨?_, ?_⟩, by rw [← pNodes_ref e (by omega)]; exact c⟩
    · rw [decide_eq_false (by omega)]; rfl
    · rw [decide_eq_true_eq, e1]; omega
  · rintro ⟨⟨a, b⟩, c⟩
    have a2 : ¬ 16 < e.depth := fun h => by rw [decide_eq_true h] at a; cases a
    have b2 := e1.1 (of_decide_eq_true b)
    exact ⟨by omega, by omega, by rw [pNodes_ref e (by omega)]; exact c⟩
end Go.Proofs.YtfjlglefodndjaaGreatDoor
