/-
  Texts of the claim, joined: Exp2, CExp1, Defs, CNode, Fmt, OkTree.
-/
import Derived.Test.YtfjlglefodndjaaGreatDoorCc11
import Derived.Test.YtfjlglefodndjaaGreatDoorCc18
import Derived.Test.YtfjlglefodndjaaGreatDoorCc13
import Derived.Test.YtfjlglefodndjaaGreatDoorCc23
import Derived.Test.YtfjlglefodndjaaGreatDoorCc12
import Derived.Test.YtfjlglefodndjaaGreatDoorCc06
import Derived.Test.YtfjlglefodndjaaGreatDoorCc22
namespace Go.Proofs.YtfjlglefodndjaaGreatDoor

/-! The plain law of check.Expanded: the definitions that an expression reaches suffice; if they depend on themselves, the count is 2001. -/
mutual
theorem expE_ge {D : ByteArray → Option Nat} {s : ByteArray} {n : Nat} (hn : D s = some n) : (e : Ex) → s ∈ namesE e → min n 2001 ≤ expE D e
  | .mk op name words lo hi args, h => by
    rw [namesE, List.mem_append] at h
    rw [expE]
    rcases h with h | h
    · by_cases h3 : op = 3
      · rw [if_pos h3] at h
        have : s = name := by simpa using h
        subst this
        rw [if_pos h3, hn]
        simp only [Option.getD_some]
        omega
      · rw [if_neg h3] at h; simp at h
    · have := expL_ge hn args h
      omega
theorem expL_ge {D : ByteArray → Option Nat} {s : ByteArray} {n : Nat} (hn : D s = some n) : (l : List Ex) → s ∈ namesL l → min n 2001 ≤ expL D l
  | [], h => by rw [namesL] at h; simp at h
  | e :: r, h => by
    rw [namesL, List.mem_append] at h
    rw [expL]
    rcases h with h | h
    · have := expE_ge hn e h; omega
    · have := expL_ge hn r h; omega
end
theorem expF_ge {l : List Cla} {e : Ex} {s : ByteArray} {d : Nat} (hs : s ∈ namesE e) (hd : defAt l s = some d) {f : Nat} (h : expF l f (l.getD d cla0).cond = 2001) : expF l (f + 1) e = 2001 := by
  have h1 := expF_le l (f + 1) e
  rw [expF] at h1 ⊢
  have := expE_ge (D := fun s => (defAt l s).map fun d => expF l f (l.getD d cla0).cond) (n := 2001) (by rw [hd]; simp only [Option.map_some]; rw [h]) e hs
  omega
/-- The definition d is reached from e. -/
inductive Reach (l : List Cla) (e : Ex) : Nat → Prop
  | base {s : ByteArray} {d : Nat} : s ∈ namesE e → defAt l s = some d → Reach l e d
  | step {d d' : Nat} {s : ByteArray} : Reach l e d → s ∈ namesE (l.getD d cla0).cond → defAt l s = some d' → Reach l e d'
theorem Reach.large {l : List Cla} {e : Ex} {d : Nat} (h : Reach l e d) : (∀ f, expF l f (l.getD d cla0).cond = 2001) → ∀ f, expF l f e = 2001 := by
  induction h with
  | base hs hd =>
    intro h f
    cases f with
    | zero => rfl
    | succ f => exact expF_ge hs hd (h f)
  | step _ hs hd ih =>
    intro h
    refine ih fun f => ?_
    cases f with
    | zero => rfl
    | succ f => exact expF_ge hs hd (h f)
/-- u are the definitions of l that e reaches. -/
structure Used (l : List Cla) (e : Ex) (u : List Cla) : Prop where
  defs : ∀ c ∈ u, c.kind = 1 ∧ ∃ d, defAt l c.name = some d ∧ c.cond = (l.getD d cla0).cond ∧ Reach l e d
  names : (u.map (·.name)).Nodup
  top : ∀ s ∈ namesE e, ∀ d, defAt l s = some d → s ∈ u.map (·.name)
  closed : ∀ c ∈ u, ∀ s ∈ namesE c.cond, ∀ d, defAt l s = some d → s ∈ u.map (·.name)
theorem Used.defAt {l : List Cla} {e : Ex} {u : List Cla} (h : Used l e u) {i : Nat} (hi : i < u.length) : defAt u u[i].name = some i := by
  unfold Proofs.YtfjlglefodndjaaGreatDoor.defAt
  rw [List.findIdx?_eq_some_iff_getElem]
  refine ⟨hi, ?_, fun j hj => ?_⟩
  · have := (h.defs u[i] (List.getElem_mem hi)).1
    simp [this]
  · have hne : u[j].name ≠ u[i].name := by
      have := (List.pairwise_iff_getElem.1 h.names) j i (by simp; omega) (by simpa using hi) hj
      simpa using this
    simp [hne]
theorem Used.at {l : List Cla} {e : Ex} {u : List Cla} (h : Used l e u) {s : ByteArray} (hm : s ∈ u.map (·.name)) : ∃ i d, i < u.length ∧ Proofs.YtfjlglefodndjaaGreatDoor.defAt u s = some i ∧ Proofs.YtfjlglefodndjaaGreatDoor.defAt l s = some d ∧ (u.getD i cla0).cond = (l.getD d cla0).cond := by
  obtain ⟨c, hc, rfl⟩ := List.mem_map.1 hm
  obtain ⟨i, hi, rfl⟩ := List.mem_iff_getElem.1 hc
  obtain ⟨_, d, h1, h2, _⟩ := h.defs _ hc
  exact ⟨i, d, hi, h.defAt hi, h1, by rw [getD_cla hi]; exact h2⟩
theorem Used.only {l : List Cla} {e : Ex} {u : List Cla} (h : Used l e u) {s : ByteArray} (hn : Proofs.YtfjlglefodndjaaGreatDoor.defAt l s = none) : Proofs.YtfjlglefodndjaaGreatDoor.defAt u s = none := by
  cases hd : Proofs.YtfjlglefodndjaaGreatDoor.defAt u s with
  | none => rfl
  | some i =>
    have hi := defAt_lt hd
    have h1 := (defAt_name hd).1
    rw [getD_cla hi] at h1
    obtain ⟨_, d, h2, _⟩ := h.defs _ (List.getElem_mem hi)
    rw [h1, hn] at h2
    cases h2
/-- Within what is reached, both lists give the same counts. -/
theorem Used.same {l : List Cla} {e : Ex} {u : List Cla} (h : Used l e u) : ∀ f x, (∀ s ∈ namesE x, ∀ d, Proofs.YtfjlglefodndjaaGreatDoor.defAt l s = some d → s ∈ u.map (·.name)) → expF u f x = expF l f x := by
  intro f
  induction f with
  | zero => intro x _; rfl
  | succ f ih =>
    intro x hx
    rw [expF, expF]
    refine expE_congr _ fun s hs => ?_
    cases hd : Proofs.YtfjlglefodndjaaGreatDoor.defAt l s with
    | none => rw [h.only hd]; rfl
    | some d =>
      obtain ⟨i, d', hi, h1, h2, h3⟩ := h.at (hx s hs d hd)
      rw [hd] at h2
      cases h2
      rw [h1]
      simp only [Option.map_some, h3, Option.some.injEq]
      refine ih _ fun t ht d2 hd2 => ?_
      rw [← h3, getD_cla hi] at ht
      exact h.closed _ (List.getElem_mem hi) t ht d2 hd2
theorem Used.len {l : List Cla} {e : Ex} {u : List Cla} (h : Used l e u) : u.length ≤ l.length := by
  have key := nodup_le (u.map fun c => (Proofs.YtfjlglefodndjaaGreatDoor.defAt l c.name).getD 0) (List.range l.length) ?_ ?_
  · simpa using key
  · rw [List.Nodup, List.pairwise_map]
    have h1 := h.names
    rw [List.Nodup, List.pairwise_map] at h1
    refine h1.imp_of_mem fun {a b} ha hb hne he => ?_
    obtain ⟨_, d, h2, _⟩ := h.defs a ha
    obtain ⟨_, d', h3, _⟩ := h.defs b hb
    rw [h2, h3] at he
    simp only [Option.getD_some] at he
    subst he
    exact hne ((defAt_name h2).1.symm.trans (defAt_name h3).1)
  · intro x hx
    obtain ⟨c, hc, rfl⟩ := List.mem_map.1 hx
    obtain ⟨_, d, h2, _⟩ := h.defs c hc
    rw [h2]
    exact List.mem_range.2 (defAt_lt h2)
theorem Used.good {l : List Cla} {e : Ex} {u : List Cla} (h : Used l e u) {o : List Nat} (ht : Topo (u.map Cla.dfn) o) (hb : ∀ c ∈ u, bareE c.cond = true) (he : bareE e = true) : szE (sizesF u o) e = expanded l e := by
  have hlt : ∀ i ∈ o, i < u.length := fun i hi => by simpa using ht.lt hi
  rw [sizes_exp ht (fun i hi => by rw [getD_cla (hlt i hi)]; exact h.defAt (hlt i hi)) (fun i hi => by rw [getD_cla (hlt i hi)]; exact hb _ (List.getElem_mem _)) e he]
  unfold expanded
  rw [← h.same (l.length + 1) e h.top, expF, expF]
  refine expE_congr _ fun s hs => ?_
  cases hd : Proofs.YtfjlglefodndjaaGreatDoor.defAt u s with
  | none => rfl
  | some i =>
    have hi := defAt_lt hd
    have hio : i ∈ o := (ht.all i).2 (by rw [isDef_dfn hi, (h.defs _ (List.getElem_mem hi)).1]; rfl)
    obtain ⟨q, hq⟩ := List.mem_iff_getElem?.1 hio
    have hql : q < o.length := (List.getElem?_eq_some_iff.1 hq).1
    have h1 := ht.len
    have h2 := h.len
    simp only [List.length_map] at h1
    simp only [Option.map_some, Option.some.injEq]
    exact expF_stable ht q i hq _ _ (by omega) (by omega)
theorem Used.cyclic {l : List Cla} {e : Ex} {u : List Cla} (h : Used l e u) {o : List Nat} (ho : OInv (u.map Cla.dfn) o []) (hc : o.length < countOf (u.map Cla.dfn)) : expanded l e = 2001 := by
  have hbad : ∀ f i, (hi : i < u.length) → i ∉ o → expF u f u[i].cond = 2001 := by
    intro f
    induction f with
    | zero => intro i _ _; rfl
    | succ f ih =>
      intro i hi hio
      have hdef : isDef (u.map Cla.dfn) i = true := by rw [isDef_dfn hi, (h.defs _ (List.getElem_mem hi)).1]; rfl
      have hm : missL (u.map Cla.dfn) o i ≠ [] := fun hm => hio (by have := (ho.ready i).2 ⟨hdef, hm⟩; simpa using this)
      obtain ⟨s, hs⟩ := List.exists_mem_of_ne_nil _ hm
      obtain ⟨h1, d, h2, h3⟩ := mem_miss.1 hs
      rw [usesAt_dfn hi, refNames_mem] at h1
      rw [firstAt_dfn] at h2
      have hdl := defAt_lt h2
      refine expF_ge h1 h2 ?_
      rw [getD_cla hdl]
      exact ih d hdl h3
  obtain ⟨i, hi, hio⟩ : ∃ i, i < u.length ∧ i ∉ o := by
    refine Classical.byContradiction fun hn => ?_
    have := nodup_le _ o (List.nodup_range.filter (isDef (u.map Cla.dfn))) fun i hi => Classical.byContradiction fun hio => hn ⟨i, by simpa using isDef_lt (mem_defs.1 hi), hio⟩
    unfold countOf at hc
    omega
  obtain ⟨_, d, h1, h2, h3⟩ := h.defs _ (List.getElem_mem hi)
  refine h3.large (fun f => ?_) _
  rw [← h2, ← h.same f u[i].cond (h.closed _ (List.getElem_mem hi))]
  exact hbad f i hi hio
end Go.Proofs.YtfjlglefodndjaaGreatDoor

namespace Go.Proofs.YtfjlglefodndjaaGreatDoor
open Go.RowKit Go.Maps

/-! check.expanded: the count with the sizes of a map. -/
def natF (D : ByteArray → Option Nat) : ByteArray → Option Value := fun s => (D s).map fun (n : Nat) => Value.int .i64 (n : Int)
mutual
theorem szE_le {D : ByteArray → Option Nat} (hD : ∀ s n, D s = some n → n ≤ 2001) : (e : Ex) → szE D e ≤ 2001
  | .mk op name _ _ _ args => by
    rw [szE]
    have hl := szL_le hD args 1 (by omega)
    by_cases h3 : op = 3
    · rw [if_pos h3]
      cases hd : D name with
      | none => exact hl
      | some n => exact hD name n hd
    · rw [if_neg h3]
      exact hl
theorem szL_le {D : ByteArray → Option Nat} (hD : ∀ s n, D s = some n → n ≤ 2001) : (l : List Ex) → ∀ n, n ≤ 2001 → szL D n l ≤ 2001
  | [], n, hn => by simp [szL]; omega
  | e :: r, n, hn => by
    rw [szL]
    exact szL_le hD r _ (by omega)
end
def CExpL (D : ByteArray → Option Nat) (na : Nat) (args : List Ex) (w1 : World) (t i : Value) (wr : World) : Prop := ∃ k : Nat, i = .int .i64 k ∧ k ≤ na ∧ t = .int .i64 ((szL D 1 (args.take k) : Nat) : Int) ∧ szL D 1 (args.take k) ≤ 2001 ∧ Ext w1 wr
set_option maxRecDepth 100000 in
set_option maxHeartbeats 8000000 in
theorem cexp_calls (D : ByteArray → Option Nat) (hD : ∀ s n, D s = some n → n ≤ 2001) (bm nm : Nat) : ∀ (m : Nat) (e : Ex) (ev : Value) (w : World), e.size ≤ m → m ≤ 1000000000000000 → e.fits → MapAt w 9 bm nm (strF (natF D)) → IsEx w e ev →
    Calls Tryz.prog 32 #[.map (some bm), ev] w (GivesE (.int .i64 (szE D e)) w) := by
  intro m
  induction m with
  | zero => intro e ev w h; have := size_pos e; omega
  | succ m ihm =>
    intro e ev w hm hMM hfit hmap he
    obtain ⟨aw, nw, cw, aa, na, ca, rfl, hw, hna, hca, ha, hx⟩ := he.parts
    obtain ⟨hnm, hfa⟩ := fits_parts2 hfit
    have hS : e.size = 1 + sizes e.args := e.size_eq
    have hla := length_le_sizes e.args
    have hna2 : na ≤ 1000000000000000 := by omega
    have hszm : sizes e.args ≤ m := by omega
    have HM := Lib.hid hmap
    have HX := Lib.hid hx
    have HNA := Lib.hid hna
    have HFA := Lib.hid hfa
    have HSL := Lib.hid (szE_le hD)
    have HEQ := Lib.hid (szE_eq' D e)
    have IHM := Lib.hid ihm
    clear hw hna hca ha hx he hS hla ihm hm hfa hfit hmap
    unfold exV
    obtain ⟨wa, hwa⟩ : ∃ wa, wa = w.alloc (.cells #[.int .i64 e.op, .string e.name, .slice aw nw cw, .int .i64 e.lo, .int .i64 e.hi, .slice aa na ca] 29) := ⟨_, rfl⟩
    have hxa : Ext w wa := by rw [hwa]; exact (Ext.refl _).alloc _
    have hb1 : wa.heap[w.heap.size]? = some (.cells #[.int .i64 e.op, .string e.name, .slice aw nw cw, .int .i64 e.lo, .int .i64 e.hi, .slice aa na ca] 29 (0, 0)) := by rw [hwa]; exact alloc_new w _
    have HXA := Lib.hid hxa
    have HB1 := Lib.hid hb1
    obtain ⟨f0, f1, f2, f3, f4, f5, ff⟩ := blk6 hb1
    have hltw := blk_lt hb1
    have HMA := Lib.hid (HM.out.ext hxa)
    clear hxa hb1
    by_cases hdef : e.op = 3 ∧ (D e.name).isSome = true
    · obtain ⟨h3, hds⟩ := hdef
      obtain ⟨q, hq⟩ := Option.isSome_iff_exists.1 hds
      have t3 : (e.op == 3) = true := by simp [h3]
      have HQ := Lib.hid (show szE D e = q by rw [HEQ.out, if_pos h3, hq])
      have HF := Lib.hid (show strF (natF D) (.string e.name.data.toList) = some (.int .i64 q) by rw [strF_at, natF, hq]; rfl)
      clear hds hq h3 HEQ
      go_enter Tryz.func32, Tryz.ntmps32
      go_upto_region 2 with fail
      rw [← hwa]
      clear hwa
      go_wp2_with (at_lookup; refine wpList_map_ok _ rfl _ _ 65 rfl 9 3 keyedStr uMapSI (zeroInt _) bm nm _ rfl HMA.out _ _ rfl (keyStr hnm) trivial ?_; rw [HF.out])
      go_ret
      exact givesE_of (by rw [HQ.out]) HXA.out
    · have HQ := Lib.hid (show szE D e = szL D 1 e.args by
        rw [HEQ.out]
        by_cases h3 : e.op = 3
        · rw [if_pos h3]
          cases hd : D e.name with
          | none => rfl
          | some q => exact absurd ⟨h3, by rw [hd]; rfl⟩ hdef
        · rw [if_neg h3])
      clear HEQ
      by_cases h3 : e.op = 3
      case' pos =>
        have t3 : (e.op == 3) = true := by simp [h3]
        have HF := Lib.hid (show strF (natF D) (.string e.name.data.toList) = none by
          rw [strF_at, natF]
          cases hd : D e.name with
          | none => rfl
          | some q => exact absurd ⟨h3, by rw [hd]; rfl⟩ hdef)
        clear h3 hdef
        go_enter Tryz.func32, Tryz.ntmps32
        go_upto_region 2 with fail
        rw [← hwa]
        clear hwa
        go_wp2_with (at_lookup; refine wpList_map_ok _ rfl _ _ 65 rfl 9 3 keyedStr uMapSI (zeroInt _) bm nm _ rfl HMA.out _ _ rfl (keyStr hnm) trivial ?_; rw [HF.out])
        clear HF
      case' neg =>
        have t3 : (e.op == 3) = false := by simp [h3]
        clear h3 hdef
        go_enter Tryz.func32, Tryz.ntmps32
        go_wp2_with fail
        rw [← hwa]
        clear hwa
      all_goals
        clear f0 f1 f2 f3 f4 f5 ff
        go_loopw [7, 25] (CExpL D na e.args wa) (fun _ i _ => na - (intOf i).toNat)
        case atStart => exact ⟨0, rfl, by omega, by simp [szL], by simp [szL], Ext.refl _⟩
        case round =>
          obtain ⟨k, rfl, hk, rfl, hle, hxr⟩ := hrel
          have HXR := Lib.hid hxr
          clear hxr
          obtain ⟨N, hN⟩ : ∃ N, N = szL D 1 (e.args.take k) := ⟨_, rfl⟩
          rw [← hN] at hle ⊢
          have HNN := Lib.hid hN
          clear hN
          by_cases hkn : k < na
          · have hka : k < e.args.length := by have := HNA.out; omega
            have t1 : decide ((k : Int) < (na : Int)) = true := decide_eq_true (by omega)
            obtain ⟨b, off, rfl, aw1, nw1, cw1, aa1, na1, ca1, h0, h1, h2, h3, h4, h5, h6⟩ := ExsD.at e.args _ (ExsD.ext (HXA.out.trans HXR.out) e.args _ HX.out) k hka
            have H6 := Lib.hid h6
            have hs1 := sizes_take_succ e.args k hka
            have hs2 := sizes_take_le e.args (k + 1)
            have hk1 : e.args[k].size ≤ m := by omega
            have HTS := Lib.hid (szL_take_succ D e.args 1 k hka)
            have hel := HSL.out e.args[k]
            have hblt := block_lt h0
            simp only at hblt
            clear h6 hs1 hs2
            obtain ⟨wx, hwx⟩ : ∃ wx, wx = wr.alloc (.cells #[.int .i64 e.args[k].op, .string e.args[k].name, .slice aw1 nw1 cw1, .int .i64 e.args[k].lo, .int .i64 e.args[k].hi, .slice aa1 na1 ca1] 29) := ⟨_, rfl⟩
            have HXX := Lib.hid (show Ext wr wx by rw [hwx]; exact (Ext.refl _).alloc _)
            go_wp2_with fail
            rw [← hwx]
            clear hwx
            refine (IHM.out e.args[k] _ _ hk1 (by omega) (HFA.out _ (List.getElem_mem hka)) (HMA.out.ext (HXR.out.trans HXX.out)) (H6.out.ext HXX.out)).mono ?_
            rintro r w3 ⟨rfl, hx3⟩
            have HX3 := Lib.hid (HXR.out.trans (HXX.out.trans hx3))
            clear hx3 h0 h1 h2 h3 h4 h5
            go_wp2_with fail
            all_goals
              go_roundw
              case rel => exact ⟨k + 1, by go_num, by omega, by rw [HTS.out, ← HNN.out]; congr 1; omega, by rw [HTS.out]; omega, HX3.out⟩
              case measure => simp [intOf]; omega
          · have t1 : decide ((k : Int) < (na : Int)) = false := decide_eq_false (by omega)
            have HR := Lib.hid (show N = szE D e by rw [HQ.out, HNN.out, List.take_of_length_le (by have := HNA.out; omega)])
            have HXE := Lib.hid (HXA.out.trans HXR.out)
            go_wp2_with fail
            go_ret
            exact givesE_of (by rw [← HR.out]) HXE.out
end Go.Proofs.YtfjlglefodndjaaGreatDoor

namespace Go.Proofs.YtfjlglefodndjaaGreatDoor
open Go.RowKit Go.Maps

/-! check.definitions: a map from names to conditions. -/
theorem uMapSE : Tryz.prog.underlying 61 = some (.map 9 29) := by kernel_rfl
theorem zeroEx (w : World) : (zeroValue 29).run Tryz.prog w = .ok (.agg #[.int .i64 0, .string ⟨#[]⟩, .slice none 0 0, .int .i64 0, .int .i64 0, .slice none 0 0]) w := by kernel_rfl
theorem defAt_take {l : List Cla} {k : Nat} (hk : k < l.length) (s : ByteArray) : defAt (l.take (k + 1)) s = match defAt (l.take k) s with | some d => some d | none => if l[k].kind = 1 ∧ l[k].name = s then some k else none := by
  have h := first_take (l := l.map Cla.dfn) (k := k) (by simpa using hk) s
  rw [← List.map_take, ← List.map_take, firstAt_dfn, firstAt_dfn] at h
  rw [h]
  cases defAt (l.take k) s <;> simp [Cla.dfn]
/-- What the map g holds: the conditions of the first definition of each name. -/
def DefsG (w : World) (l : List Cla) (g : ByteArray → Option Value) : Prop := ∀ s, (defAt l s = none → g s = none) ∧ ∀ d, defAt l s = some d → ∃ v, g s = some v ∧ IsEx w (l.getD d cla0).cond v
theorem DefsG.ext {w w' : World} {l : List Cla} {g : ByteArray → Option Value} (h : DefsG w l g) (hx : Ext w w') : DefsG w' l g := fun s => ⟨(h s).1, fun d hd => by obtain ⟨v, h1, h2⟩ := (h s).2 d hd; exact ⟨v, h1, h2.ext hx⟩⟩
def DefsAt (w : World) (l : List Cla) (b n : Nat) : Prop := ∃ g, MapAt w 9 b n (strF g) ∧ DefsG w l g
theorem DefsAt.ext {w w' : World} {l : List Cla} {b n : Nat} (h : DefsAt w l b n) (hx : Ext w w') : DefsAt w' l b n := by
  obtain ⟨g, h1, h2⟩ := h
  exact ⟨g, h1.ext hx, h2.ext hx⟩
theorem getD_take {l : List Cla} {k d : Nat} (hd : d < k) : (l.take k).getD d cla0 = l.getD d cla0 := by simp [List.getD, hd]
theorem DefsG.skip {w : World} {l : List Cla} {k : Nat} {g : ByteArray → Option Value} (hk : k < l.length) (h : DefsG w (l.take k) g) (hs : l[k].kind ≠ 1 ∨ defAt (l.take k) l[k].name ≠ none) : DefsG w (l.take (k + 1)) g := by
  intro s
  have hdd : ∀ d, defAt (l.take k) s = some d → d < k := fun d hd => by have := defAt_lt hd; simp at this; omega
  have key : defAt (l.take (k + 1)) s = defAt (l.take k) s := by
    rw [defAt_take hk]
    cases hd : defAt (l.take k) s with
    | some d => rfl
    | none =>
      rw [if_neg]
      rintro ⟨h1, h2⟩
      rcases hs with h3 | h3
      · exact h3 h1
      · rw [h2] at h3; exact h3 hd
  rw [key]
  refine ⟨(h s).1, fun d hd => ?_⟩
  have := hdd d hd
  rw [getD_take (by omega), ← getD_take (k := k) this]
  exact (h s).2 d hd
theorem DefsG.step {w : World} {l : List Cla} {k : Nat} {g : ByteArray → Option Value} (hk : k < l.length) (h : DefsG w (l.take k) g) (hk1 : l[k].kind = 1) (hn : defAt (l.take k) l[k].name = none) {v : Value} (hv : IsEx w l[k].cond v) : DefsG w (l.take (k + 1)) (upS g l[k].name (some v)) := by
  intro s
  rw [defAt_take hk]
  by_cases e : s = l[k].name
  · subst e
    rw [hn, upS_same]
    simp only [hk1, and_self, if_true]
    refine ⟨fun h => by simp at h, fun d hd => ?_⟩
    obtain rfl : k = d := by simpa using hd
    rw [getD_take (by omega), getD_cla hk]
    exact ⟨v, rfl, hv⟩
  · rw [upS_other _ _ e]
    cases hd : defAt (l.take k) s with
    | none =>
      have : ¬ (l[k].kind = 1 ∧ l[k].name = s) := fun h => e h.2.symm
      simp only [if_neg this]
      exact ⟨fun _ => (h s).1 hd, fun d hd' => by cases hd'⟩
    | some d =>
      have hdk : d < k := by have := defAt_lt hd; simp at this; omega
      refine ⟨fun h => by simp at h, fun d' hd' => ?_⟩
      obtain rfl : d = d' := by simpa using hd'
      rw [getD_take (by omega), ← getD_take (k := k) hdk]
      exact (h s).2 d hd
def DefsQ (l : List Cla) (n : Nat) (w : World) (e : Ending) (w' : World) : Prop := ∃ b, e = .returned (.map (some b)) ∧ DefsAt w' l b n ∧ Ext w w'
set_option maxRecDepth 100000 in
set_option maxHeartbeats 8000000 in
theorem definitions_calls (l : List Cla) (a : Option Addr) (n c : Nat) (w : World) (hl : IsClas w l a n c) (hn : n ≤ 1000000) (hsz : ∀ x ∈ l, x.name.size ≤ 1000000000000000) :
    Calls Tryz.prog 25 #[.slice a n c] w (DefsQ l n w) := by
  have HL := Lib.hid hl
  have HN := Lib.hid hl.len
  have HSZ := Lib.hid hsz
  clear hl hsz
  have hmm := @run_makeMap Tryz.prog
  have HM0 := Lib.hid (MapAt.made w 9)
  have HX0 := Lib.hid ((Ext.refl w).alloc (.map #[] 0))
  obtain ⟨bf, hbf⟩ : ∃ bf : Nat, bf = w.heap.size := ⟨_, rfl⟩
  rw [← hbf] at HM0
  have HBF := Lib.hid hbf
  go_enter Tryz.func25, Tryz.ntmps25
  go_wp2_with fail
  rw [← hbf]
  clear hbf hmm
  go_loopw [11] (fun i wr => ∃ (k : Nat) (g : ByteArray → Option Value), k ≤ n ∧ i = .int .i64 k ∧ MapAt wr 9 bf k (strF g) ∧ DefsG w (l.take k) g ∧ Ext w wr) (fun i _ => n - (intOf i).toNat)
  case atStart =>
    refine ⟨0, fun _ => none, by omega, rfl, HM0.out.congr fun x => ?_, fun s => ⟨fun _ => rfl, fun d hd => ?_⟩, HX0.out⟩
    · cases x <;> simp [strF]
    · simp [defAt] at hd
  case round =>
    obtain ⟨k, g, hk, rfl, hmap, hg, hx⟩ := hrel
    have HMP := Lib.hid hmap
    have HX := Lib.hid hx
    have HG := Lib.hid hg
    have hbw := hmap.lt
    clear hmap hx hg HM0 HX0
    by_cases hlt : k < n
    · have hlt' : k < l.length := by have := HN.out; omega
      have t1 : decide ((k : Int) < (n : Int)) = true := decide_eq_true (by omega)
      obtain ⟨cb, coff, v, rfl, hcla, hrow⟩ := HL.out.at hlt'
      obtain ⟨c0, c1, c2, c3, c4, c5, c6, c7, c8, c9⟩ := (hrow.mono HX.out.sub).ten
      have hns : v.name.size ≤ 1000000000000000 := by rw [hcla.2.1]; exact HSZ.out _ (List.getElem_mem hlt')
      have hblt := block_lt c0
      simp only at hblt
      have HEX := Lib.hid (show IsEx w l[k].cond (.agg #[.int .i64 v.x.op, .string v.x.name, .slice v.x.aw v.x.nw v.x.cw, .int .i64 v.x.lo, .int .i64 v.x.hi, .slice v.x.aa v.x.na v.x.ca]) from hcla.2.2.1)
      have HEK := Lib.hid (show l[k].kind = v.kind from hcla.1.symm)
      have HEN := Lib.hid (show l[k].name = v.name from hcla.2.1.symm)
      have HST := Lib.hid (fun h1 h2 => HG.out.step hlt' h1 h2 HEX.out)
      have HSK := Lib.hid (HG.out.skip hlt')
      rw [HEK.out, HEN.out] at HST HSK
      clear hcla hrow
      cases hfa : defAt (l.take k) v.name with
      | none =>
        have HF := Lib.hid (show strF g (.string v.name.data.toList) = none by rw [strF_at]; exact (HG.out _).1 hfa)
        cases hkd : (v.kind == 1)
        · have HKN := Lib.hid (HSK.out (Or.inl (by simpa using hkd)))
          go_wp2_with (at_lookup; refine wpList_map_ok _ rfl _ _ 61 rfl 9 29 keyedStr uMapSE (zeroEx _) bf k _ rfl (HMP.out.ext ((Ext.refl wr).alloc _)) _ _ rfl (keyStr hns) trivial ?_; rw [HF.out])
          go_roundw
          case rel => exact ⟨k + 1, g, by omega, by go_num, (HMP.out.ext (((Ext.refl wr).alloc _).alloc _)).more (by omega), HKN.out, (HX.out.alloc _).alloc _⟩
          case measure => simp [intOf]; omega
        · have HKN := Lib.hid (HST.out (by simpa using hkd) hfa)
          clear hfa
          go_wp2_with (first
            | (at_lookup; refine wpList_map_ok _ rfl _ _ 61 rfl 9 29 keyedStr uMapSE (zeroEx _) bf k _ rfl (HMP.out.ext ((Ext.refl wr).alloc _)) _ _ rfl (keyStr hns) trivial ?_; rw [HF.out])
            | (at_mapUpdate; refine wpList_map_put _ rfl _ _ _ 61 rfl 9 29 keyedStr uMapSE bf k _ rfl (HMP.out.ext (((Ext.refl wr).alloc _).alloc _)) ?c3 _ _ _ rfl rfl (keyStr hns) trivial ?_))
          case c3 => unfold maxLen; omega
          intro w1 hm1 hc1
          have HM1 := Lib.hid (hm1.congr (setF_str g v.name _))
          have HX1 := Lib.hid (hc1.ext ((HX.out.alloc _).alloc _) (by rw [← HBF.out]; simp))
          clear hm1 hc1
          go_wp2_with fail
          go_roundw
          case rel => exact ⟨k + 1, _, by omega, by go_num, HM1.out, HKN.out, HX1.out⟩
          case measure => simp [intOf]; omega
      | some d =>
        obtain ⟨u, hu, hux⟩ := (HG.out v.name).2 d hfa
        obtain ⟨aw, nw, cw, aa, na, ca, rfl, -, -, -, -, -⟩ := hux.parts
        have HF := Lib.hid (show strF g (.string v.name.data.toList) = some _ by rw [strF_at]; exact hu)
        have HKN := Lib.hid (HSK.out (Or.inr (by rw [hfa]; simp)))
        unfold exV at HF
        clear hfa hu hux
        cases hkd : (v.kind == 1)
        all_goals
          go_wp2_with (at_lookup; refine wpList_map_ok _ rfl _ _ 61 rfl 9 29 keyedStr uMapSE (zeroEx _) bf k _ rfl (HMP.out.ext ((Ext.refl wr).alloc _)) _ _ rfl (keyStr hns) trivial ?_; rw [HF.out])
          go_roundw
          case rel => exact ⟨k + 1, g, by omega, by go_num, (HMP.out.ext (((Ext.refl wr).alloc _).alloc _)).more (by omega), HKN.out, (HX.out.alloc _).alloc _⟩
          case measure => simp [intOf]; omega
    · have t1 : decide ((k : Int) < (n : Int)) = false := decide_eq_false (by omega)
      have hkn : k = n := by omega
      have HGE := Lib.hid (show DefsAt wr l bf n from ⟨g, by rw [← hkn]; exact HMP.out, by have := HG.out.ext HX.out; rwa [List.take_of_length_le (by have := HN.out; omega)] at this⟩)
      clear hkn
      go_wp2_with fail
      go_ret
      exact ⟨bf, rfl, HGE.out, HX.out⟩
end Go.Proofs.YtfjlglefodndjaaGreatDoor

namespace Go.Proofs.YtfjlglefodndjaaGreatDoor
open Go.RowKit Go.Maps

/-! check.node: what it computes for any node. -/
def kindFor (op : Int) : Int := if op = 3 then 3 else if op = 4 then 1 else if op = 5 then 2 else 0
def cnodeErr (s : List Attr) (l : List Cla) (op : Int) (name : ByteArray) (words : List ByteArray) (lo hi : Int) : Int :=
  if kindFor op = 0 then 0 else match attrAt s name with
  | none => if op = 3 ∧ (defAt l name).isSome = true then 0 else 7
  | some i => if (s.getD i attr0).kind ≠ kindFor op then 9 else if (words.all fun x => decide (x ∈ (s.getD i attr0).words)) = false then 7 else if lo < (s.getD i attr0).lo ∨ (s.getD i attr0).hi < hi then 1 else 0
theorem cnode_none {s : List Attr} {l : List Cla} {op : Int} {name : ByteArray} {words : List ByteArray} {lo hi : Int} (hk : kindFor op ≠ 0) (h : attrAt s name = none) : cnodeErr s l op name words lo hi = if op = 3 ∧ (defAt l name).isSome = true then 0 else 7 := by
  unfold cnodeErr; rw [if_neg hk, h]
theorem cnode_some {s : List Attr} {l : List Cla} {op : Int} {name : ByteArray} {words : List ByteArray} {lo hi : Int} (hk : kindFor op ≠ 0) {i : Nat} (h : attrAt s name = some i) (hi' : i < s.length) : cnodeErr s l op name words lo hi =
    if s[i].kind ≠ kindFor op then 9 else if (words.all fun x => decide (x ∈ s[i].words)) = false then 7 else if lo < s[i].lo ∨ s[i].hi < hi then 1 else 0 := by
  unfold cnodeErr; rw [if_neg hk, h]
  simp only [getD_attr hi']
set_option maxRecDepth 100000 in
set_option maxHeartbeats 8000000 in
theorem cnode_calls (s : List Attr) (sv : Value) (l : List Cla) (bm nm : Nat) (e : Ex) (ev : Value) (w : World) (hs : IsSchema w s sv) (hf : ∀ x ∈ s, x.fits) (hsl : s.length ≤ 1000000000000000) (hd : DefsAt w l bm nm) (he : IsEx w e ev) (hew : e.words.length ≤ 1000000000000000) (hen : e.name.size ≤ 1000000000000000) :
    Calls Tryz.prog 79 #[sv, .map (some bm), ev] w (GivesE (.int .i64 (cnodeErr s l e.op e.name e.words e.lo e.hi)) w) := by
  obtain ⟨sa, sn, sc, rfl, hsn⟩ := hs.slice
  obtain ⟨aw, nw, cw, aa, na, ca, rfl, hw, hna, hca, ha, hx⟩ := he.parts
  have HS := Lib.hid hs
  have HF := Lib.hid hf
  have HD := Lib.hid hd
  have HW := Lib.hid hw
  have HSN := Lib.hid hsn
  have HNW := Lib.hid hw.1
  have hnw : nw ≤ 1000000000000000 := by rw [hw.1]; exact hew
  have hsn2 : sn ≤ 1000000000000000 := by omega
  clear hs hf hd hw hsn he hna hca ha hx hew
  unfold exV
  obtain ⟨op, name, words, lo, hi, args⟩ := e
  simp only [Ex.op, Ex.name, Ex.words, Ex.lo, Ex.hi] at *
  obtain ⟨wa, hwa⟩ : ∃ wa, wa = (w.alloc (.cells #[.slice sa sn sc] 24)).alloc (.cells #[.int .i64 op, .string name, .slice aw nw cw, .int .i64 lo, .int .i64 hi, .slice aa na ca] 29) := ⟨_, rfl⟩
  have hxa : Ext w wa := by rw [hwa]; exact ((Ext.refl _).alloc _).alloc _
  have hb0 : wa.heap[w.heap.size]? = some (.cells #[.slice sa sn sc] 24 (0, 0)) := by rw [hwa]; exact blk_alloc (alloc_new w _)
  have hb1 : wa.heap[w.heap.size + 1]? = some (.cells #[.int .i64 op, .string name, .slice aw nw cw, .int .i64 lo, .int .i64 hi, .slice aa na ca] 29 (0, 0)) := by rw [hwa]; exact alloc_atR (by simp)
  have HI := Lib.hid (sIndex_calls s _ name wa (HS.out.ext hxa) (by have := HSN.out; omega))
  have HXA := Lib.hid hxa
  have HB0 := Lib.hid hb0
  have HB1 := Lib.hid hb1
  obtain ⟨E, hE⟩ : ∃ E, E = cnodeErr s l op name words lo hi := ⟨_, rfl⟩
  rw [← hE]
  have HE := Lib.hid hE
  clear hE
  obtain ⟨a0, af⟩ := blk1 hb0
  obtain ⟨b0, b1, b2, b3, b4, b5, bf⟩ := blk6 hb1
  have hlt1 := blk_lt hb1
  clear hxa hb0 hb1
  by_cases hop : op = 3 ∨ op = 4 ∨ op = 5
  case neg =>
    have HR := Lib.hid (show E = 0 by
      rw [HE.out, cnodeErr, if_pos]
      unfold kindFor
      rw [if_neg (by omega), if_neg (by omega), if_neg (by omega)])
    have e3 : (op == 3) = false := by simp; omega
    have e4 : (op == 4) = false := by simp; omega
    have e5 : (op == 5) = false := by simp; omega
    clear hop
    go_enter Tryz.func79, Tryz.ntmps79
    go_upto_region 1 with fail
    rw [← hwa]
    clear hwa
    go_wp2_with fail
    go_ret
    exact givesE_of (by rw [HR.out]) HXA.out
  obtain ⟨kd, hkd⟩ : ∃ kd : Int, (op = 3 ∧ kd = 3) ∨ (op = 4 ∧ kd = 1) ∨ (op = 5 ∧ kd = 2) := by
    rcases hop with h | h | h
    · exact ⟨3, Or.inl ⟨h, rfl⟩⟩
    · exact ⟨1, Or.inr (Or.inl ⟨h, rfl⟩)⟩
    · exact ⟨2, Or.inr (Or.inr ⟨h, rfl⟩)⟩
  have hkf : kindFor op = kd ∧ kd ≠ 0 := by
    rcases hkd with ⟨rfl, rfl⟩ | ⟨rfl, rfl⟩ | ⟨rfl, rfl⟩ <;> exact ⟨rfl, by decide⟩
  clear hop
  have HK0 := Lib.hid (show kindFor op ≠ 0 by rw [hkf.1]; exact hkf.2)
  have HKF := Lib.hid hkf.1
  clear hkf
  cases ho : attrAt s name with
  | none =>
    rw [ho, optV_none] at HI
    have HQ := Lib.hid (show E = if op = 3 ∧ (defAt l name).isSome = true then 0 else 7 by rw [HE.out]; exact cnode_none HK0.out ho)
    clear ho HE HK0 HKF
    obtain ⟨g, hmap, hg⟩ := HD.out
    have HMP := Lib.hid hmap
    have HG := Lib.hid hg
    clear hmap hg
    cases hda : defAt l name with
    | none =>
      have HFN := Lib.hid (show strF g (.string name.data.toList) = none by rw [strF_at]; exact (HG.out _).1 hda)
      have HR := Lib.hid (show E = 7 by rw [HQ.out, hda]; simp)
      clear hda HQ
      rcases hkd with ⟨rfl, rfl⟩ | ⟨rfl, rfl⟩ | ⟨rfl, rfl⟩
      all_goals
        go_enter Tryz.func79, Tryz.ntmps79
        go_upto_region 1 with fail
        rw [← hwa]
        clear hwa
        go_wp2_with fail
        refine HI.out.mono ?_
        rintro r w3 ⟨rfl, hx3⟩
        have HX3 := Lib.hid (HXA.out.trans hx3)
        have HM3 := Lib.hid (HMP.out.ext HX3.out)
        clear b0 b1 b2 b3 b4 b5 bf a0 af hlt1
        obtain ⟨b0, b1, b2, b3, b4, b5, bf⟩ := blk6 (hx3.blk HB1.out)
        have hlt := blk_lt (hx3.blk HB1.out)
        clear hx3
        go_wp2_with (at_lookup; refine wpList_map_ok _ rfl _ _ 61 rfl 9 29 keyedStr uMapSE (zeroEx _) bm nm _ rfl HM3.out _ _ rfl (keyStr hen) trivial ?_; rw [HFN.out])
        go_ret
        exact givesE_of (by rw [HR.out]) (HX3.out.alloc _)
    | some d =>
      obtain ⟨u, hu, hux⟩ := (HG.out name).2 d hda
      obtain ⟨aw', nw', cw', aa', na', ca', rfl, -, -, -, -, -⟩ := hux.parts
      have HFN := Lib.hid (show strF g (.string name.data.toList) = some _ by rw [strF_at]; exact hu)
      unfold exV at HFN
      have HR := Lib.hid (show E = if op = 3 then 0 else 7 by rw [HQ.out, hda]; simp)
      clear hda HQ hu hux
      rcases hkd with ⟨rfl, rfl⟩ | ⟨rfl, rfl⟩ | ⟨rfl, rfl⟩
      all_goals
        go_enter Tryz.func79, Tryz.ntmps79
        go_upto_region 1 with fail
        rw [← hwa]
        clear hwa
        go_wp2_with fail
        refine HI.out.mono ?_
        rintro r w3 ⟨rfl, hx3⟩
        have HX3 := Lib.hid (HXA.out.trans hx3)
        have HM3 := Lib.hid (HMP.out.ext HX3.out)
        clear b0 b1 b2 b3 b4 b5 bf a0 af hlt1
        obtain ⟨b0, b1, b2, b3, b4, b5, bf⟩ := blk6 (hx3.blk HB1.out)
        have hlt := blk_lt (hx3.blk HB1.out)
        clear hx3
        go_wp2_with (at_lookup; refine wpList_map_ok _ rfl _ _ 61 rfl 9 29 keyedStr uMapSE (zeroEx _) bm nm _ rfl HM3.out _ _ rfl (keyStr hen) trivial ?_; rw [HFN.out])
        go_ret
        exact givesE_of (by rw [HR.out]; decide) (HX3.out.alloc _)
  | some i =>
    rw [ho, optV_some] at HI
    have his := attrAt_lt ho
    have hin : i < sn := by have := HSN.out; omega
    have HQ := Lib.hid (show E = if s[i].kind ≠ kd then 9 else if (words.all fun x => decide (x ∈ s[i].words)) = false then 7 else if lo < s[i].lo ∨ s[i].hi < hi then 1 else 0 by rw [HE.out, cnode_some HK0.out ho his, HKF.out])
    clear ho HE HK0 HKF
    have ti0 : (0 : Int) ≤ (i : Int) := by omega
    have ti1 : (i : Int) < (sn : Int) := by omega
    have hfi := HF.out _ (List.getElem_mem his)
    have hxn0 := hfi.2.1
    clear hfi
    by_cases hk : s[i].kind = kd
    case neg =>
      have tk : (s[i].kind != kd) = true := by simp [hk]
      have HR := Lib.hid (show E = 9 by rw [HQ.out, if_pos hk])
      clear hk HQ
      rcases hkd with ⟨rfl, rfl⟩ | ⟨rfl, rfl⟩ | ⟨rfl, rfl⟩
      all_goals
        go_enter Tryz.func79, Tryz.ntmps79
        go_upto_region 1 with fail
        rw [← hwa]
        clear hwa
        go_wp2_with fail
        refine HI.out.mono ?_
        rintro r w3 ⟨rfl, hx3⟩
        have HX3 := Lib.hid (HXA.out.trans hx3)
        clear b0 b1 b2 b3 b4 b5 bf a0 af hlt1
        obtain ⟨d0, df⟩ := blk1 (hx3.blk HB0.out)
        have hlt := blk_lt (hx3.blk HB1.out)
        obtain ⟨sb, soff, xw, xn, xc, rfl, g0, g1, g2, g3, g4, g5⟩ := (HS.out.ext HX3.out).cells his
        clear hx3 g5
        go_wp2_with fail
        go_ret
        exact givesE_of (by rw [HR.out]) (HX3.out.alloc _)
    have tk : (s[i].kind != kd) = false := by simp [hk]
    have HR := Lib.hid (show E = if (words.all fun x => decide (x ∈ s[i].words)) = false then 7 else if lo < s[i].lo ∨ s[i].hi < hi then 1 else 0 by rw [HQ.out, if_neg (by simpa using hk)])
    clear hk HQ
    rcases hkd with ⟨rfl, rfl⟩ | ⟨rfl, rfl⟩ | ⟨rfl, rfl⟩
    all_goals
      go_enter Tryz.func79, Tryz.ntmps79
      go_upto_region 1 with fail
      rw [← hwa]
      clear hwa
      go_wp2_with fail
      refine HI.out.mono ?_
      rintro r w3 ⟨rfl, hx3⟩
      have HX3 := Lib.hid (HXA.out.trans hx3)
      clear b0 b1 b2 b3 b4 b5 bf a0 af hlt1
      obtain ⟨d0, df⟩ := blk1 (hx3.blk HB0.out)
      have HB13 := Lib.hid (hx3.blk HB1.out)
      have hlt := blk_lt (hx3.blk HB1.out)
      obtain ⟨sb, soff, xw, xn, xc, rfl, g0, g1, g2, g3, g4, g5⟩ := (HS.out.ext HX3.out).cells his
      have HG5 := Lib.hid g5
      have hxn : xn ≤ 1000000000000000 := by rw [g5.1]; exact hxn0
      clear hx3 g5
      go_upto_region 17 with fail
      obtain ⟨wb, hwb⟩ : ∃ wb, wb = w3.alloc (.cells #[.string s[i].name, .int .i64 s[i].kind, .slice xw xn xc, .int .i64 s[i].lo, .int .i64 s[i].hi] 91) := ⟨_, rfl⟩
      rw [← hwb]
      have hxb : Ext w3 wb := by rw [hwb]; exact (Ext.refl _).alloc _
      have hbb : wb.heap[w3.heap.size]? = some (.cells #[.string s[i].name, .int .i64 s[i].kind, .slice xw xn xc, .int .i64 s[i].lo, .int .i64 s[i].hi] 91 (0, 0)) := by rw [hwb]; exact alloc_new w3 _
      have HBB := Lib.hid hbb
      have HB6 := Lib.hid (hxb.blk HB13.out)
      have HXB := Lib.hid (HX3.out.trans hxb)
      have HGB := Lib.hid (HG5.out.ext hxb)
      have HWB := Lib.hid (HW.out.ext HXB.out)
      obtain ⟨p0, p1, p2, p3, p4, pf⟩ := blk5b hbb
      obtain ⟨q0, q1, q2, q3, q4, q5, qf⟩ := blk6 HB6.out
      have hltb := blk_lt hbb
      clear hwb hxb hbb d0 df g0 g1 g2 g3 g4 HG5 hlt
      go_wp2_with fail
      go_loop [57] (fun t => ∃ k : Nat, t = .int .i64 k ∧ k ≤ nw ∧ (∀ j (h : j < words.length), j < k → decide (words[j] ∈ s[i].words) = true)) (fun t => nw - (intOf t).toNat)
      case atStart => exact ⟨0, rfl, by omega, fun j _ h => by omega⟩
      case round =>
        obtain ⟨k, rfl, hk, hall⟩ := hrel
        have HALL := Lib.hid hall
        clear hall
        by_cases hkn : k < nw
        · have hkw : k < words.length := by have := HNW.out; omega
          have t1 : decide ((k : Int) < (nw : Int)) = true := decide_eq_true (by omega)
          obtain ⟨wb', woff, rfl, cw0⟩ := HWB.out.2.2.2 k hkw
          cases hany : decide (words[k] ∈ s[i].words)
          · have HA := Lib.hid hany
            have HR2 := Lib.hid (show E = 7 by
              rw [HR.out, if_pos]
              rw [List.all_eq_false]
              exact ⟨words[k], List.getElem_mem hkw, by rw [hany]; simp⟩)
            clear hany
            go_wp2_with fail
            refine (contains_calls _ _ _ _ _ _ hxn HGB.out).mono ?_
            rintro e w' ⟨rfl, rfl⟩
            rw [HA.out]
            go_wp2_with fail
            go_ret
            exact givesE_of (by rw [HR2.out]) HXB.out
          · have HA := Lib.hid hany
            clear hany
            go_wp2_with fail
            refine (contains_calls _ _ _ _ _ _ hxn HGB.out).mono ?_
            rintro e w' ⟨rfl, rfl⟩
            rw [HA.out]
            go_wp2_with fail
            go_round
            case rel =>
              refine ⟨k + 1, by go_num, by omega, fun j hj hjk => ?_⟩
              by_cases e : j = k
              · subst e; exact HA.out
              · exact HALL.out j hj (by omega)
            case measure => simp [intOf]; omega
        · have t1 : decide ((k : Int) < (nw : Int)) = false := decide_eq_false (by omega)
          have HR2 := Lib.hid (show E = if lo < s[i].lo ∨ s[i].hi < hi then 1 else 0 by
            rw [HR.out, if_neg]
            rw [Bool.not_eq_false, List.all_eq_true]
            intro y hy
            obtain ⟨j, hj, rfl⟩ := List.mem_iff_getElem.1 hy
            exact HALL.out j hj (by have := HNW.out; omega))
          clear HALL
          go_wp2_with fail
          all_goals (go_ret; exact givesE_of (by rw [HR2.out]; simp_all <;> omega) HXB.out)
end Go.Proofs.YtfjlglefodndjaaGreatDoor

namespace Go.Proofs.YtfjlglefodndjaaGreatDoor

def nameT (s : ByteArray) : Tok := ⟨1, s, 0, 0⟩
def markT (c : UInt8) : Tok := ⟨4, ⟨#[c]⟩, 0, 0⟩
def numT (n : Int) : Tok := ⟨2, ⟨#[]⟩, n, 0⟩
def wTo : ByteArray := ⟨#[116, 111]⟩

/-- Names with commas between them. -/
def listedT : List ByteArray → List Tok
  | [] => []
  | [s] => [nameT s]
  | s :: r => nameT s :: markT 44 :: listedT r

def paren (op aop : Int) : Bool := aop == 8 || (aop == 7 && op != 8)
mutual
/-- The tokens of an expression. -/
def tokE : Ex → List Tok
  | .mk op name words lo hi args =>
    if op = 1 then [nameT wTrue] else if op = 2 then [nameT wFalse] else if op = 3 then [nameT name] else
    if op = 4 then [nameT name, nameT wIn, markT 40] ++ listedT words ++ [markT 41] else
    if op = 5 then [nameT name, nameT wFrom, numT lo, nameT wTo, numT hi] else
    (if op = 6 then [nameT wNot] else []) ++ tokArgs op args
def tokArgs (op : Int) : List Ex → List Tok
  | [] => []
  | a :: r => (if paren op a.op then [markT 40] ++ tokE a ++ [markT 41] else tokE a) ++ tokMore op r
def tokMore (op : Int) : List Ex → List Tok
  | [] => []
  | a :: r => [nameT (if op = 7 then wAnd else wOr)] ++ (if paren op a.op then [markT 40] ++ tokE a ++ [markT 41] else tokE a) ++ tokMore op r
end

/-- From the k-th token on these tokens stand in the list, wherever in the text. -/
def AtT (toks : List Tok) : Nat → List Tok → Prop
  | _, [] => True
  | k, x :: r => (∃ p, toks[k]? = some ⟨x.kind, x.text, x.num, p⟩) ∧ AtT toks (k + 1) r
theorem AtT.append {toks : List Tok} : (l m : List Tok) → (k : Nat) → AtT toks k (l ++ m) ↔ AtT toks k l ∧ AtT toks (k + l.length) m
  | [], m, k => by simp [AtT]
  | x :: r, m, k => by
    simp only [List.cons_append, AtT, AtT.append r m (k + 1), List.length_cons]
    rw [show k + 1 + r.length = k + (r.length + 1) by omega]
    exact and_assoc.symm

theorem accept_at {toks : List Tok} {k : Nat} {kind : Int} {text : ByteArray} {x : Tok} (h : ∃ p, toks[k]? = some ⟨x.kind, x.text, x.num, p⟩) : acceptB toks k kind text = ((x.kind == kind) && decide (x.text = text)) := by
  obtain ⟨p, h⟩ := h; rw [acceptB, h]
theorem nameTok_at {toks : List Tok} {k : Nat} {x : Tok} (h : ∃ p, toks[k]? = some ⟨x.kind, x.text, x.num, p⟩) : nameTokB toks k = ((x.kind == 1) && nameB x.text) := by
  obtain ⟨p, h⟩ := h; rw [nameTokB, h]
theorem text_at {toks : List Tok} {k : Nat} {x : Tok} (h : ∃ p, toks[k]? = some ⟨x.kind, x.text, x.num, p⟩) : textAt toks k = x.text := by
  obtain ⟨p, h⟩ := h; rw [textAt, h]

/-- The fields of a node are those of its operator. -/
def okNode (e : Ex) : Prop :=
  (e.op = 1 ∧ e.name = ⟨#[]⟩ ∧ e.words = [] ∧ e.lo = 0 ∧ e.hi = 0 ∧ e.args = []) ∨ (e.op = 2 ∧ e.name = ⟨#[]⟩ ∧ e.words = [] ∧ e.lo = 0 ∧ e.hi = 0 ∧ e.args = []) ∨
  (e.op = 3 ∧ nameB e.name = true ∧ e.words = [] ∧ e.lo = 0 ∧ e.hi = 0 ∧ e.args = []) ∨ (e.op = 4 ∧ nameB e.name = true ∧ wordsB e.words = true ∧ e.lo = 0 ∧ e.hi = 0 ∧ e.args = []) ∨
  (e.op = 5 ∧ nameB e.name = true ∧ e.words = [] ∧ numberB e.lo = true ∧ numberB e.hi = true ∧ e.lo ≤ e.hi ∧ e.args = []) ∨
  (e.op = 6 ∧ e.name = ⟨#[]⟩ ∧ e.words = [] ∧ e.lo = 0 ∧ e.hi = 0 ∧ e.args.length = 1) ∨
  ((e.op = 7 ∨ e.op = 8) ∧ e.name = ⟨#[]⟩ ∧ e.words = [] ∧ e.lo = 0 ∧ e.hi = 0 ∧ 2 ≤ e.args.length)
mutual
def okTree : Ex → Prop
  | .mk op name words lo hi args => okNode (.mk op name words lo hi args) ∧ okTrees args
def okTrees : List Ex → Prop
  | [] => True
  | e :: r => okTree e ∧ okTrees r
end

theorem nameB_word {s : ByteArray} (h : nameB s = true) : s ≠ wTrue ∧ s ≠ wFalse ∧ s ≠ wNot ∧ s ≠ wIn ∧ s ≠ wFrom ∧ s ≠ wAnd ∧ s ≠ wOr ∧ s ≠ wTo := by
  simp only [nameB, Bool.and_eq_true, Bool.not_eq_true'] at h
  have h := h.2
  refine ⟨?_, ?_, ?_, ?_, ?_, ?_, ?_, ?_⟩ <;> (rintro rfl; revert h; decide +kernel)

/-- What follows: no and, no or (no list, no range either). -/
def Ends (toks : List Tok) (k : Nat) : Prop := acceptB toks k 1 wAnd = false ∧ acceptB toks k 1 wOr = false ∧ acceptB toks k 1 wIn = false ∧ acceptB toks k 1 wFrom = false

theorem list_read {toks : List Tok} : (ws : List ByteArray) → ws ≠ [] → (k f : Nat) → (acc : List ByteArray) → AtT toks k (listedT ws ++ [markT 41]) → (acc ++ ws).length ≤ 12 → (∀ x ∈ ws, nameB x = true) → (acc ++ ws).Nodup → ws.length ≤ f →
    listLoop toks f k acc = (acc ++ ws, 0, k + (listedT ws).length + 1)
  | [], h, _, _, _, _, _, _, _, _ => absurd rfl h
  | [s], _, k, f, acc, hat, hl, hn, hd, hf => by
    obtain ⟨f, rfl⟩ : ∃ g, f = g + 1 := ⟨f - 1, by simp at hf; omega⟩
    simp only [listedT, List.cons_append, List.nil_append, AtT] at hat
    obtain ⟨h1, h2, _⟩ := hat
    have hs := hn s (by simp)
    have hm : s ∉ acc := by
      rw [List.nodup_append] at hd
      exact fun h => hd.2.2 s h s (by simp) rfl
    rw [listLoop, if_neg (by rw [nameTok_at h1]; simp [nameT, hs]), if_neg (by simp at hl; omega), if_neg (by rw [text_at h1]; exact hm), if_neg (by rw [accept_at h2]; simp [markT]), if_pos (by rw [accept_at h2]; simp [markT]), text_at h1]
    simp [listedT, nameT]
  | s :: s2 :: r, _, k, f, acc, hat, hl, hn, hd, hf => by
    obtain ⟨f, rfl⟩ : ∃ g, f = g + 1 := ⟨f - 1, by simp at hf; omega⟩
    simp only [listedT, List.cons_append, AtT] at hat
    obtain ⟨h1, h2, h3⟩ := hat
    have hs := hn s (by simp)
    have hm : s ∉ acc := by
      rw [List.nodup_append] at hd
      exact fun h => hd.2.2 s h s (by simp) rfl
    rw [listLoop, if_neg (by rw [nameTok_at h1]; simp [nameT, hs]), if_neg (by simp at hl; omega), if_neg (by rw [text_at h1]; exact hm), if_pos (by rw [accept_at h2]; simp [markT]), text_at h1]
    have e : acc ++ [(nameT s).text] ++ (s2 :: r) = acc ++ s :: s2 :: r := by simp [nameT]
    rw [list_read (s2 :: r) (by simp) (k + 2) f (acc ++ [(nameT s).text]) h3 (by rw [e]; exact hl) (fun x hx => hn x (List.mem_cons_of_mem _ hx)) (by rw [e]; exact hd) (by simp at hf ⊢; omega), e]
    simp [listedT]
    omega
end Go.Proofs.YtfjlglefodndjaaGreatDoor

namespace Go.Proofs.YtfjlglefodndjaaGreatDoor

/-- What the reference asks of a node is what okNode says. -/
theorem refNode_ok (e : Ex) : refNodeB e = true ↔ okNode e := by
  obtain ⟨op, name, words, lo, hi, args⟩ := e
  have hw : words = [] ↔ words.length = 0 := by cases words <;> simp
  have ha : args = [] ↔ args.length = 0 := by cases args <;> simp
  have hnm : name = ⟨#[]⟩ ↔ name.toList.isEmpty = true := by
    rw [List.isEmpty_iff, ByteArray.toList_eq]
    constructor
    · rintro rfl; rfl
    · intro h
      apply ByteArray.ext
      simpa using h
  simp only [refNodeB, refNode, okNode, Ex.op, Ex.name, Ex.words, Ex.lo, Ex.hi, Ex.args, wordsB, hw, ha, hnm]
  by_cases h1 : 1 ≤ op ∧ op ≤ 8
  · have hk : op = 1 ∨ op = 2 ∨ op = 3 ∨ op = 4 ∨ op = 5 ∨ op = 6 ∨ op = 7 ∨ op = 8 := by omega
    rcases hk with rfl | rfl | rfl | rfl | rfl | rfl | rfl | rfl
    all_goals
      simp
      try grind
  · simp [h1]
    omega
mutual
theorem nodes_ok : (e : Ex) → (nodesB e = true ↔ okTree e)
  | .mk op name words lo hi args => by
    rw [nodesB, okTree, Bool.and_eq_true, refNode_ok, nodesAll_ok args]
theorem nodesAll_ok : (l : List Ex) → (nodesAll l = true ↔ okTrees l)
  | [] => by simp [nodesAll, okTrees]
  | e :: r => by rw [nodesAll, okTrees, Bool.and_eq_true, nodes_ok e, nodesAll_ok r]
end
theorem valid_ok (e : Ex) : validB e = true ↔ (okTree e ∧ e.depth ≤ 16 ∧ e.size ≤ 300) := by
  rw [validB_ref, refExprB, Bool.and_eq_true, Bool.and_eq_true, nodes_ok]
  have e1 : refSize e ≤ 300 ↔ e.size ≤ 300 := by unfold refSize; omega
  simp only [Bool.not_eq_true', decide_eq_false_iff_not, decide_eq_true_eq, e1]
  constructor
  · rintro ⟨⟨a, b⟩, c⟩; exact ⟨c, by omega, b⟩
  · rintro ⟨a, b, c⟩; exact ⟨⟨by omega, c⟩, a⟩
end Go.Proofs.YtfjlglefodndjaaGreatDoor
