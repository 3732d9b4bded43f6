/-
  Texts of the claim, joined: First, Made10, Ccl, ExArg, RowsArg, SchArg.
-/
import Derived.Test.YtfjlglefodndjaaGreatDoorCc21
import Derived.Test.YtfjlglefodndjaaGreatDoorCc26
import Derived.Test.YtfjlglefodndjaaGreatDoorCc24
import Derived.Test.YtfjlglefodndjaaGreatDoorCc09
import Derived.Test.YtfjlglefodndjaaGreatDoorCc22
import Derived.Test.YtfjlglefodndjaaGreatDoorCc27
import Derived.Test.YtfjlglefodndjaaGreatDoorCc20
import Derived.Deep.DeepCutAuto
import Derived.Test.YtfjlglefodndjaaGreatDoorCc04
import Derived.Test.YtfjlglefodndjaaGreatDoorCc10
import Derived.Test.YtfjlglefodndjaaGreatDoorCc06
import Derived.SliceStrings
import Derived.Test.YtfjlglefodndjaaGreatDoorCc02
import Derived.Test.YtfjlglefodndjaaGreatDoorCc12
namespace Go.Proofs.YtfjlglefodndjaaGreatDoor

/-! What is made over a schema makes sense with it; the first clause alone does. -/
theorem schemas_good : (schemas.all fun s => schemaErr s == 0) = true := by decide +kernel
def attrB (s : List Attr) (a : Attr) : Bool := match attrAt s a.name with
  | some i => (s.getD i attr0).kind == a.kind && decide ((s.getD i attr0).words = a.words) && (s.getD i attr0).lo == a.lo && (s.getD i attr0).hi == a.hi
  | none => false
theorem schemas_first : (schemas.all fun s => s.all fun a => attrB s a) = true := by decide +kernel
theorem schema_good {attrs : List Attr} (hs : attrs ∈ schemas) : schemaErr attrs = 0 := by
  have := List.all_eq_true.1 schemas_good attrs hs
  simpa using this
theorem schema_attr {attrs : List Attr} (hs : attrs ∈ schemas) {a : Attr} (ha : a ∈ attrs) : ∃ i, attrAt attrs a.name = some i ∧ (attrs.getD i attr0).kind = a.kind ∧ (attrs.getD i attr0).words = a.words ∧ (attrs.getD i attr0).lo = a.lo ∧ (attrs.getD i attr0).hi = a.hi := by
  have := List.all_eq_true.1 (List.all_eq_true.1 schemas_first attrs hs) a ha
  unfold attrB at this
  cases h : attrAt attrs a.name with
  | none => rw [h] at this; cases this
  | some i =>
    rw [h] at this
    simp only [Bool.and_eq_true, beq_iff_eq, decide_eq_true_eq] at this
    exact ⟨i, rfl, this.1.1.1, this.1.1.2, this.1.2, this.2⟩
theorem schemas_caa : (schemas.all fun s => (attrAt s (lettersB ⟨#[99, 45]⟩ 0)).isNone) = true := by decide +kernel
theorem made_names {attrs : List Attr} {ns ns' : List ByteArray} (h : ∀ x ∈ ns, x ∈ ns') : (d : Nat) → (e : Ex) → MadeE attrs ns d e → MadeE attrs ns' d e
  | 0, _, h0 => h0.elim
  | d + 1, e, h0 => by
    rcases h0 with h0 | ⟨h1, h2, h3, h4, h5, h6⟩
    · refine Or.inl ⟨h0.1, ?_⟩
      rcases h0.2 with q | q | ⟨q1, q2, q3⟩ | q | q
      · exact Or.inl q
      · exact Or.inr (Or.inl q)
      · exact Or.inr (Or.inr (Or.inl ⟨q1, q2.imp (h _) id, q3⟩))
      · exact Or.inr (Or.inr (Or.inr (Or.inl q)))
      · exact Or.inr (Or.inr (Or.inr (Or.inr q)))
    · exact Or.inr ⟨h1, h2, h3, h4, h5, fun x hx => made_names h d x (h6 x hx)⟩
theorem atom_node {attrs : List Attr} (hs : attrs ∈ schemas) {names : List ByteArray} (hn : ∀ x ∈ names, nameB x = true) {e : Ex} (h : AtomOf attrs names e) : okNode e := by
  have hat : ∀ a ∈ attrs, okAttr2 a = true := fun a ha => List.all_eq_true.1 (List.all_eq_true.1 schemas_ok2 attrs hs) a ha
  obtain ⟨ha, h⟩ := h
  rcases h with ⟨h1, h2, h3, h4, h5⟩ | ⟨h1, h2, h3, h4, h5⟩ | ⟨h1, h2, h3, h4, h5⟩ | ⟨h1, ⟨a, haa, hk, hnm, hne, hnd, hin⟩, h4, h5⟩ | ⟨h1, ⟨a, haa, hk, hnm, hl1, hl2, hl3⟩, h3⟩
  · exact Or.inl ⟨h1, h2, h3, h4, h5, ha⟩
  · exact Or.inr (Or.inl ⟨h1, h2, h3, h4, h5, ha⟩)
  · have hn : nameB e.name = true := by
      rcases h2 with h2 | ⟨a, haa, _, h2⟩
      · exact hn _ h2
      · have := hat a haa
        simp only [okAttr2, Bool.and_eq_true, decide_eq_true_eq] at this
        rw [h2]; exact this.1.1.1
    exact Or.inr (Or.inr (Or.inl ⟨h1, hn, h3, h4, h5, ha⟩))
  · have hq := hat a haa
    simp only [okAttr2, hk, Bool.and_eq_true, decide_eq_true_eq, bne_self_eq_false, Bool.false_or, List.all_eq_true] at hq
    obtain ⟨⟨⟨hq1, hq2⟩, hq3, hq4⟩, _⟩ := hq
    have hlen : e.words.length ≤ 4 := Nat.le_trans (List.Nodup.length_le_of_subset hnd (fun x hx => hin x hx)) hq3
    have hl0 : e.words.length ≠ 0 := fun h => hne (List.eq_nil_of_length_eq_zero h)
    refine Or.inr (Or.inr (Or.inr (Or.inl ⟨h1, by rw [hnm]; exact hq1, ?_, h4, h5, ha⟩)))
    simp only [wordsB, Bool.and_eq_true, bne_iff_ne, decide_eq_true_eq, List.all_eq_true]
    exact ⟨⟨⟨by simpa using hl0, by omega⟩, fun x hx => (hq4 x (hin x hx)).1⟩, hnd⟩
  · have hq := hat a haa
    simp only [okAttr2, hk, Bool.and_eq_true, decide_eq_true_eq, bne_self_eq_false, Bool.false_or] at hq
    obtain ⟨⟨⟨hq1, hq2⟩, _⟩, hq3, hq4⟩ := hq
    have hlo : numberB e.lo = true := by simp [numberB]; omega
    have hhi : numberB e.hi = true := by simp [numberB]; omega
    exact Or.inr (Or.inr (Or.inr (Or.inr (Or.inl ⟨h1, by rw [hnm]; exact hq1, h3, hlo, hhi, hl2, ha⟩))))
theorem depths_of {k : Nat} : (l : List Ex) → (∀ x ∈ l, x.depth ≤ k) → depths l ≤ k
  | [], _ => by simp [depths]
  | e :: r, h => by
    have h1 := h e (by simp)
    have h2 := depths_of r fun x hx => h x (by simp [hx])
    simp only [depths]; omega
theorem made_tree {attrs : List Attr} (hs : attrs ∈ schemas) {names : List ByteArray} (hn : ∀ x ∈ names, nameB x = true) : (d : Nat) → (e : Ex) → MadeE attrs names d e → okTree e ∧ e.depth ≤ d
  | 0, _, h => h.elim
  | d + 1, e, h => by
    rcases h with h | ⟨hl, h1, h2, h3, h4, h⟩
    · refine ⟨okTree_mk (atom_node hs hn h) fun x hx => (by rw [h.1] at hx; cases hx), ?_⟩
      rw [Ex.depth_eq, h.1]; simp [depths]
    · have ih := fun x hx => made_tree hs hn d x (h x hx)
      refine ⟨okTree_mk ?_ fun x hx => (ih x hx).1, ?_⟩
      · rcases hl with ⟨h5, h6⟩ | ⟨h5, h6, _⟩
        · exact Or.inr (Or.inr (Or.inr (Or.inr (Or.inr (Or.inl ⟨h5, h1, h2, h3, h4, h6⟩)))))
        · exact Or.inr (Or.inr (Or.inr (Or.inr (Or.inr (Or.inr ⟨h5, h1, h2, h3, h4, h6⟩)))))
      · rw [Ex.depth_eq]
        have := depths_of _ fun x hx => (ih x hx).2
        omega
theorem refExprB_ok {e : Ex} (h1 : okTree e) (h2 : e.depth ≤ 16) (h3 : e.size ≤ 300) : refExprB e = true := by
  rw [refExprB, Bool.and_eq_true, Bool.and_eq_true, nodes_ok]
  have e1 : refSize e ≤ 300 := by unfold refSize; omega
  exact ⟨⟨by simpa using h2, by simpa using e1⟩, h1⟩
theorem nameB_size {x : ByteArray} (h : nameB x = true) : x.size ≤ 16 := by
  simp only [nameB, wordB, Bool.and_eq_true, decide_eq_true_eq] at h
  exact h.1.1.1.1.2
theorem made_ref {attrs : List Attr} (hs : attrs ∈ schemas) {names : List ByteArray} (hn : ∀ x ∈ names, nameB x = true) {d : Nat} {e : Ex} (h : MadeE attrs names d e) (hd : d ≤ 5) : refExprB e = true := by
  have h1 := made_tree hs hn d e h
  have h2 := made_okay hs (fun x hx => by have := nameB_size (hn x hx); omega) d e h
  have hb : bndS d ≤ 121 := by
    have : d = 0 ∨ d = 1 ∨ d = 2 ∨ d = 3 ∨ d = 4 ∨ d = 5 := by omega
    rcases this with rfl | rfl | rfl | rfl | rfl | rfl <;> decide
  exact refExprB_ok h1.1 (by omega) (by have := h2.size; omega)
theorem made_nodes {attrs : List Attr} (hs : attrs ∈ schemas) {l : List Cla} {names : List ByteArray} (hn : ∀ x ∈ names, attrAt attrs x = none ∧ (defAt l x).isSome = true) : (d : Nat) → (e : Ex) → MadeE attrs names d e → nodesErr attrs l e = 0
  | 0, _, h => h.elim
  | d + 1, e, h => by
    rw [nodesErr_eq]
    rcases h with h | ⟨hl, h1, h2, h3, h4, h⟩
    · obtain ⟨ha, h⟩ := h
      have h0 : nodeErr attrs l e.op e.name e.words e.lo e.hi = 0 := by
        rcases h with ⟨h1, h2, h3, h4, h5⟩ | ⟨h1, h2, h3, h4, h5⟩ | ⟨h1, h2, h3, h4, h5⟩ | ⟨h1, ⟨a, haa, hk, hnm, hne, hnd, hin⟩, h4, h5⟩ | ⟨h1, ⟨a, haa, hk, hnm, hl1, hl2, hl3⟩, h3⟩
        · rw [h1]; simp [nodeErr]
        · rw [h1]; simp [nodeErr]
        · rw [h1]
          rcases h2 with h2 | ⟨a, haa, hk, h2⟩
          · obtain ⟨g1, g2⟩ := hn _ h2
            simp [nodeErr, g1, g2]
          · obtain ⟨i, g1, g2, g3, g4, g5⟩ := schema_attr hs haa
            rw [h2]
            simp only [nodeErr, g1, g2, hk, if_true]
            simp
        · obtain ⟨i, g1, g2, g3, g4, g5⟩ := schema_attr hs haa
          rw [h1, hnm]
          have hall : (e.words.all fun x => (a.words).any fun y => decide (y = x)) = true := by
            rw [List.all_eq_true]
            intro x hx
            rw [List.any_eq_true]
            exact ⟨x, hin x hx, by simp⟩
          simp only [nodeErr, g1, g2, g3, hk, hall]
          simp
        · obtain ⟨i, g1, g2, g3, g4, g5⟩ := schema_attr hs haa
          rw [h1, hnm]
          simp only [nodeErr, g1, g2, g4, g5, hk]
          simp
          omega
      rw [h0, ha, nodesErrL]; simp
    · have h0 : nodeErr attrs l e.op e.name e.words e.lo e.hi = 0 := by
        unfold nodeErr
        rw [if_neg (by omega), if_neg (by omega), if_neg (by omega)]
      rw [h0, nodesErrL_zero e.args fun j hj => made_nodes hs hn d _ (h _ (List.getElem_mem hj))]
      simp
mutual
theorem expE_none : (e : Ex) → expE (fun _ => none) e ≤ e.size
  | .mk op name _ _ _ args => by
    have := expL_none args
    rw [expE, Ex.size]
    have h1 : (if op = 3 then ((none : Option Nat)).getD 1 else 1) = 1 := by split <;> rfl
    rw [h1]; omega
theorem expL_none : (l : List Ex) → expL (fun _ => none) l ≤ sizes l
  | [] => by rw [expL, sizes]; omega
  | e :: r => by
    have h1 := expE_none e
    have h2 := expL_none r
    rw [expL, sizes]; omega
end
theorem sorts_none {d : Dfn} (h : d.is = false) : Sorts [d] := by
  have hi : ∀ i, isDef [d] i = false := by
    intro i
    cases i with
    | zero => exact h
    | succ i => rfl
  exact ⟨[], by simp, fun i => by simp [hi i], fun p i hp => by simp at hp⟩
theorem exT_ref : refExprB exT = true := by decide +kernel
theorem caa_name : nameB (lettersB ⟨#[99, 45]⟩ 0) = true := by decide +kernel
/-- The first clause alone makes sense. -/
theorem first_good {attrs : List Attr} (hs : attrs ∈ schemas) {c : Cla} (h : FirstOk attrs ⟨#[99, 45]⟩ c) : clausesErr attrs [c] = (0, 0) := by
  obtain ⟨hk, hn, he, hu, ha⟩ := h
  have hd : ∀ s, defAt [c] s = none := by
    intro s
    simp [defAt, hk]
  have hr : refExprB c.cond = true := by
    rcases he with he | he
    · exact made_ref hs (fun x hx => by cases hx) he (by omega)
    · rw [he]; exact exT_ref
  have hsz : c.cond.size ≤ 300 := by
    have := hr
    rw [refExprB, Bool.and_eq_true, Bool.and_eq_true] at this
    have h2 := this.1.2
    simp only [decide_eq_true_eq] at h2
    unfold refSize at h2; omega
  have hz : nodesErr attrs [c] c.cond = 0 := by
    rcases he with he | he
    · exact made_nodes hs (fun x hx => by cases hx) 3 _ he
    · rw [he]; simp [exT, nodesErr, nodeErr, nodesErrL]
  have hg : [c].getD 0 cla0 = c := rfl
  have hb : clauseB c = true := by
    unfold clauseB
    rw [hk, hn, hr, hu, ha, caa_name]
    decide
  have hc : claErr attrs [c] 0 = 0 := by
    unfold claErr
    rw [hg, hb]
    have hf : findAt [c] c.name = some 0 := by simp [findAt]
    have hat : attrAt attrs c.name = none := by
      have := List.all_eq_true.1 schemas_caa attrs hs
      rw [hn]; simpa using this
    rw [hf, hat, hz, hu]
    simp [backsErr]
  have hx : expanded [c] c.cond ≤ 300 := by
    unfold expanded
    show expF [c] 2 c.cond ≤ 300
    rw [expF]
    have : (fun s => (defAt [c] s).map fun d => expF [c] 1 ([c].getD d cla0).cond) = fun _ => none := by
      funext s; rw [hd s]; rfl
    rw [this]
    have := expE_none c.cond
    omega
  refine cls_good (schema_good hs) (by simp) (fun j hj => ?_) ?_ fun j hj => ?_
  · obtain rfl : j = 0 := by simpa using hj
    exact hc
  · have : [c].map Cla.dfn = [c.dfn] := rfl
    rw [this]
    exact sorts_none (by simp [Cla.dfn, hk])
  · obtain rfl : j = 0 := by simpa using hj
    unfold claLarge
    rw [hg, hu, if_neg]
    rintro (h | h)
    · omega
    · simp [backsLarge] at h
theorem glok_good {attrs : List Attr} (hs : attrs ∈ schemas) {l : List Cla} (h : GLOk attrs ⟨#[99, 45]⟩ l) : clausesErr attrs l = (0, 0) := by
  rcases h.2 with ⟨c, rfl, hc⟩ | h
  · exact first_good hs hc
  · exact h
end Go.Proofs.YtfjlglefodndjaaGreatDoor

namespace Go.Proofs.YtfjlglefodndjaaGreatDoor
open Go.RowKit

/-! treatylaw10.made. -/
def pcd : ByteArray := ⟨#[99, 45]⟩
def GnM (w0 : World) (bd rb : Nat) (wr W : World) : Prop := DeckAt w0 W bd ∧ Chg [bd, rb] wr W ∧ ∃ q, W.heap[rb]? = some (.cells #[q] 24 (0, 0))
def GnS (q bd rb k : Nat) (W W' : World) : Prop := Chg [bd, rb] W W' ∧ (k ≠ q → Chg [bd] W W')
--BEGIN DEF M3
def md3R (attrs : List Attr) (bd rb n : Nat) (sa : Option Addr) (sn sc : Nat) : Nat → Value → World → Prop
  | 0, u, _ => u = .agg #[.slice sa sn sc]
  | 1, u, _ => u = .pointer (some ⟨bd, 0, none⟩)
  | 2, u, _ => u = .agg #[.slice sa sn sc]
  | 3, u, _ => u = .int .i64 ((n : Nat) : Int)
  | 4, u, W => ∃ (l : List Cla) (la : Option Addr) (ln : Nat) (lc : Nat), u = .slice la ln lc ∧ (IsClas (mask W [bd, rb]) l la ln lc ∧ GLOk attrs pcd l ∧ 1 ≤ l.length ∧ l.length ≤ n + 1)
  | 5, u, _ => u = .pointer (some ⟨bd, 0, none⟩)
  | 6, _, W => W.heap[rb]? = some (.cells #[.slice sa sn sc] 24 (0, 0))
  | 7, u, W => ∃ (l : List Cla) (la : Option Addr) (ln : Nat) (lc : Nat), u = .slice la ln lc ∧ (IsClas (mask W [bd, rb]) l la ln lc ∧ GLOk attrs pcd l ∧ 1 ≤ l.length ∧ l.length ≤ n + 1)
  | _, u, _ => u = .pointer (some ⟨bd, 0, none⟩)
--END DEF M3
def MadeSQ (n : Nat) (w : World) (e : Ending) (w' : World) : Prop := ∃ attrs sa sn sc l la ln lc bd, e = .returned (.tuple #[.agg #[.slice sa sn sc], .slice la ln lc, .pointer (some ⟨bd, 0, none⟩)]) ∧ attrs ∈ schemas ∧ IsSchema (mask w' [bd]) attrs (.agg #[.slice sa sn sc]) ∧ IsClas (mask w' [bd]) l la ln lc ∧ GLOk attrs pcd l ∧ 1 ≤ l.length ∧ l.length ≤ n + 1 ∧ DeckAt w w' bd ∧ Ext w w'
theorem new_callsB (la : Option Addr) (ln lc : Nat) (w0 w : World) (h : IntsAt w0 la ln) (hx : Ext w0 w) (hl : ln ≤ 1000000000000000) : Calls Tryz.prog 10 #[.slice la ln lc] w (fun e w' => ∃ bd, e = .returned (.pointer (some ⟨bd, 0, none⟩)) ∧ DeckAt w0 w' bd ∧ Ext w w' ∧ w.heap.size ≤ bd) := by
  have HX := Lib.hid hx
  clear hx
  go_enter Tryz.func10, Tryz.ntmps10
  go_wp2_with fail
  go_ret
  exact ⟨w.heap.size, rfl, ⟨la, ln, lc, 0, alloc_new w _, by omega, hl, h, HX.out.trans ((Ext.refl w).alloc _), HX.out.size⟩, (Ext.refl w).alloc _, Nat.le_refl _⟩
set_option maxRecDepth 100000 in
set_option maxHeartbeats 8000000 in
theorem made10_calls (da : Option Addr) (dn dc n : Nat) (hn : n ≤ 50) (w0 : World) (h : IntsAt w0 da dn) (hdl : dn ≤ 1000000000000000) : Calls Tryz.prog 7 #[.slice da dn dc, .int .i64 (n : Nat)] w0 (MadeSQ n w0) := by
  have HI := Lib.hid h
  clear h
  obtain ⟨rb, hrb⟩ : ∃ rb, rb = w0.heap.size := ⟨_, rfl⟩
  have HRBE := Lib.hid hrb
  obtain ⟨wa, hwa⟩ : ∃ wa, wa = w0.alloc (.cells #[.slice none 0 0] 24) := ⟨_, rfl⟩
  have HXA := Lib.hid (show Ext w0 wa by rw [hwa]; exact (Ext.refl _).alloc _)
  have HRA := Lib.hid (show wa.heap[rb]? = some (.cells #[.slice none 0 0] 24 (0, 0)) by rw [hwa, hrb]; exact alloc_new w0 _)
  go_enter Tryz.func7, Tryz.ntmps7
  go_upto_region 1 with fail
  rw [← hwa, ← hrb]
  clear hwa hrb
  go_wp2_with fail
  refine (new_callsB da dn dc w0 wa HI.out HXA.out hdl).mono ?_
  rintro e w1 ⟨bd, rfl, hd1, hx1, hbl⟩
  have HD1 := Lib.hid hd1
  have HX1 := Lib.hid (HXA.out.trans hx1)
  have HR1 := Lib.hid (hx1.blk HRA.out)
  have hra := blk_lt HRA.out
  have HBL := Lib.hid (show rb < bd by omega)
  clear hd1 hx1 HRA HXA hbl hra
  go_wp2_with fail
  refine (next_calls HD1.out 6 (by omega) (by omega)).mono ?_
  rintro e w2 ⟨z, rfl, hz0, hz1, hd2, hc2⟩
  have HD2 := Lib.hid hd2
  have hz2 := hc2.size
  have HR2 := Lib.hid (hc2.blk HR1.out (by have := HBL.out; simp; omega))
  have HX2 := Lib.hid (hc2.ext HX1.out (fun y hy => by simp only [List.mem_singleton] at hy; have := HBL.out; have := HRBE.out; omega))
  have hbw := hd2.lt
  have HBW := Lib.hid hbw
  clear hd2 hc2 HD1 HX1 HR1 hbw hz2
  go_wp2_with fail
  refine (schema_calls z [bd, rb] w2 (fun y hy => by have := HBL.out; have := HBW.out; simp at hy; omega)).mono ?_
  rintro e w3 ⟨attrs, v, rfl, hat, hsch, hx3⟩
  obtain ⟨sa, sn, sc, rfl, hsn⟩ := hsch.slice
  have HSC := Lib.hid hsch
  have HD3 := Lib.hid (HD2.out.ext hx3)
  have HR3 := Lib.hid (hx3.blk HR2.out)
  have HX3 := Lib.hid (HX2.out.trans hx3)
  have h3s := hx3.size
  have HAT := Lib.hid hat
  clear hsch hx3 HD2 HR2 HX2 hsn hat
  go_upto_region 3 with fail
  obtain ⟨sb, hsb⟩ : ∃ sb, sb = w3.heap.size := ⟨_, rfl⟩
  obtain ⟨w4, hw4⟩ : ∃ w4, w4 = w3.alloc (.cells #[.slice sa sn sc] 24) := ⟨_, rfl⟩
  have hx4 : Ext w3 w4 := by rw [hw4]; exact (Ext.refl _).alloc _
  have HSB := Lib.hid (show w4.heap[sb]? = some (.cells #[.slice sa sn sc] 24 (0, 0)) by rw [hw4, hsb]; exact alloc_new w3 _)
  have HBS := Lib.hid (show rb < bd ∧ bd < sb ∧ rb = w0.heap.size ∧ sb < w4.heap.size from ⟨HBL.out, by have := HBW.out; omega, HRBE.out, blk_lt HSB.out⟩)
  have HDK := Lib.hid (HD3.out.ext hx4)
  have HS4 := Lib.hid (show IsSchema (mask w4 [bd, rb]) attrs (.agg #[.slice sa sn sc]) from HSC.out.mono (mask_grow (K := []) (hx4.chg []) (by simp)))
  have HR4 := Lib.hid (hx4.blk HR3.out)
  have HX4 := Lib.hid (HX3.out.trans hx4)
  rw [← hw4, ← hsb]
  clear hw4 hsb hx4 h3s HD3 HR3 HX3 HSC HBL HBW
  have HCL := Lib.hid (show ∀ W, DeckAt w0 W bd → Chg [bd, rb] w4 W → Calls Tryz.prog 20 #[.pointer (some ⟨bd, 0, none⟩), .agg #[.slice sa sn sc], .int .i64 (n : Nat), .string ⟨#[99, 45]⟩] W (GenQ attrs pcd n w0 bd [bd, rb] W) from fun W hd hW =>
    gclauses_calls HAT.out (schemas_ok attrs HAT.out).1 (schemas_ok attrs HAT.out).2.1 (schemas_ok attrs HAT.out).2.2 hd sa sn sc [bd, rb] ((HS4.out.mono (mask_grow hW (fun y hy => Or.inl hy))).mono (mask_less _ (fun y hy => by simp at hy; simp [hy]))) (fun y hy => by have := hW.size; have := HBS.out; simp at hy; omega) n hn pcd (by decide))
  --BEGIN M3
  refine wp_region_grow (m := 9) [6, 7, 8] (GnM w0 bd rb w4) (GnS 6 bd rb) (GrP (md3R attrs bd rb n sa sn sc)) (by kernel_rfl) (by kernel_rfl) ⟨HDK.out.ext ((Ext.refl w4).drew), ((Ext.refl w4).drew).chg _, _, ((Ext.refl w4).drew).blk HR4.out⟩ ?_ ?_ ?_
  · intro i k v W W' hi hk hne hout h hE
    have hi' : i = 0 ∨ i = 1 ∨ i = 2 ∨ i = 3 ∨ i = 4 ∨ i = 5 ∨ i = 6 ∨ i = 7 ∨ i = 8 := by omega
    clear hi hk
    by_cases hk : k = 6
    · subst hk
      have hE := hE.1
      rcases hi' with rfl | rfl | rfl | rfl | rfl | rfl | rfl | rfl | rfl
      · exact h
      · exact h
      · exact h
      · exact h
      · obtain ⟨l, la, ln, lc, e0, h⟩ := h
        exact ⟨l, la, ln, lc, e0, ⟨h.1.mono (mask_grow hE (fun y hy => Or.inl (by simp at hy ⊢; simp [hy]))), h.2⟩⟩
      · exact h
      · exact absurd rfl hne
      · obtain ⟨l, la, ln, lc, e0, h⟩ := h
        exact ⟨l, la, ln, lc, e0, ⟨h.1.mono (mask_grow hE (fun y hy => Or.inl (by simp at hy ⊢; simp [hy]))), h.2⟩⟩
      · exact h
    have hE : Chg [bd] W W' := (hE.2 ‹_›)
    rcases hi' with rfl | rfl | rfl | rfl | rfl | rfl | rfl | rfl | rfl
    · exact h
    · exact h
    · exact h
    · exact h
    · obtain ⟨l, la, ln, lc, e0, h⟩ := h
      exact ⟨l, la, ln, lc, e0, ⟨h.1.mono (mask_step hE (by simp)), h.2⟩⟩
    · exact h
    · exact hE.blk h (by have := HBS.out; simp; omega)
    · obtain ⟨l, la, ln, lc, e0, h⟩ := h
      exact ⟨l, la, ln, lc, e0, ⟨h.1.mono (mask_step hE (by simp)), h.2⟩⟩
    · exact h
  · intro q op hq ho vs W hW hd ρ hρ
    have hq' : q = 0 ∨ q = 1 ∨ q = 2 ∨ q = 3 ∨ q = 4 ∨ q = 5 ∨ q = 6 ∨ q = 7 ∨ q = 8 := by omega
    clear hq
    have o8 : ρ (.tmp 8) = .pointer (some ⟨sb, 0, none⟩) := hρ.out 8 rfl
    have o7 : ρ (.tmp 7) = .pointer (some ⟨bd, 0, none⟩) := hρ.out 7 rfl
    have o1 : ρ (.tmp 1) = .int .i64 ((n : Nat) : Int) := hρ.out 1 rfl
    have i1 := hρ.ins 1 15 (by omega) rfl (Nat.le_of_ble_eq_true rfl)
    have i2 := hρ.ins 2 16 (by omega) rfl (Nat.le_of_ble_eq_true rfl)
    have i3 := hρ.ins 3 17 (by omega) rfl (Nat.le_of_ble_eq_true rfl)
    have o4 : ρ (.tmp 4) = .pointer (some ⟨rb, 0, none⟩) := hρ.out 4 rfl
    have i0 := hρ.ins 0 14 (by omega) rfl (Nat.le_of_ble_eq_true rfl)
    have i4 := hρ.ins 4 18 (by omega) rfl (Nat.le_of_ble_eq_true rfl)
    have i5 := hρ.ins 5 19 (by omega) rfl (Nat.le_of_ble_eq_true rfl)
    have hc := hρ.const
    have hfn := hρ.func
    clear hρ
    have HW := Lib.hid (show DeckAt w0 W bd ∧ Chg [bd, rb] w4 W ∧ ∃ q, W.heap[rb]? = some (.cells #[q] 24 (0, 0)) from hW)
    rcases hq' with rfl | rfl | rfl | rfl | rfl | rfl | rfl | rfl | rfl
    · cases ho
      clear hd
      obtain ⟨g7, gf7⟩ := blk1 (HW.out.2.1.blk HSB.out (by have := HBS.out; simp; omega))
      unfold GivesOp
      go_simp
      exact ⟨⟨Chg.refl _ _, fun _ => Chg.refl _ _⟩, rfl⟩
    · cases ho
      clear hd
      unfold GivesOp
      go_simp
      exact ⟨⟨Chg.refl _ _, fun _ => Chg.refl _ _⟩, rfl⟩
    · cases ho
      clear hd
      obtain ⟨g7, gf7⟩ := blk1 (HW.out.2.1.blk HSB.out (by have := HBS.out; simp; omega))
      unfold GivesOp
      go_simp
      exact ⟨⟨Chg.refl _ _, fun _ => Chg.refl _ _⟩, rfl⟩
    · cases ho
      clear hd
      unfold GivesOp
      go_simp
      exact ⟨⟨Chg.refl _ _, fun _ => Chg.refl _ _⟩, rfl⟩
    · cases ho
      have h1 : vs 1 = .pointer (some ⟨bd, 0, none⟩) := hd ⟨1, .data⟩ (by simp) rfl
      rw [h1] at i1
      have h2 : vs 2 = .agg #[.slice sa sn sc] := hd ⟨2, .data⟩ (by simp) rfl
      rw [h2] at i2
      have h3 : vs 3 = .int .i64 ((n : Nat) : Int) := hd ⟨3, .data⟩ (by simp) rfl
      rw [h3] at i3
      clear hd
      unfold GivesOp
      go_simp
      refine (HCL.out W HW.out.1 HW.out.2.1).mono ?_
      rintro e5 w5 ⟨l, la, ln, lc, rfl, k1, k2, k3, k4, hd5, hc5⟩
      exact ⟨_, rfl, ⟨hc5.weak (by simp), fun _ => hc5⟩, ⟨hd5, HW.out.2.1.then (hc5.weak (by simp)), by obtain ⟨q, hq⟩ := HW.out.2.2; exact ⟨q, hc5.blk hq (by have := HBS.out; simp; omega)⟩⟩, l, la, ln, lc, rfl, k1, k2, k3, k4⟩
    · cases ho
      clear hd
      unfold GivesOp
      go_simp
      exact ⟨⟨Chg.refl _ _, fun _ => Chg.refl _ _⟩, rfl⟩
    · cases ho
      have h0 : vs 0 = .agg #[.slice sa sn sc] := hd ⟨0, .data⟩ (by simp) rfl
      rw [h0] at i0
      clear hd
      obtain ⟨q, hrq⟩ := HW.out.2.2
      have g8 := blk_cell hrq 0
      have g9 := blk_free hrq 0
      unfold GivesOp
      go_simp
      have hst : (W.setCell ⟨rb, 0, none⟩ (.slice sa sn sc)).heap[rb]? = some (.cells #[.slice sa sn sc] 24 (0, 0)) := by rw [heap_setCell_same W rb 0 _ _ (.slice sa sn sc) hrq]; simp
      have hcs : Chg [rb] W (W.setCell ⟨rb, 0, none⟩ (.slice sa sn sc)) := (Chg.refl _ _).setCell (Or.inl (by simp)) _
      exact ⟨⟨hcs.weak (by simp), fun h => absurd rfl h⟩, ⟨HW.out.1.chg hcs (by have := HBS.out; simp; omega) (fun y hy => by simp only [List.mem_singleton] at hy; have := HBS.out; omega), HW.out.2.1.then (hcs.weak (by simp)), _, hst⟩, hst⟩
    · cases ho
      obtain ⟨l, la, ln, lc, h4, hs4⟩ : ∃ (l : List Cla) (la : Option Addr) (ln : Nat) (lc : Nat), vs 4 = .slice la ln lc ∧ (IsClas (mask W [bd, rb]) l la ln lc ∧ GLOk attrs pcd l ∧ 1 ≤ l.length ∧ l.length ≤ n + 1) := hd ⟨4, .data⟩ (by simp) rfl
      have HS4 := Lib.hid hs4
      clear hs4
      rw [h4] at i4
      clear hd
      unfold GivesOp
      go_simp
      exact ⟨⟨Chg.refl _ _, fun _ => Chg.refl _ _⟩, _, _, _, _, rfl, HS4.out⟩
    · cases ho
      have h5 : vs 5 = .pointer (some ⟨bd, 0, none⟩) := hd ⟨5, .data⟩ (by simp) rfl
      rw [h5] at i5
      clear hd
      unfold GivesOp
      go_simp
      exact ⟨⟨Chg.refl _ _, fun _ => Chg.refl _ _⟩, rfl⟩
  intro vs W hW hR
  rw [if_pos (by decide +kernel)]
  have HS6 := Lib.hid (show W.heap[rb]? = some (.cells #[.slice sa sn sc] 24 (0, 0)) from hR 6 (by simp) (by omega))
  obtain ⟨l, la, ln, lc, h7, hs7⟩ : ∃ (l : List Cla) (la : Option Addr) (ln : Nat) (lc : Nat), vs 7 = .slice la ln lc ∧ (IsClas (mask W [bd, rb]) l la ln lc ∧ GLOk attrs pcd l ∧ 1 ≤ l.length ∧ l.length ≤ n + 1) := hR 7 (by simp) (by omega)
  have HS7 := Lib.hid hs7
  clear hs7
  have h8 : vs 8 = .pointer (some ⟨bd, 0, none⟩) := hR 8 (by simp) (by omega)
  simp only [acts, dstAt, List.range, List.range.loop, List.foldl_cons, List.foldl_nil, h7, h8]
  go_simp
  have hW2 : DeckAt w0 W bd ∧ Chg [bd, rb] w4 W ∧ ∃ q, W.heap[rb]? = some (.cells #[q] 24 (0, 0)) := hW
  clear hR hW h7 h8
  --END M3
  have HW2 := Lib.hid hW2
  obtain ⟨r0, rf⟩ := blk1 HS6.out
  clear hW2
  go_wp2_with fail
  refine bodyPost_ret (v := .tuple #[.agg #[.slice sa sn sc], .slice la ln lc, .pointer (some ⟨bd, 0, none⟩)]) (by simp [results, Tryz.results7, go_sem, r0]) rfl ?_
  exact ⟨attrs, sa, sn, sc, l, la, ln, lc, bd, rfl, HAT.out, (HS4.out.mono (mask_grow HW2.out.2.1 (fun y hy => Or.inl hy))).mono (mask_less _ (fun y hy => by simp at hy; simp [hy])), HS7.out.1.mono (mask_less _ (fun y hy => by simp at hy; simp [hy])), HS7.out.2.1, HS7.out.2.2.1, HS7.out.2.2.2, HW2.out.1, by obtain ⟨_, _, _, _, _, _, _, _, hxw, _⟩ := HW2.out.1; exact hxw⟩
end Go.Proofs.YtfjlglefodndjaaGreatDoor

namespace Go.Proofs.YtfjlglefodndjaaGreatDoor
open Go.RowKit

/-! The law CheckClauses: the walk. -/
theorem sub_freshC {w W : World} {b : Nat} (h : Ext w W) (hb : w.heap.size ≤ b) : Sub w (mask W [b]) := fun p v hp => by
  have := block_lt hp
  rw [mask_cell, if_neg (by simp; omega)]
  exact h.cell hp
set_option maxRecDepth 100000 in
set_option maxHeartbeats 16000000 in
theorem ccl_calls (s : List Attr) (sv : Value) (l : List Cla) (la : Option Addr) (ln lc : Nat) (da : Option Addr) (dn dc : Nat) (oa : Option Addr) (on oc : Nat) (w : World) (hs : IsSchema w s sv) (hsf : ∀ x ∈ s, x.fits) (hsl : s.length ≤ 1000000000000000) (hl : IsClas w l la ln lc) (hlf : ∀ x ∈ l, x.fit) (hln : ln ≤ 1000000000000000)
    (h1 : IntsAt w da dn) (h2 : IntsAt w oa on) (hd1 : dn ≤ 1000000000000000) (hd2 : on ≤ 1000000000000000) (ho : HasOps w) :
    Calls Tryz.prog 4 #[sv, .slice la ln lc, .slice da dn dc, .slice oa on oc] w (GivesE (.bool true) w) := by
  obtain ⟨ia, inn, ic, rfl, hsn⟩ := hs.slice
  have HI1 := Lib.hid h1
  have HI2 := Lib.hid h2
  have HO := Lib.hid ho
  have hin : inn ≤ 1000000000000000 := by omega
  have HP1 := Lib.hid (fun (W : World) (hW : Ext w W) => cClauses_calls s l (.agg #[.slice ia inn ic]) la ln lc W (hs.ext hW) hsf hsl (hl.ext hW) hln hlf (ho.ext hW))
  have HQ1 := Lib.hid (fun (W : World) (hW : Ext w W) => rClauses_calls s l (.agg #[.slice ia inn ic]) la ln lc W (hs.ext hW) hsf hsl (hl.ext hW) hln hlf)
  obtain ⟨⟨i1, e1⟩, hr1⟩ : ∃ r : Nat × Int, r = clausesErr s l := ⟨_, rfl⟩
  rw [← hr1] at HP1 HQ1
  unfold clsV at HP1 HQ1
  clear hs hsf hl hlf h1 h2 ho hsn hr1
  obtain ⟨wa, hwa⟩ : ∃ wa, wa = w.alloc (.cells #[.slice ia inn ic] 24) := ⟨_, rfl⟩
  have hxa : Ext w wa := by rw [hwa]; exact (Ext.refl _).alloc _
  have hb0 : wa.heap[w.heap.size]? = some (.cells #[.slice ia inn ic] 24 (0, 0)) := by rw [hwa]; exact alloc_new w _
  have HXA := Lib.hid hxa
  have HB0 := Lib.hid hb0
  obtain ⟨d0, df⟩ := blk1 hb0
  have hlt1 := blk_lt hb0
  clear hxa hb0
  go_enter Tryz.func4, Tryz.ntmps4
  go_upto_region 1 with fail
  rw [← hwa]
  clear hwa
  go_cut [31] (fun s31 wx => ∃ c : Bool, s31 = .bool c ∧ wx = wa)
  case first =>
    by_cases q1 : 20 < inn
    · have t1 : decide ((20 : Int) < (inn : Int)) = true := decide_eq_true (by omega)
      go_wp2_with fail
      go_meet
      case rel => exact ⟨true, rfl, rfl⟩
    have t1 : decide ((20 : Int) < (inn : Int)) = false := decide_eq_false (by omega)
    by_cases q2 : 60 < ln
    · have t2 : decide ((60 : Int) < (ln : Int)) = true := decide_eq_true (by omega)
      go_wp2_with fail
      go_meet
      case rel => exact ⟨true, rfl, rfl⟩
    have t2 : decide ((60 : Int) < (ln : Int)) = false := decide_eq_false (by omega)
    go_wp2_with fail
    go_meet
    case rel => exact ⟨false, rfl, rfl⟩
  case rest =>
  obtain ⟨c, rfl, rfl⟩ := hcut
  cases c with
  | true =>
    go_wp2_with fail
    refine (awake10_calls _).mono ?_
    rintro r w3 ⟨rfl, hx3⟩
    have HX3 := Lib.hid (HXA.out.trans hx3)
    clear hx3
    go_wp2_with fail
    go_ret
    exact ⟨rfl, HX3.out⟩
  | false =>
  obtain ⟨wa, rfl⟩ : ∃ wa, wa = wc := ⟨_, rfl⟩
  go_wp2_with fail
  refine (HP1.out wa HXA.out).mono ?_
  rintro r w1 ⟨rfl, hx1⟩
  have HX1 := Lib.hid (HXA.out.trans hx1)
  have HB1 := Lib.hid (hx1.blk HB0.out)
  clear hx1 d0 df hlt1 HP1
  obtain ⟨d0, df⟩ := blk1 HB1.out
  have hlt1 := blk_lt HB1.out
  go_wp2_with fail
  refine (HQ1.out w1 HX1.out).mono ?_
  rintro r w2 ⟨rfl, hx2⟩
  have HX2 := Lib.hid (HX1.out.trans hx2)
  clear hx2 d0 df hlt1 HQ1
  go_wp2_with fail
  refine (made10_calls da dn dc 8 (by omega) w2 (fun i hi => by obtain ⟨b, off, z, e, hc⟩ := HI1.out i hi; exact ⟨b, off, z, e, HX2.out.cell hc⟩) hd1).mono ?_
  rintro r w3 ⟨attrs, sa, sn, sc, m, ma, mn, mc, bd, rfl, hat, hsch, hm, hgl, hm1, hm8, hdk, hx3⟩
  have HAT := Lib.hid hat
  have HSC := Lib.hid (hsch.mono (mask_sub _ _))
  have HM := Lib.hid (hm.mono (mask_sub _ _))
  have HGL := Lib.hid hgl
  have HX3 := Lib.hid (HX2.out.trans hx3)
  have HGG := Lib.hid (show clausesErr attrs m = (0, 0) from glok_good hat hgl)
  have hmn : mn ≤ 9 := by have := hm.len; omega
  have hmn0 : 0 < mn := by have := hm.len; omega
  have HMF := Lib.hid (show ∀ c ∈ m, CGood c ∧ c.name.size ≤ 1000 from fun c hc => by
    have := hgl.1 c hc
    have h3 : pcd.size = 2 := rfl
    exact ⟨this.1, by omega⟩)
  clear hat hsch hm hgl hm1 hm8 hdk hx3 HI1
  have hal : attrs.length ≤ 1000000000000000 := by have := (schemas_ok attrs HAT.out).2.2; omega
  have HTF := Lib.hid (attrs_fits HAT.out)
  obtain ⟨bs, hbs⟩ : ∃ bs, bs = w3.heap.size := ⟨_, rfl⟩
  obtain ⟨w4, hw4⟩ : ∃ w4, w4 = w3.alloc (.cells #[.slice sa sn sc] 24) := ⟨_, rfl⟩
  have hx4 : Ext w3 w4 := by rw [hw4]; exact (Ext.refl _).alloc _
  have hbs4 : w4.heap[bs]? = some (.cells #[.slice sa sn sc] 24 (0, 0)) := by rw [hw4, hbs]; exact alloc_new w3 _
  have HX4 := Lib.hid (HX3.out.trans hx4)
  have HBS := Lib.hid hbs4
  have HSC4 := Lib.hid (HSC.out.ext hx4)
  have HM4 := Lib.hid (HM.out.ext hx4)
  obtain ⟨d0, df⟩ := blk1 hbs4
  have hlt4 := blk_lt hbs4
  clear hx4 hbs4
  go_upto_region 6 with fail
  rw [← hw4, ← hbs]
  clear hw4 hbs
  have HP2 := Lib.hid (cClauses_calls attrs m (.agg #[.slice sa sn sc]) ma mn mc w4 HSC4.out HTF.out hal HM4.out (by omega) (fun x hx => good_fit (HMF.out x hx).1 (HMF.out x hx).2) (HO.out.ext HX4.out))
  rw [HGG.out] at HP2
  unfold clsV at HP2
  go_wp2_with fail
  refine HP2.out.mono ?_
  rintro r w5 ⟨rfl, hx5⟩
  have HX5 := Lib.hid (HX4.out.trans hx5)
  have HB5 := Lib.hid (hx5.blk HBS.out)
  have HSC5 := Lib.hid (HSC4.out.ext hx5)
  have HM5 := Lib.hid (HM4.out.ext hx5)
  clear hx5 d0 df hlt4 HP2
  go_wp2_with fail
  refine (new_callsB oa on oc w5 w5 (fun i hi => by obtain ⟨b, off, z, e, hc⟩ := HI2.out i hi; exact ⟨b, off, z, e, HX5.out.cell hc⟩) (Ext.refl _) hd2).mono ?_
  rintro r w6 ⟨b6, rfl, hd6, hx6, hb6⟩
  have HD6 := Lib.hid hd6
  have HX6 := Lib.hid hx6
  have HM6 := Lib.hid (HM5.out.mono (sub_freshC hx6 hb6))
  clear hd6 hx6 hb6
  go_wp2_with fail
  refine (shaken_calls HD6.out m ma mn mc HM6.out hmn0 (by omega) HMF.out).mono ?_
  rintro r w7 ⟨x, xa, xn, xc, rfl, hxl, hxf, hxn, hd7, hc7⟩
  have hx7 : Ext w5 w7 := by obtain ⟨_, _, _, _, _, _, _, _, hxw, _⟩ := hd7; exact hxw
  have HX7 := Lib.hid (HX5.out.trans hx7)
  have HB7 := Lib.hid (hx7.blk HB5.out)
  have HSC7 := Lib.hid (HSC5.out.ext hx7)
  have HXL := Lib.hid hxl
  have HXF := Lib.hid hxf
  clear hx7 hxl hxf hd7 hc7
  obtain ⟨d0, df⟩ := blk1 HB7.out
  have hlt7 := blk_lt HB7.out
  have HP3 := Lib.hid (fun (W : World) (hW : Ext w7 W) => cClauses_calls attrs x (.agg #[.slice sa sn sc]) xa xn xc W (HSC7.out.ext hW) HTF.out hal (HXL.out.ext hW) (by omega) HXF.out (HO.out.ext (HX7.out.trans hW)))
  have HQ3 := Lib.hid (fun (W : World) (hW : Ext w7 W) => rClauses_calls attrs x (.agg #[.slice sa sn sc]) xa xn xc W (HSC7.out.ext hW) HTF.out hal (HXL.out.ext hW) (by omega) HXF.out)
  obtain ⟨⟨i3, e3⟩, hr3⟩ : ∃ r : Nat × Int, r = clausesErr attrs x := ⟨_, rfl⟩
  rw [← hr3] at HP3 HQ3
  unfold clsV at HP3 HQ3
  clear hr3
  go_wp2_with fail
  refine (HP3.out w7 (Ext.refl _)).mono ?_
  rintro r w8 ⟨rfl, hx8⟩
  have HX8 := Lib.hid hx8
  have HB8 := Lib.hid (hx8.blk HB7.out)
  clear hx8 d0 df hlt7 HP3
  obtain ⟨d0, df⟩ := blk1 HB8.out
  have hlt8 := blk_lt HB8.out
  go_wp2_with fail
  refine (HQ3.out w8 HX8.out).mono ?_
  rintro r w9 ⟨rfl, hx9⟩
  have HX9 := Lib.hid (HX7.out.trans (HX8.out.trans hx9))
  clear hx9 d0 df hlt8 HQ3
  go_wp2_with fail
  refine (awake10_calls _).mono ?_
  rintro r wz ⟨rfl, hxz⟩
  have HXZ := Lib.hid (HX9.out.trans hxz)
  clear hxz
  go_wp2_with fail
  go_ret
  exact ⟨rfl, HXZ.out⟩
end Go.Proofs.YtfjlglefodndjaaGreatDoor

namespace Go.Proofs.YtfjlglefodndjaaGreatDoor
open Go.ChangeShapes Go.WideShapes Go.ChangeAt Go.RowKit

theorem exFields_are : (Tryz.prog.underlying 29).bind (fun u => match u with | .struct fs => some (fs.toList.map (fun f => (f.type, f.offset))) | _ => none) = some [(3, 0), (9, 1), (26, 2), (3, 3), (3, 4), (27, 5)] := by kernel_rfl
theorem uEx : ∃ fs : Array Field, Tryz.prog.underlying 29 = some (.struct fs) ∧ fs.toList.map (fun f => (f.type, f.offset)) = [(3, 0), (9, 1), (26, 2), (3, 3), (3, 4), (27, 5)] := by
  have h := exFields_are
  generalize Tryz.prog.underlying 29 = U at *
  match U, h with
  | some (.struct fs), h => exact ⟨fs, rfl, by simpa using h⟩
theorem cEx : Tryz.prog.cellsOf 29 = 6 := by kernel_rfl
theorem cSs : Tryz.prog.cellsOf 26 = 1 := by kernel_rfl
theorem cExs : Tryz.prog.cellsOf 27 = 1 := by kernel_rfl
theorem uSs : Tryz.prog.underlying 26 = some (.slice 9) := by kernel_rfl
theorem uExs : Tryz.prog.underlying 27 = some (.slice 29) := by kernel_rfl
theorem bStr : Tryz.prog.bytesOf 9 = 16 := by kernel_rfl
theorem list6 {α : Type} (l : List α) (h : l.length = 6) : ∃ a b c d e f, l = [a, b, c, d, e, f] := by
  rcases l with _ | ⟨a, _ | ⟨b, _ | ⟨c, _ | ⟨d, _ | ⟨e, _ | ⟨f, _ | ⟨g, r⟩⟩⟩⟩⟩⟩⟩ <;> simp at h
  exact ⟨a, b, c, d, e, f, rfl⟩
theorem spot_none {W : World} {a : Addr} {v : Value} (h : W.cell? a = some v) : a.spot = none := by
  cases hs : a.spot with
  | none => rfl
  | some x =>
    simp only [World.cell?, hs] at h
    split at h <;> simp at h
theorem add_plain (b off i : Nat) : (⟨b, off, none⟩ : Addr).add i = ⟨b, off + i, none⟩ := by
  unfold Addr.add
  split <;> simp_all
theorem fits_mk' {e : Ex} (h1 : e.name.size ≤ 1000000000000000) (h2 : ∀ x ∈ e.words, x.size ≤ 1000000000000000) (h3 : ∀ x ∈ e.args, x.fits) : e.fits := by
  cases e with
  | mk op name words lo hi args =>
    unfold Ex.fits
    refine ⟨h1, h2, ?_⟩
    simp only [Ex.args] at h3
    clear h1 h2
    induction args with
    | nil => unfold fitsAll; trivial
    | cons a r ih => unfold fitsAll; exact ⟨h3 a (by simp), ih (fun x hx => h3 x (List.mem_cons_of_mem _ hx))⟩
theorem few_mk' {e : Ex} (h2 : e.words.length ≤ 1000000000000000) (h3 : ∀ x ∈ e.args, x.few) : e.few := by
  cases e with
  | mk op name words lo hi args =>
    unfold Ex.few
    refine ⟨h2, ?_⟩
    simp only [Ex.args] at h3
    clear h2
    induction args with
    | nil => unfold fewAll; trivial
    | cons a r ih => unfold fewAll; exact ⟨h3 a (by simp), ih (fun x hx => h3 x (List.mem_cons_of_mem _ hx))⟩
theorem list_of {α : Type} {Q : Nat → α → Prop} : (n : Nat) → (∀ i, i < n → ∃ x, Q i x) → ∃ l : List α, l.length = n ∧ ∀ i (h : i < l.length), Q i l[i]
  | 0, _ => ⟨[], rfl, fun i h => by simp at h⟩
  | n + 1, h => by
    obtain ⟨l, h1, h2⟩ := list_of n (fun i hi => h i (by omega))
    obtain ⟨x, hx⟩ := h n (by omega)
    refine ⟨l ++ [x], by simp [h1], fun i hi => ?_⟩
    by_cases e : i < l.length
    · rw [List.getElem_append_left e]; exact h2 i e
    · have : i = n := by simp at hi; omega
      subst this
      rw [List.getElem_append_right (by omega)]
      simpa using hx
/-- The words of an expression that came in. -/
theorem strs_arg {H : Type} {enc : TypeId × Value → H} {W : World} {n : Nat} {c : Value} {y : DataW H × List MemPlace} (h : DataW.trod enc Tryz.prog W 0 (fun _ => true) true n 26 [c] = some y) (hw : (y.1.weights Tryz.prog 26).all (· ≤ reachBytes) = true) :
    ∃ (l : List ByteArray) (a : Option Addr) (m k : Nat), c = .slice a m k ∧ IsStrs W l a m k ∧ (∀ x ∈ l, x.size ≤ 1000000000000000) ∧ l.length ≤ 1000000000000000 := by
  have hr := reachBytes_lt
  rcases open_strings uSs uS cS h with ⟨hc, _⟩ | ⟨a, len, cap, ss, hc, _, hl, hm, hz, hx, hcell, hsz⟩
  · simp at hc
    exact ⟨[], none, 0, 0, hc, ⟨rfl, by omega, Or.inl ⟨rfl, rfl⟩, fun i hi => by simp at hi⟩, by simp, by simp⟩
  · simp at hc
    subst hc
    simp only [if_true] at hz
    subst hx
    have hw' := hw
    simp only [DataW.weights, uSs, List.all_cons, Bool.and_eq_true, decide_eq_true_eq, List.all_append, bStr] at hw'
    obtain ⟨hw1, hw2, _⟩ := hw'
    have hlen : (strs (H := H) (ss.take len)).length = len := by simp [strs]; omega
    have hdrop : (strs (H := H) (ss.drop len)).length = cap - len := by simp [strs]; omega
    refine ⟨ss.take len, some a, len, cap, rfl, ⟨by simp; omega, hl, ?_, fun i hi => ?_⟩, fun x hx => ?_, by simp; omega⟩
    · by_cases h0 : cap = 0
      · exact Or.inl ⟨h0, h0⟩
      · have h1 := hcell 0 (by omega)
        rw [show a.add 0 = a by simp [Addr.add]] at h1
        have := spot_none h1
        obtain ⟨b, off, sp⟩ := a
        simp only at this
        subst this
        exact Or.inr ⟨b, off, rfl⟩
    · have hi' : i < len := by simp at hi; omega
      have h1 := hcell 0 (by omega)
      rw [show a.add 0 = a by simp [Addr.add]] at h1
      have hsp := spot_none h1
      obtain ⟨b, off, sp⟩ := a
      simp only at hsp
      subst hsp
      have h2 := hcell i (by omega)
      rw [add_plain] at h2
      refine ⟨b, off, rfl, ?_⟩
      rw [h2]
      simp [List.getD, show i < ss.length by omega]
    · have hmem : ∀ (l : List ByteArray), (DataW.weightsAll Tryz.prog 9 (strs (H := H) l)).all (· ≤ reachBytes) = true → ∀ x ∈ l, x.size ≤ reachBytes := by
        intro l
        induction l with
        | nil => intro _ x hx; simp at hx
        | cons y r ih =>
          intro hall x hx
          simp only [strs, List.map_cons, DataW.weightsAll, List.all_append, Bool.and_eq_true] at hall
          rcases List.mem_cons.1 hx with rfl | hx
          · have := hall.1
            simp [DataW.weights] at this
            exact this
          · exact ih hall.2 x hx
      have := hmem _ hw2 x hx
      omega
theorem ex_arg {H : Type} {enc : TypeId × Value → H} {W : World} : ∀ (fuel : Nat) (cs : List Value) (x : DataW H × List MemPlace), DataW.trod enc Tryz.prog W 0 (fun _ => true) true fuel 29 cs = some x → (x.1.weights Tryz.prog 29).all (· ≤ reachBytes) = true →
    ∃ (e : Ex) (v : ExV), cs = v.cells ∧ IsEx W e v.val ∧ e.fits ∧ e.few := by
  intro fuel
  induction fuel using Nat.strongRecOn with
  | _ fuel ih =>
    intro cs x h hw
    obtain ⟨fs, uE, are⟩ := uEx
    obtain ⟨xs, n, rfl, rfl, hlen, hxl, hf⟩ := DataW.trod_struct uE h
    have e6 : fs.size = 6 := by have := congrArg List.length are; simpa using this
    rw [e6] at hxl
    rw [cEx] at hlen
    obtain ⟨c0, c1, c2, c3, c4, c5, rfl⟩ := list6 cs hlen
    obtain ⟨x0, x1, x2, x3, x4, x5, rfl⟩ := list6 xs hxl
    obtain ⟨f0, g0, t0, o0⟩ := op_field 0 _ _ (by rw [are]; rfl)
    obtain ⟨f1, g1, t1, o1⟩ := op_field 1 _ _ (by rw [are]; rfl)
    obtain ⟨f2, g2, t2, o2⟩ := op_field 2 _ _ (by rw [are]; rfl)
    obtain ⟨f3, g3, t3, o3⟩ := op_field 3 _ _ (by rw [are]; rfl)
    obtain ⟨f4, g4, t4, o4⟩ := op_field 4 _ _ (by rw [are]; rfl)
    obtain ⟨f5, g5, t5, o5⟩ := op_field 5 _ _ (by rw [are]; rfl)
    have r0 := hf 0 f0 g0
    have r1 := hf 1 f1 g1
    have r2 := hf 2 f2 g2
    have r3 := hf 3 f3 g3
    have r4 := hf 4 f4 g4
    have r5 := hf 5 f5 g5
    rw [t0, o0, cI] at r0
    rw [t1, o1, cS] at r1
    rw [t2, o2, cSs] at r2
    rw [t3, o3, cI] at r3
    rw [t4, o4, cI] at r4
    rw [t5, o5, cExs] at r5
    simp only [List.drop_zero, List.drop_succ_cons, List.take_succ_cons, List.take_zero, List.getElem?_cons_zero, List.getElem?_cons_succ] at r0 r1 r2 r3 r4 r5
    have hty : fs.toList.map (·.type) = [3, 9, 26, 3, 3, 27] := by
      have := congrArg (List.map Prod.fst) are
      rw [List.map_map] at this
      exact this
    simp only [DataW.weights, uE, hty, List.map_cons, List.map_nil, DataW.weightsEach, List.all_append, Bool.and_eq_true] at hw
    obtain ⟨_, w1, w2, _, _, w5, _⟩ := hw
    obtain ⟨op, a0, _, _⟩ := DataW.trod_int uI r0
    obtain ⟨s, a1, b1, _⟩ := DataW.trod_string uS r1
    obtain ⟨lo, a3, _, _⟩ := DataW.trod_int uI r3
    obtain ⟨hi, a4, _, _⟩ := DataW.trod_int uI r4
    simp only [List.cons.injEq, and_true] at a0 a1 a3 a4
    subst a0 a1 a3 a4
    have hr := reachBytes_lt
    have hss : s.size ≤ 1000000000000000 := by
      rw [b1] at w1
      simp [DataW.weights] at w1
      omega
    obtain ⟨words, aw, nw, cw, rfl, hws, hwz, hwl⟩ := strs_arg r2 w2
    rcases DataW.trod_slice uExs r5 with ⟨hc5, _⟩ | ⟨a, len, cap, elems, rest, k, hk, hc5, hx5, _, hl, hm, hel, hev, hsp, _⟩
    · simp only [List.cons.injEq, and_true] at hc5
      subst hc5
      refine ⟨.mk op s words lo hi [], ⟨op, s, aw, nw, cw, lo, hi, none, 0, 0⟩, rfl, IsEx.mk hws rfl (Nat.le_refl 0) (Or.inl ⟨rfl, rfl⟩) (by unfold ExsD; trivial), fits_mk' hss hwz (by simp [Ex.args]), few_mk' hwl (by simp [Ex.args])⟩
    · simp only [List.cons.injEq, and_true] at hc5
      subst hc5
      rw [hx5] at w5
      simp only [DataW.weights, uExs, List.all_cons, List.all_append, Bool.and_eq_true] at w5
      obtain ⟨_, w6, _⟩ := w5
      have hall : ∀ (l : List (DataW H × List MemPlace)), (DataW.weightsAll Tryz.prog 29 (l.map (·.1))).all (· ≤ reachBytes) = true → ∀ y ∈ l, (y.1.weights Tryz.prog 29).all (· ≤ reachBytes) = true := by
        intro l
        induction l with
        | nil => intro _ y hy; simp at hy
        | cons z r ih2 =>
          intro h1 y hy
          simp only [List.map_cons, DataW.weightsAll, List.all_append, Bool.and_eq_true] at h1
          rcases List.mem_cons.1 hy with rfl | hy
          · exact h1.1
          · exact ih2 h1.2 y hy
      have each : ∀ i, i < len → ∃ ev : Ex × ExV, (∀ j, j < 6 → W.cell? ((a.add (i * 6)).add j) = ev.2.cells[j]?) ∧ IsEx W ev.1 ev.2.val ∧ ev.1.fits ∧ ev.1.few := by
        intro i hi
        have h1 := hev i hi
        rw [List.getElem?_eq_getElem (by omega), cEx, Option.bind_eq_some_iff] at h1
        obtain ⟨cs', h2, h3⟩ := h1
        obtain ⟨e, v, h4, h5, h6, h7⟩ := ih k (by omega) cs' _ h3 (hall elems w6 _ (List.getElem_mem _))
        subst h4
        exact ⟨(e, v), fun j hj => (World.cells?_some h2).2.2 j hj, h5, h6, h7⟩
      have hok : OkAddr (some a) cap := by
        by_cases h0 : cap = 0
        · exact Or.inl ⟨h0, h0⟩
        · have hcell : ∃ v, W.cell? a = some v := by
            by_cases h1 : 0 < len
            · obtain ⟨ev, h2, _⟩ := each 0 h1
              have := h2 0 (by omega)
              rw [show (a.add (0 * 6)).add 0 = a by simp [Addr.add]] at this
              exact ⟨_, by rw [this]; rfl⟩
            · obtain ⟨h3, h4⟩ := hsp rfl
              have h5 := h4 0 (by omega)
              rw [List.getElem?_eq_getElem (by omega), cEx, Option.bind_eq_some_iff] at h5
              obtain ⟨cs', h6, _⟩ := h5
              obtain ⟨_, h8, h7⟩ := World.cells?_some h6
              have h9 := h7 0 (by omega)
              rw [show (a.add ((len + 0) * 6)).add 0 = a by simp [Addr.add, show len = 0 by omega]] at h9
              exact ⟨cs'[0]'(by omega), by rw [h9, List.getElem?_eq_getElem (by omega)]⟩
          obtain ⟨v, hv⟩ := hcell
          have := spot_none hv
          obtain ⟨b, off, sp⟩ := a
          simp only at this
          subst this
          exact Or.inr ⟨b, off, rfl⟩
      obtain ⟨l, hl1, hl2⟩ := list_of len each
      refine ⟨.mk op s words lo hi (l.map (·.1)), ⟨op, s, aw, nw, cw, lo, hi, some a, len, cap⟩, rfl, IsEx.mk hws (by simp [hl1]) hl hok ?_, fits_mk' hss hwz ?_, few_mk' hwl ?_⟩
      · cases hll : l with
        | nil => unfold ExsD; trivial
        | cons z r =>
          rw [← hll]
          have hpos : 0 < l.length := by rw [hll]; simp
          have h2 := (hl2 0 hpos).1 0 (by omega)
          rw [show (a.add (0 * 6)).add 0 = a by simp [Addr.add]] at h2
          have hsp2 := spot_none (v := (l[0].2.cells)[0]'(by simp [ExV.cells])) (by rw [h2]; exact List.getElem?_eq_getElem _)
          obtain ⟨b, off, sp⟩ := a
          simp only at hsp2
          subst hsp2
          refine ExsD.of (l.map (·.1)) off (l.map (·.2)) (by simp) fun i h3 h4 => ?_
          have hi : i < l.length := by simpa using h3
          obtain ⟨q1, q2, _⟩ := hl2 i hi
          simp only [List.getElem_map]
          refine ⟨fun j hj => ?_, q2⟩
          have := q1 j hj
          rwa [add_plain, add_plain] at this
      · intro y hy
        simp only [Ex.args, List.mem_map] at hy
        obtain ⟨z, hz, rfl⟩ := hy
        obtain ⟨i, hi, rfl⟩ := List.getElem_of_mem hz
        exact (hl2 i hi).2.2.1
      · intro y hy
        simp only [Ex.args, List.mem_map] at hy
        obtain ⟨z, hz, rfl⟩ := hy
        obtain ⟨i, hi, rfl⟩ := List.getElem_of_mem hz
        exact (hl2 i hi).2.2.2
set_option maxRecDepth 100000 in
/-- An argument of type Expr. -/
theorem expr_arg {H : Type} {enc : TypeId × Value → H} {W : World} {v : Value} {d : DataW H} {p : List MemPlace} {ts : List TypeId} {ds : List (DataW H)} {j : Nat} (h : DataW.Trod enc Tryz.prog W 0 (fun _ => true) true 29 v d p) {base : Nat} (hval : Value.okWide Tryz.prog W .any base 29 v)
    (hs : (DataW.weightsEach Tryz.prog ts ds).all (· ≤ reachBytes) = true) (ht : ts[j]? = some 29) (hd : ds[j]? = some d) : ∃ (e : Ex), IsEx W e v ∧ e.fits ∧ e.few := by
  obtain ⟨fuel, hf⟩ := h
  have hw : (d.weights Tryz.prog 29).all (· ≤ reachBytes) = true := by
    rw [List.all_eq_true]
    intro n hn
    exact List.all_eq_true.1 hs n (DataW.weights_mem_each ht hd n hn)
  obtain ⟨e, x, h1, h2, h3, h4⟩ := ex_arg fuel _ _ hf hw
  refine ⟨e, ?_, h3, h4⟩
  obtain ⟨fs, uE, _⟩ := uEx
  obtain ⟨cs, rfl, _⟩ := okWide_struct uE hval
  simp only [Value.cells] at h1
  have : (Value.agg cs) = x.val := by
    have e : cs = x.cells.toArray := by rw [← h1]
    rw [e]; rfl
  rw [this]; exact h2
end Go.Proofs.YtfjlglefodndjaaGreatDoor

namespace Go.Proofs.YtfjlglefodndjaaGreatDoor
open Go.ChangeShapes Go.WideShapes Go.ChangeAt Go.RowKit

theorem weights_each {H : Type} {tE : TypeId} : ∀ (l : List (DataW H × List MemPlace)), (DataW.weightsAll Tryz.prog tE (l.map (·.1))).all (· ≤ reachBytes) = true → ∀ y ∈ l, (y.1.weights Tryz.prog tE).all (· ≤ reachBytes) = true := by
  intro l
  induction l with
  | nil => intro _ y hy; simp at hy
  | cons z r ih2 =>
    intro h1 y hy
    simp only [List.map_cons, DataW.weightsAll, List.all_append, Bool.and_eq_true] at h1
    rcases List.mem_cons.1 hy with rfl | hy
    · exact h1.1
    · exact ih2 h1.2 y hy
/-- A slice of rows that came in: each row is read by el. -/
theorem rows_arg {α : Type} {H : Type} {enc : TypeId × Value → H} {W : World} {tS tE : TypeId} {m : Nat} (f : α → List Value) (hf : ∀ y, (f y).length = m) (hm0 : 0 < m) (uSl : Tryz.prog.underlying tS = some (.slice tE)) (cE : Tryz.prog.cellsOf tE = m) {B : Nat} (bE : Tryz.prog.bytesOf tE = B) (hB : 0 < B) {Q : α → Prop} {fuel : Nat}
    (el : ∀ k, k < fuel → ∀ (cs : List Value) (x : DataW H × List MemPlace), DataW.trod enc Tryz.prog W 0 (fun _ => true) true k tE cs = some x → (x.1.weights Tryz.prog tE).all (· ≤ reachBytes) = true → ∃ y, cs = f y ∧ Q y)
    {c : Value} {y : DataW H × List MemPlace} (h : DataW.trod enc Tryz.prog W 0 (fun _ => true) true fuel tS [c] = some y) (hw : (y.1.weights Tryz.prog tS).all (· ≤ reachBytes) = true) :
    ∃ ys a n k, c = .slice a n k ∧ IsRows W m f ys a n k ∧ (∀ z ∈ ys, Q z) ∧ n ≤ 1000000000000000 := by
  have hr := reachBytes_lt
  rcases DataW.trod_slice uSl h with ⟨hc5, _⟩ | ⟨a, len, cap, elems, rest, k, hk, hc5, hx5, _, hl, hm, hel, hev, hsp, _⟩
  · simp only [List.cons.injEq, and_true] at hc5
    subst hc5
    exact ⟨[], none, 0, 0, rfl, ⟨rfl, Nat.le_refl 0, Or.inl ⟨rfl, rfl⟩, fun i hi => by simp at hi⟩, by simp, by omega⟩
  · simp only [List.cons.injEq, and_true] at hc5
    subst hc5
    rw [hx5] at hw
    simp only [DataW.weights, uSl, List.all_cons, List.all_append, Bool.and_eq_true, decide_eq_true_eq, bE] at hw
    obtain ⟨w5, w6, _⟩ := hw
    have each : ∀ i, i < len → ∃ t : α, (∀ j, j < m → W.cell? ((a.add (i * m)).add j) = (f t)[j]?) ∧ Q t := by
      intro i hi
      have h1 := hev i hi
      rw [List.getElem?_eq_getElem (by omega), cE, Option.bind_eq_some_iff] at h1
      obtain ⟨cs', h2, h3⟩ := h1
      obtain ⟨t, h4, h5⟩ := el k (by omega) cs' _ h3 (weights_each elems w6 _ (List.getElem_mem _))
      subst h4
      exact ⟨t, fun j hj => (World.cells?_some h2).2.2 j hj, h5⟩
    have hok : OkAddr (some a) cap := by
      by_cases h0 : cap = 0
      · exact Or.inl ⟨h0, h0⟩
      · have hcell : ∃ v, W.cell? a = some v := by
          by_cases h1 : 0 < len
          · obtain ⟨t, h2, _⟩ := each 0 h1
            have := h2 0 hm0
            rw [show (a.add (0 * m)).add 0 = a by simp [Addr.add]] at this
            exact ⟨_, by rw [this, List.getElem?_eq_getElem (by rw [hf]; exact hm0)]⟩
          · obtain ⟨h3, h4⟩ := hsp rfl
            have h5 := h4 0 (by omega)
            rw [List.getElem?_eq_getElem (by omega), cE, Option.bind_eq_some_iff] at h5
            obtain ⟨cs', h6, _⟩ := h5
            obtain ⟨_, h8, h7⟩ := World.cells?_some h6
            have h9 := h7 0 hm0
            rw [show (a.add ((len + 0) * m)).add 0 = a by simp [Addr.add, show len = 0 by omega]] at h9
            exact ⟨cs'[0]'(by omega), by rw [h9, List.getElem?_eq_getElem (by omega)]⟩
        obtain ⟨v, hv⟩ := hcell
        have := spot_none hv
        obtain ⟨b, off, sp⟩ := a
        simp only at this
        subst this
        exact Or.inr ⟨b, off, rfl⟩
    obtain ⟨l, hl1, hl2⟩ := list_of len each
    refine ⟨l, some a, len, cap, rfl, ⟨hl1.symm, hl, hok, fun i hi => ?_⟩, fun t ht => ?_, ?_⟩
    · have h2 := (hl2 0 (by omega)).1 0 hm0
      rw [show (a.add (0 * m)).add 0 = a by simp [Addr.add]] at h2
      have hsp2 := spot_none (v := (f l[0])[0]'(by rw [hf]; exact hm0)) (by rw [h2]; exact List.getElem?_eq_getElem _)
      obtain ⟨b, off, sp⟩ := a
      simp only at hsp2
      subst hsp2
      refine ⟨b, off, rfl, fun j hj => ?_⟩
      have := (hl2 i hi).1 j (by rw [hf] at hj; exact hj)
      rw [add_plain, add_plain, List.getElem?_eq_getElem hj] at this
      exact this
    · obtain ⟨i, hi, rfl⟩ := List.getElem_of_mem ht
      exact (hl2 i hi).2
    · have e1 : (elems.map (·.1)).length = len := by simp; omega
      have e2 : (elems.map (·.1)).length ≤ ((elems.map (·.1)).length + (rest.map (·.1)).length) * B := Nat.le_trans (Nat.le_add_right _ _) (Nat.le_mul_of_pos_right _ hB)
      omega
end Go.Proofs.YtfjlglefodndjaaGreatDoor

namespace Go.Proofs.YtfjlglefodndjaaGreatDoor
open Go.ChangeShapes Go.WideShapes Go.ChangeAt Go.RowKit

/-! Arguments of type api.Schema. -/
theorem attrFields_are : (Tryz.prog.underlying 91).bind (fun u => match u with | .struct fs => some (fs.toList.map (fun f => (f.type, f.offset))) | _ => none) = some [(9, 0), (3, 1), (26, 2), (3, 3), (3, 4)] := by kernel_rfl
theorem uAttr : ∃ fs : Array Field, Tryz.prog.underlying 91 = some (.struct fs) ∧ fs.toList.map (fun f => (f.type, f.offset)) = [(9, 0), (3, 1), (26, 2), (3, 3), (3, 4)] := by
  have h := attrFields_are
  generalize Tryz.prog.underlying 91 = U at *
  match U, h with
  | some (.struct fs), h => exact ⟨fs, rfl, by simpa using h⟩
theorem schFields_are : (Tryz.prog.underlying 24).bind (fun u => match u with | .struct fs => some (fs.toList.map (fun f => (f.type, f.offset))) | _ => none) = some [(22, 0)] := by kernel_rfl
theorem uSch : ∃ fs : Array Field, Tryz.prog.underlying 24 = some (.struct fs) ∧ fs.toList.map (fun f => (f.type, f.offset)) = [(22, 0)] := by
  have h := schFields_are
  generalize Tryz.prog.underlying 24 = U at *
  match U, h with
  | some (.struct fs), h => exact ⟨fs, rfl, by simpa using h⟩
theorem cAttr : Tryz.prog.cellsOf 91 = 5 := by kernel_rfl
theorem cSch : Tryz.prog.cellsOf 24 = 1 := by kernel_rfl
theorem cAttrs : Tryz.prog.cellsOf 22 = 1 := by kernel_rfl
theorem uAttrs : Tryz.prog.underlying 22 = some (.slice 91) := by kernel_rfl
theorem bAttr : Tryz.prog.bytesOf 91 = 64 := by kernel_rfl
/-- An attribute that came in. -/
theorem attr_arg {H : Type} {enc : TypeId × Value → H} {W : World} (fuel : Nat) (cs : List Value) (x : DataW H × List MemPlace) (h : DataW.trod enc Tryz.prog W 0 (fun _ => true) true fuel 91 cs = some x) (hw : (x.1.weights Tryz.prog 91).all (· ≤ reachBytes) = true) :
    ∃ v : AttrV, cs = v.cells ∧ (IsStrs W v.x.words v.a v.n v.c ∧ v.x.fits) := by
  obtain ⟨fs, uE, are⟩ := uAttr
  obtain ⟨xs, n, rfl, rfl, hlen, hxl, hf⟩ := DataW.trod_struct uE h
  have e6 : fs.size = 5 := by have := congrArg List.length are; simpa using this
  rw [e6] at hxl
  rw [cAttr] at hlen
  obtain ⟨c0, c1, c2, c3, c4, rfl⟩ := list5 cs hlen
  obtain ⟨x0, x1, x2, x3, x4, rfl⟩ := list5 xs hxl
  obtain ⟨f0, g0, t0, o0⟩ := op_field 0 _ _ (by rw [are]; rfl)
  obtain ⟨f1, g1, t1, o1⟩ := op_field 1 _ _ (by rw [are]; rfl)
  obtain ⟨f2, g2, t2, o2⟩ := op_field 2 _ _ (by rw [are]; rfl)
  obtain ⟨f3, g3, t3, o3⟩ := op_field 3 _ _ (by rw [are]; rfl)
  obtain ⟨f4, g4, t4, o4⟩ := op_field 4 _ _ (by rw [are]; rfl)
  have r0 := hf 0 f0 g0
  have r1 := hf 1 f1 g1
  have r2 := hf 2 f2 g2
  have r3 := hf 3 f3 g3
  have r4 := hf 4 f4 g4
  rw [t0, o0, cS] at r0
  rw [t1, o1, cI] at r1
  rw [t2, o2, cSs] at r2
  rw [t3, o3, cI] at r3
  rw [t4, o4, cI] at r4
  simp only [List.drop_zero, List.drop_succ_cons, List.take_succ_cons, List.take_zero, List.getElem?_cons_zero, List.getElem?_cons_succ] at r0 r1 r2 r3 r4
  have hty : fs.toList.map (·.type) = [9, 3, 26, 3, 3] := by
    have := congrArg (List.map Prod.fst) are
    rw [List.map_map] at this
    exact this
  simp only [DataW.weights, uE, hty, List.map_cons, List.map_nil, DataW.weightsEach, List.all_append, Bool.and_eq_true] at hw
  obtain ⟨w0, _, w2, _⟩ := hw
  obtain ⟨s, a0, b0, _⟩ := DataW.trod_string uS r0
  obtain ⟨kind, a1, _, _⟩ := DataW.trod_int uI r1
  obtain ⟨lo, a3, _, _⟩ := DataW.trod_int uI r3
  obtain ⟨hi, a4, _, _⟩ := DataW.trod_int uI r4
  simp only [List.cons.injEq, and_true] at a0 a1 a3 a4
  subst a0 a1 a3 a4
  have hr := reachBytes_lt
  have hss : s.size ≤ 1000000000000000 := by
    rw [b0] at w0
    simp [DataW.weights] at w0
    omega
  obtain ⟨words, aw, nw, cw, rfl, hws, hwz, hwl⟩ := strs_arg r2 w2
  exact ⟨⟨⟨s, kind, words, lo, hi⟩, aw, nw, cw⟩, rfl, hws, hss, hwl, hwz⟩
theorem isSchema_rows {W : World} {avs : List AttrV} {a : Option Addr} {n c : Nat} (h : IsRows W 5 AttrV.cells avs a n c) (hs : ∀ v ∈ avs, IsStrs W v.x.words v.a v.n v.c) : IsSchema W (avs.map (·.x)) (.agg #[.slice a n c]) := by
  refine ⟨a, n, c, rfl, by simp [h.1], h.2.1, h.2.2.1, fun i hi => ?_⟩
  have hi' : i < avs.length := by simpa using hi
  obtain ⟨b, off, e, hc⟩ := h.2.2.2 i hi'
  refine ⟨b, off, e, ?_⟩
  have hl : (avs[i].cells).length = 5 := rfl
  simp only [List.getElem_map]
  exact ⟨avs[i].a, avs[i].n, avs[i].c, hc 0 (by omega), hc 1 (by omega), hc 2 (by omega), hc 3 (by omega), hc 4 (by omega), hs _ (List.getElem_mem hi')⟩
set_option maxRecDepth 100000 in
/-- An argument of type Schema. -/
theorem schema_arg {H : Type} {enc : TypeId × Value → H} {W : World} {v : Value} {d : DataW H} {p : List MemPlace} {ts : List TypeId} {ds : List (DataW H)} {j : Nat} (h : DataW.Trod enc Tryz.prog W 0 (fun _ => true) true 24 v d p) {base : Nat} (hval : Value.okWide Tryz.prog W .any base 24 v)
    (hs : (DataW.weightsEach Tryz.prog ts ds).all (· ≤ reachBytes) = true) (ht : ts[j]? = some 24) (hd : ds[j]? = some d) : ∃ l : List Attr, IsSchema W l v ∧ (∀ x ∈ l, x.fits) ∧ l.length ≤ 1000000000000000 := by
  have hw : (d.weights Tryz.prog 24).all (· ≤ reachBytes) = true := by
    rw [List.all_eq_true]
    intro n hn
    exact List.all_eq_true.1 hs n (DataW.weights_mem_each ht hd n hn)
  obtain ⟨fs, uE, are⟩ := uSch
  obtain ⟨cs0, rfl, _⟩ := okWide_struct uE hval
  obtain ⟨fuel, hf⟩ := h
  simp only [Value.cells] at hf
  generalize hcs : cs0.toList = cs at hf
  obtain rfl : cs0 = cs.toArray := by rw [← hcs]
  obtain ⟨xs, n, rfl, hx, hlen, hxl, hff⟩ := DataW.trod_struct uE hf
  have e1 : fs.size = 1 := by have := congrArg List.length are; simpa using this
  rw [e1] at hxl
  rw [cSch] at hlen
  obtain ⟨c0, rfl⟩ : ∃ c, cs = [c] := by
    match cs, hlen with
    | [c], _ => exact ⟨c, rfl⟩
  obtain ⟨x0, rfl⟩ : ∃ c, xs = [c] := by
    match xs, hxl with
    | [c], _ => exact ⟨c, rfl⟩
  obtain ⟨f0, g0, t0, o0⟩ := op_field 0 _ _ (by rw [are]; rfl)
  have r0 := hff 0 f0 g0
  rw [t0, o0, cAttrs] at r0
  simp only [List.drop_zero, List.take_succ_cons, List.take_zero, List.getElem?_cons_zero] at r0
  have hty : fs.toList.map (·.type) = [22] := by
    have := congrArg (List.map Prod.fst) are
    rw [List.map_map] at this
    exact this
  have hd' : d = .agg [x0.1] := (Prod.mk.inj hx).1
  rw [hd'] at hw
  simp only [DataW.weights, uE, hty, DataW.weightsEach, List.all_append, Bool.and_eq_true] at hw
  obtain ⟨avs, a, n', c, rfl, h1, h2, h3⟩ := rows_arg AttrV.cells (fun _ => rfl) (by omega) uAttrs cAttr bAttr (by omega) (fun k _ cs x g1 g2 => attr_arg k cs x g1 g2) r0 hw.1
  refine ⟨avs.map (·.x), isSchema_rows h1 fun v hv => (h2 v hv).1, fun x hx => ?_, by simp; rw [← h1.1]; exact h3⟩
  obtain ⟨v, hv, rfl⟩ := List.mem_map.1 hx
  exact (h2 v hv).2
end Go.Proofs.YtfjlglefodndjaaGreatDoor
