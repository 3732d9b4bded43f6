/-
  Texts of the claim, joined: Heap6, Heap7, Ord2, Lay, Iter, Names5.
-/
import Derived.Test.YtfjlglefodndjaaDoorDo15
import Derived.Test.YtfjlglefodndjaaDoorDo02
import Derived.Test.YtfjlglefodndjaaDoorDo03
import Derived.Maps.AppendAt
import Derived.Test.YtfjlglefodndjaaDoorDo10
import Derived.Shelf.SlGeneric
import Derived.Shelf.SlIter.Nil
import Derived.Shelf.SortM.Plain
import Derived.Shelf.SortM.SortNone
import Derived.Ground.GgzProg
import Derived.Ground.SlgmProg
import Derived.Test.YtfjlglefodndjaaDoorProg
import Derived.Test.YtfjlglefodndjaaDoorDo14
namespace Go.Proofs.YtfjlglefodndjaaDoor
open Go.RowKit

theorem elemIdx : ElemT 70 3 (.int .i64 0) 1 8 := ⟨by kernel_rfl, by kernel_rfl, rfl, by omega⟩
/-- A pile, nil or not: block b has the slice v. -/
structure PileV (B b : Nat) (v : Value) (xs : List Int) (w : World) : Prop where
  hB : B ≤ b
  hb : w.heap[b]? = some (.cells #[v] 72 (0, 0))
  own : w.ownsRow B 3 1 v xs.length (xs.map fun z => Value.int .i64 z)
  ne : v.ownBlock ≠ some b
theorem PileV.chg {B b : Nat} {v : Value} {xs : List Int} {w w' : World} {N : List Nat} (h : PileV B b v xs w) (hc : Chg N w w') (h1 : b ∉ N) (h2 : ∀ k, v.ownBlock = some k → k ∉ N) : PileV B b v xs w' := by
  obtain ⟨a1, a2, a3, a4⟩ := h
  refine ⟨a1, hc.blk a2 h1, ?_, a4⟩
  rcases a3 with ⟨l, h0 | ⟨g, cap, cur, e1, e2, e3, r⟩⟩
  · exact ⟨l, Or.inl h0⟩
  · exact ⟨l, Or.inr ⟨g, cap, cur, e1, e2, hc.blk e3 (h2 g (by rw [e1]; rfl)), r⟩⟩
theorem PileV.ext {B b : Nat} {v : Value} {xs : List Int} {w w' : World} (h : PileV B b v xs w) (hx : Ext w w') : PileV B b v xs w' := h.chg (hx.chg []) (by simp) (by simp)
theorem PileV.fresh (w : World) : PileV w.heap.size w.heap.size (.slice none 0 0) [] (w.alloc (.cells #[.slice none 0 0] 72)) :=
  ⟨Nat.le_refl _, heap_alloc_new w _, World.ownsRow_nil _ _ _ _, by simp [Value.ownBlock]⟩
theorem PileV.form {B b : Nat} {v : Value} {xs : List Int} {w : World} (h : PileV B b v xs w) : ∃ a c, v = .slice a xs.length c := by
  rcases h.own.2 with ⟨rfl, h0⟩ | ⟨g, cap, cur, rfl, _⟩
  · exact ⟨none, 0, by rw [h0]⟩
  · exact ⟨_, _, rfl⟩
theorem PileV.g {B b : Nat} {v : Value} {xs : List Int} {w : World} (h : PileV B b v xs w) (hx : 0 < xs.length) : ∃ g cap, v = .slice (some ⟨g, 0, none⟩) xs.length cap ∧ PileG B b g cap xs w := by
  obtain ⟨a1, a2, a3, a4⟩ := h
  rcases a3.2 with ⟨rfl, h0⟩ | ⟨g, cap, cur, rfl, h1, h2, h3, h4, h5, h6⟩
  · omega
  · exact ⟨g, cap, rfl, a1, h1, fun e => a4 (by rw [e]; rfl), a2, cur, h2, h3, h4, by simpa using h5, by simpa using h6⟩
theorem PileG.v {B b g cap : Nat} {xs : List Int} {w : World} (h : PileG B b g cap xs w) : PileV B b (.slice (some ⟨g, 0, none⟩) xs.length cap) xs w := by
  obtain ⟨a1, a2, a3, a4, cur, h2, h3, h4, h5, h6⟩ := h
  refine ⟨a1, a4, ⟨by simp, Or.inr ⟨g, cap, cur, rfl, a2, h2, h3, h4, by simpa using h5, by simpa using h6⟩⟩, fun e => a3 (by simpa [Value.ownBlock] using e)⟩
theorem owns_form {w : World} {base : Nat} {e : TypeId} {size : Nat} {v : Value} {n : Nat} {xs : List Value} (h : w.ownsRow base e size v n xs) : ∃ a c, v = .slice a n c := by
  rcases h.2 with ⟨rfl, h0⟩ | ⟨g, cap, cur, rfl, _⟩
  · exact ⟨none, 0, by rw [h0]⟩
  · exact ⟨_, _, rfl⟩
/-- What a push leaves. -/
def PushQ (B b : Nat) (v : Value) (ok : List Int → Prop) (w : World) (e : Ending) (w' : World) : Prop := e = .returned (.tuple #[]) ∧ ∃ v' ys, ok ys ∧ PileV B b v' ys w' ∧ Chg (b :: rowOf v) w w' ∧ ∀ k, v'.ownBlock = some k → v.ownBlock = some k ∨ w.heap.size ≤ k
set_option maxRecDepth 100000 in
set_option maxHeartbeats 1000000 in
theorem ipush_calls (B b : Nat) (v : Value) (xs : List Int) (z : Int) (w : World) (h : PileV B b v xs w) (hB : B ≤ w.heap.size) (hl : xs.length ≤ 1000000000) :
    Calls Tryd.prog 100 #[.pointer (some ⟨b, 0, none⟩), .iface 3 (.int .i64 z)] w (PushQ B b v (· = xs ++ [z]) w) := by
  have HP := Lib.hid h
  have hb0 := blk_cell h.hb 0
  have hbf := blk_free h.hb 0
  have hlt := blk_lt h.hb
  obtain ⟨a, c, hv⟩ := h.form
  subst hv
  simp at hb0
  have t1 : (Value.iface 3 (.int .i64 z)) = (Value.iface 3 (.int .i64 z)) := rfl
  clear h t1
  obtain ⟨i0, hi, hz0, hz1, hz2⟩ := info_parts elemIdx.info
  have hta : ∀ W : World, (Instr.typeAssert (.iface 3 (.int .i64 z)) 20 3 true).run Tryd.prog W = .ok (.tuple #[.int .i64 z, .bool true]) W := fun W => by kernel_rfl
  go_enter Tryd.func100, Tryd.ntmps100
  go_wp2_with (at_builtin; refine wpList_append_own_at _ rfl _ _ 70 rfl B 3 i0 (.int .i64 0) 1 8 elemIdx.ht hi hz0 hz1 hz2 rfl (by decide) _ xs.length _ rfl (HP.out.own.alloc _) ⟨w.heap.size, 0, none⟩ 1 1 [.int .i64 z] rfl rfl ?c1 ?c2 ?c3 ?c4 ?c5 ?_)
  case c1 => exact cell_one_new _ _ _
  case c2 => simp [Value.oneCell']
  case c3 => unfold maxLen; omega
  case c4 => omega
  case c5 => simp; omega
  intro v' w' hown' hgrow' _ hwhere
  have hbn : some b ≠ (Value.slice a xs.length c).ownBlock := fun e => HP.out.ne e.symm
  have hb' : w'.heap[b]? = some (.cells #[.slice a xs.length c] 72 (0, 0)) := (hgrow'.block b (by simp; omega) hbn).trans (blk_alloc HP.out.hb)
  have hb1 := blk_cell hb' 0
  have hf1 := blk_free hb' 0
  have hl1 := blk_lt hb'
  simp at hb1
  have hvb : v'.ownBlock ≠ some b := by
    rcases hwhere with e | e
    · rw [e]; exact fun h => hbn h.symm
    · rw [e]; simp; omega
  obtain ⟨a', c', hv'⟩ := owns_form hown'
  subst hv'
  have HB1 := Lib.hid hb'
  have HO := Lib.hid hown'
  have HG := Lib.hid hgrow'
  have HW := Lib.hid hwhere
  clear hb' hown' hgrow' hwhere hb0 hbf hta
  go_wp2_with fail
  go_end0
  have hc1 : Chg (rowOf (.slice a xs.length c)) w w' := (((Ext.refl w).alloc _).chg _).then (grown_chg HG.out)
  have hc2 : Chg [b] w' (w'.setCell ⟨b, 0, none⟩ (.slice a' (xs.length + 1) c')) := (Chg.refl _ _).setCell (Or.inl (by simp)) _
  refine ⟨rfl, .slice a' (xs.length + 1) c', xs ++ [z], rfl, ⟨HP.out.hB, ?_, ?_, hvb⟩, ?_, ?_⟩
  · have := heap_setCell_same w' b 0 _ _ (.slice a' (xs.length + 1) c') HB1.out
    simpa using this
  · have := owns_chg HO.out hc2 (fun k hk hm => hvb (by simp at hm; rw [hk, hm]))
    simpa using this
  · refine Chg.trans (Chg.trans (Chg.refl (b :: rowOf (.slice a xs.length c)) w) hc1 (fun x hx => Or.inl (by simp [hx]))) hc2 (fun x hx => Or.inl (by simp at hx; simp [hx]))
  · intro k hk
    rcases HW.out with e | e
    · exact Or.inl (by rw [← e]; exact hk)
    · rw [e] at hk
      simp at hk
      exact Or.inr (by omega)
end Go.Proofs.YtfjlglefodndjaaDoor

namespace Go.Proofs.YtfjlglefodndjaaDoor
open Go.RowKit

theorem getLast_cell {xs : List Int} (hx : 0 < xs.length) : xs.getLast? = some (xs[xs.length - 1]'(by omega)) := by
  rw [List.getLast?_eq_getElem?, List.getElem?_eq_getElem (by omega)]
theorem PileG.pop {B b g cap : Nat} {xs : List Int} {w : World} (h : PileG B b g cap xs w) : PileG B b g cap xs.dropLast (w.setCell ⟨b, 0, none⟩ (.slice (some ⟨g, 0, none⟩) (xs.length - 1) cap)) := by
  obtain ⟨a1, a2, a3, a4, cur, a5, a6, a7, a8, a9⟩ := h
  refine ⟨a1, a2, a3, ?_, cur, ?_, by simp; omega, a7, a8, ?_⟩
  · simp [World.setCell, Array.getElem?_modify, a4]
  · rw [Below.heap_setCell _ _ _ _ (by simpa using a3)]; exact a5
  · have h5 : cur.toList.take (xs.length - 1) = (cur.toList.take xs.length).take (xs.length - 1) := by rw [List.take_take]; congr 1; omega
    simp only [List.length_dropLast]
    rw [h5, a9, ← List.map_take, List.dropLast_eq_take]
/-- What a pop leaves. -/
def PopQ (B b : Nat) (v : Value) (ok : Int → List Int → Prop) (w : World) (e : Ending) (w' : World) : Prop :=
  ∃ z v' ys, e = .returned (.iface 3 (.int .i64 z)) ∧ ok z ys ∧ PileV B b v' ys w' ∧ Chg (b :: rowOf v) w w' ∧ ∀ k, v'.ownBlock = some k → v.ownBlock = some k ∨ w.heap.size ≤ k
set_option maxRecDepth 100000 in
set_option maxHeartbeats 1000000 in
theorem ipop_calls (B b g cap : Nat) (xs : List Int) (w : World) (h : PileG B b g cap xs w) (hx : 0 < xs.length) :
    Calls Tryd.prog 99 #[.pointer (some ⟨b, 0, none⟩)] w (PopQ B b (.slice (some ⟨g, 0, none⟩) xs.length cap) (fun z ys => xs.getLast? = some z ∧ ys = xs.dropLast) w) := by
  have HP := Lib.hid h
  have hh := h.head
  have hf := blk_free h.hb 0
  have hlt := blk_lt h.hb
  have hc := h.cell (i := xs.length - 1) (by omega)
  have hlast := getLast_cell hx
  obtain ⟨n, hn⟩ : ∃ n : Nat, n + 1 = xs.length := ⟨xs.length - 1, by omega⟩
  obtain ⟨cur, hr1, hr2, hr3, hr4, hr5⟩ := h.row
  have hn2 : n + 1 ≤ 9223372036854775807 := by unfold maxLen at hr3; omega
  have hcap : n + 1 ≤ cap := by omega
  have e1 : xs.length - 1 = n := by omega
  have HPL := Lib.hid h.pop
  simp only [e1] at hc hlast
  obtain ⟨z, hz⟩ : ∃ z, z = xs[n]'(by omega) := ⟨_, rfl⟩
  rw [← hz] at hc hlast
  rw [← hn] at hh
  have HLA := Lib.hid hlast
  have HN := Lib.hid hn
  have HN2 := Lib.hid e1
  have q1 : (((n + 1 : Nat) : Int) - 1) = (n : Int) := by omega
  have q2 : ((n : Int) + 1 - 1) = (n : Int) := by omega
  rw [← hn]
  clear h hlast hr1 hr2 hr3 hr4 hr5 hz e1 hn
  go_enter Tryd.func99, Tryd.ntmps99
  go_wp2_with fail
  go_ret
  have hp := HPL.out
  rw [HN2.out] at hp
  have hv := hp.v
  rw [List.length_dropLast, HN2.out] at hv
  exact ⟨z, _, _, rfl, ⟨HLA.out, rfl⟩, hv, (Chg.refl _ _).setCell (Or.inl (by simp)) _, fun k hk => Or.inl hk⟩
set_option maxRecDepth 100000 in
set_option maxHeartbeats 1000000 in
theorem hpush_calls (B b : Nat) (v : Value) (xs : List Int) (z : Int) (w : World) (h : PileV B b v xs w) (hB : B ≤ w.heap.size) (hl : xs.length ≤ 100000000) :
    Calls Tryd.prog 26 #[.iface 69 (.pointer (some ⟨b, 0, none⟩)), .iface 3 (.int .i64 z)] w (PushQ B b v (fun ys => ys.Perm (xs ++ [z])) w) := by
  have ha := fun n => ahead_push n b
  have hm := fun n W => meth_push n b W
  have HP := Lib.hid h
  clear h
  go_enter Tryd.func26, Tryd.ntmps26
  go_wp2_with fail
  refine (ipush_calls B b v xs z w HP.out hB (by omega)).mono ?_
  rintro r w1 ⟨rfl, v1, ys, rfl, hp1, hc1, hw1⟩
  obtain ⟨g, cap, rfl, hg1⟩ := hp1.g (by simp)
  have HG1 := Lib.hid hg1
  have HC1 := Lib.hid hc1
  have HW1 := Lib.hid hw1
  have hh := hg1.head
  obtain ⟨n, hn⟩ : ∃ n : Nat, n = xs.length := ⟨_, rfl⟩
  have e1 : (xs ++ [z]).length = n + 1 := by simp [hn]
  rw [e1] at hh
  have HE := Lib.hid e1
  have hnb : n ≤ 100000000 := by omega
  clear hp1 hg1 hc1 hw1 ha hm e1 hn hl
  have ha := fun n => ahead_len n b
  have hm := fun k => meth_len k b _ w1 hh
  go_wp2_with fail
  refine (ilen_calls _ _ _ _).mono ?_
  rintro r w2 ⟨rfl, rfl⟩
  have q1 : (((n + 1 : Nat) : Int) - 1) = (n : Int) := by omega
  have q2 : ((n : Int) + 1 - 1) = (n : Int) := by omega
  clear ha hm
  go_wp2_with fail
  refine (up_calls B b g cap _ _ HG1.out n (by rw [HE.out]; omega)).mono ?_
  rintro r w3 ⟨rfl, ys, hy, hp3, hc3⟩
  have HP3 := Lib.hid hp3
  have HC3 := Lib.hid hc3
  have HY := Lib.hid hy
  clear hp3 hc3 hy
  go_wp2_with fail
  go_end0
  refine ⟨rfl, _, ys, HY.out, HP3.out.v, Chg.trans HC1.out HC3.out (fun x hx => ?_), fun k hk => ?_⟩
  · simp only [List.mem_singleton] at hx
    subst hx
    rcases HW1.out x rfl with e | e
    · exact Or.inl (List.mem_cons_of_mem _ (mem_rowOf.2 e))
    · exact Or.inr e
  · exact HW1.out k hk
set_option maxRecDepth 100000 in
set_option maxHeartbeats 1000000 in
theorem hpop_calls (B b : Nat) (v : Value) (xs : List Int) (w : World) (h : PileV B b v xs w) (hx : 0 < xs.length) (hl : xs.length ≤ 100000000) :
    Calls Tryd.prog 28 #[.iface 69 (.pointer (some ⟨b, 0, none⟩))] w (PopQ B b v (fun z ys => xs.Perm (z :: ys)) w) := by
  obtain ⟨g, cap, rfl, hg⟩ := h.g hx
  have HG := Lib.hid hg
  have hh := hg.head
  obtain ⟨n, hn⟩ : ∃ n : Nat, n + 1 = xs.length := ⟨xs.length - 1, by omega⟩
  rw [← hn] at hh ⊢
  have HN := Lib.hid hn
  have hnb : n ≤ 100000000 := by omega
  have hn0 : 0 < xs.length := hx
  have hnn : n < xs.length := by omega
  clear h hg hn hx hl
  have ha := fun n => ahead_len n b
  have hm := fun k => meth_len k b _ w hh
  have q1 : (((n + 1 : Nat) : Int) - 1) = (n : Int) := by omega
  have q2 : ((n : Int) + 1 - 1) = (n : Int) := by omega
  go_enter Tryd.func28, Tryd.ntmps28
  go_wp2_with fail
  refine (ilen_calls _ _ _ _).mono ?_
  rintro r w1 ⟨rfl, rfl⟩
  clear ha hm
  have ha := fun n => ahead_swap n b
  have hm := fun k => meth_swap k b _ w hh
  go_wp2_with fail
  refine (iswap_calls g (n + 1) cap 0 n xs[0] xs[n] w (by omega) (by omega) (HG.out.cell hn0) (HG.out.cell hnn) HG.out.free).mono ?_
  rintro r w2 ⟨rfl, q, rfl⟩
  obtain ⟨hp2, hc2⟩ := HG.out.swap hn0 hnn q
  generalize ((w.setCell ⟨g, 0, none⟩ (.int .i64 xs[n])).setCell ⟨g, n, none⟩ (.int .i64 xs[0])).drewN q = w2 at *
  have HP2 := Lib.hid hp2
  have HC2 := Lib.hid hc2
  have HY2 := Lib.hid (show ((xs.set 0 xs[n]).set n xs[0]).Perm xs from List.set_set_perm hn0 hnn)
  have HL2 := Lib.hid (show n + 1 = ((xs.set 0 xs[n]).set n xs[0]).length by simp; exact HN.out)
  generalize (xs.set 0 xs[n]).set n xs[0] = ys at *
  clear hp2 hc2 ha hm hh
  go_wp2_with fail
  refine (down_calls B b g cap ys w2 HP2.out n HL2.out (by omega)).mono ?_
  rintro r w3 ⟨⟨u, rfl⟩, zs, hzy, _, hp3, hc3⟩
  have HP3 := Lib.hid hp3
  have HC3 := Lib.hid hc3
  have HZY := Lib.hid hzy
  have HL3 := Lib.hid (show zs.length = n + 1 by rw [hzy.length_eq]; exact HL2.out.symm)
  have ha := fun n => ahead_pop n b
  have hm := fun n W => meth_pop n b W
  clear hp3 hc3 hzy
  go_wp2_with fail
  refine (ipop_calls B b g cap zs _ HP3.out (by rw [HL3.out]; omega)).mono ?_
  rintro r w4 ⟨z, v', us, rfl, ⟨hla, rfl⟩, hp4, hc4, hw4⟩
  have HP4 := Lib.hid hp4
  have HC4 := Lib.hid hc4
  have HW4 := Lib.hid hw4
  have HLA := Lib.hid hla
  clear hp4 hc4 hw4 hla ha hm
  go_wp2_with fail
  go_ret
  refine ⟨z, v', _, rfl, ?_, HP4.out, ?_, fun k hk => ?_⟩
  · refine (HY2.out.symm.trans HZY.out.symm).trans ?_
    have e : zs.dropLast ++ [z] = zs := by
      have := HLA.out
      rw [List.getLast?_eq_some_iff] at this
      obtain ⟨us, rfl⟩ := this
      simp
    exact (List.Perm.of_eq e.symm).trans (List.perm_append_singleton _ _)
  · refine ((Chg.trans (Chg.trans (Chg.refl _ _) HC2.out ?_) HC3.out ?_).trans HC4.out ?_)
    · intro x hx; exact Or.inl (by simp at hx; subst hx; simp [rowOf, Value.ownBlock])
    · intro x hx; exact Or.inl (by simp at hx; subst hx; simp [rowOf, Value.ownBlock])
    · intro x hx; exact Or.inl (by simpa [rowOf, Value.ownBlock] using hx)
  · rcases HW4.out k hk with e | e
    · exact Or.inl e
    · have := HC2.out.size
      have := HC3.out.size
      exact Or.inr (by omega)
end Go.Proofs.YtfjlglefodndjaaDoor

namespace Go.Proofs.YtfjlglefodndjaaDoor
open Go.RowKit Go.Maps

/-! What check.Order keeps in memory. Each block has one role. -/
def strF (g : ByteArray → Option Value) : Lit → Option Value
  | .string bs => g ⟨bs.toArray⟩
  | _ => none
def intF (g : Nat → Option Value) : Lit → Option Value
  | .int .i64 z => if 0 ≤ z then g z.toNat else none
  | _ => none
theorem strF_at (g : ByteArray → Option Value) (s : ByteArray) : strF g (.string s.data.toList) = g s := rfl
theorem intF_at (g : Nat → Option Value) (i : Nat) : intF g (.int .i64 i) = g i := by simp [intF]
open Classical in
noncomputable def upS {α : Type} (g : ByteArray → α) (s : ByteArray) (v : α) : ByteArray → α := fun t => if t = s then v else g t
theorem upS_same {α : Type} (g : ByteArray → α) (s : ByteArray) (v : α) : upS g s v s = v := by simp [upS]
theorem upS_other {α : Type} (g : ByteArray → α) {s t : ByteArray} (v : α) (h : t ≠ s) : upS g s v t = g t := by simp [upS, h]
def upN {α : Type} (g : Nat → α) (s : Nat) (v : α) : Nat → α := fun t => if t = s then v else g t
theorem upN_same {α : Type} (g : Nat → α) (s : Nat) (v : α) : upN g s v s = v := by simp [upN]
theorem upN_other {α : Type} (g : Nat → α) {s t : Nat} (v : α) (h : t ≠ s) : upN g s v t = g t := by simp [upN, h]
theorem setF_str (g : ByteArray → Option Value) (s : ByteArray) (v : Option Value) (x : Lit) : setF (strF g) (.string s.data.toList) v x = strF (upS g s v) x := by
  by_cases e : x = .string s.data.toList
  · subst e
    rw [setF_same, strF_at, upS_same]
  · rw [setF_other _ _ e]
    cases x <;> try rfl
    rename_i bs
    simp only [strF]
    rw [upS_other]
    intro h
    apply e
    rw [← h]
theorem setF_int (g : Nat → Option Value) (i : Nat) (v : Option Value) (x : Lit) : setF (intF g) (.int .i64 i) v x = intF (upN g i v) x := by
  by_cases e : x = .int .i64 i
  · subst e
    rw [setF_same, intF_at, upN_same]
  · rw [setF_other _ _ e]
    cases x <;> try rfl
    rename_i k z
    cases k <;> try rfl
    simp only [intF]
    by_cases h0 : 0 ≤ z
    · rw [if_pos h0, if_pos h0, upN_other]
      intro h
      apply e
      congr 1
      omega
    · rw [if_neg h0, if_neg h0]

inductive Role where
  | none | first | users | miss | pile | prow | urow (s : ByteArray) | mset (i : Nat) | out
/-- The state: roles; the set of i lies in block mb i; the users of s are U s, in the slice uv s; the sets are those of S, of which missing has those of D; the set of i has the names M i; the pile pv has R; the order vo has O. -/
structure St where
  ρ : Nat → Role
  mb : Nat → Nat
  uv : ByteArray → Option Value
  U : ByteArray → List Nat
  D : Nat → Prop
  S : Nat → Prop
  M : Nat → ByteArray → Prop
  pv : Value
  R : List Int
  vo : Value
  O : List Nat
open Classical in
noncomputable def memF (M : ByteArray → Prop) : ByteArray → Option Value := fun s => if M s then some (.agg #[]) else none
open Classical in
noncomputable def missF (D : Nat → Prop) (mb : Nat → Nat) : Nat → Option Value := fun i => if D i then some (.map (some (mb i))) else none
def firstF (l : List Dfn) : ByteArray → Option Value := fun s => (firstAt l s).map fun (d : Nat) => Value.int .i64 (d : Int)
def natVs (l : List Nat) : List Value := l.map fun (i : Nat) => Value.int .i64 (i : Int)
structure OB (w0 : World) (l : List Dfn) (bf bu bm bp t : Nat) (s : St) (w : World) : Prop where
  ext : Ext w0 w
  fresh : ∀ k, w.heap.size ≤ k → s.ρ k = .none
  old : ∀ k, k < w0.heap.size → s.ρ k = .none
  rf : s.ρ bf = .first
  hf : MapAt w 9 bf t (strF (firstF l))
  ru : s.ρ bu = .users
  hu : MapAt w 9 bu t (strF s.uv)
  rows : ∀ x v, s.uv x = some v → w.ownsRow w0.heap.size 3 1 v (s.U x).length (natVs (s.U x)) ∧ ∀ g, v.ownBlock = some g → s.ρ g = .urow x
  rown : ∀ x, s.uv x = none → s.U x = []
  rm : s.ρ bm = .miss
  hm : MapAt w 3 bm t (intF (missF s.D s.mb))
  dom : ∀ i, s.D i → s.S i
  sets : ∀ i, s.S i → s.ρ (s.mb i) = .mset i ∧ MapAt w 9 (s.mb i) t (strF (memF (s.M i)))
  rp : s.ρ bp = .pile
  hp : PileV w0.heap.size bp s.pv s.R w
  rpv : ∀ g, s.pv.ownBlock = some g → s.ρ g = .prow
  hv : w.ownsRow w0.heap.size 3 1 s.vo s.O.length (natVs s.O)
  rv : ∀ g, s.vo.ownBlock = some g → s.ρ g = .out

section
variable {w0 : World} {l : List Dfn} {bf bu bm bp t : Nat} {s : St} {w w' : World}
/-- Only blocks without a role have changed. -/
theorem OB.chg (h : OB w0 l bf bu bm bp t s w) {N : List Nat} (hc : Chg N w w') (hN : ∀ k ∈ N, s.ρ k = .none) (hN0 : ∀ k ∈ N, w0.heap.size ≤ k) : OB w0 l bf bu bm bp t s w' := by
  have nn : ∀ k r, s.ρ k = r → r ≠ .none → k ∉ N := fun k r h1 h2 h3 => h2 (by rw [← h1]; exact hN k h3)
  exact { h with
    ext := hc.ext h.ext hN0
    fresh := fun k hk => h.fresh k (Nat.le_trans hc.size hk)
    hf := h.hf.chg hc (nn _ _ h.rf (by simp))
    hu := h.hu.chg hc (nn _ _ h.ru (by simp))
    rows := fun x v hv => ⟨owns_chg (h.rows x v hv).1 hc fun g hg => nn _ _ ((h.rows x v hv).2 g hg) (by simp), (h.rows x v hv).2⟩
    hm := h.hm.chg hc (nn _ _ h.rm (by simp))
    sets := fun i hi => ⟨(h.sets i hi).1, (h.sets i hi).2.chg hc (nn _ _ (h.sets i hi).1 (by simp))⟩
    hp := h.hp.chg hc (nn _ _ h.rp (by simp)) fun g hg => nn _ _ (h.rpv g hg) (by simp)
    hv := owns_chg h.hv hc fun g hg => nn _ _ (h.rv g hg) (by simp) }
theorem OB.extd (h : OB w0 l bf bu bm bp t s w) (hx : Ext w w') : OB w0 l bf bu bm bp t s w' := h.chg (hx.chg []) (by simp) (by simp)
theorem OB.more (h : OB w0 l bf bu bm bp t s w) {t' : Nat} (ht : t ≤ t') : OB w0 l bf bu bm bp t' s w :=
  { h with hf := h.hf.more ht, hu := h.hu.more ht, hm := h.hm.more ht, sets := fun i hi => ⟨(h.sets i hi).1, (h.sets i hi).2.more ht⟩ }
/-- A block with a role is new in this call. -/
theorem OB.base (h : OB w0 l bf bu bm bp t s w) {k : Nat} {r : Role} (hk : s.ρ k = r) (hr : r ≠ .none) : w0.heap.size ≤ k := by
  rcases Nat.lt_or_ge k w0.heap.size with h' | h'
  · exact absurd (hk.symm.trans (h.old k h')) hr
  · exact h'
theorem OB.lt (h : OB w0 l bf bu bm bp t s w) {k : Nat} {r : Role} (hk : s.ρ k = r) (hr : r ≠ .none) : k < w.heap.size := by
  rcases Nat.lt_or_ge k w.heap.size with h' | h'
  · exact h'
  · exact absurd (hk.symm.trans (h.fresh k h')) hr
/-- The same roles, seen as apart. -/
theorem apart {ρ : Nat → Role} {a b : Nat} {r q : Role} (ha : ρ a = r) (hb : ρ b = q) (h : r ≠ q) : a ∉ [b] := by
  intro hm
  simp only [List.mem_singleton] at hm
  subst hm
  exact h (ha.symm.trans hb)
/-- A new set for i. -/
def St.newSet (s : St) (i b : Nat) : St := { s with ρ := upN s.ρ b (.mset i), mb := upN s.mb i b, S := fun j => j = i ∨ s.S j, M := upN s.M i fun _ => False }
theorem missF_congr {D : Nat → Prop} {mb mb' : Nat → Nat} (h2 : ∀ i, D i → mb i = mb' i) : missF D mb = missF D mb' := by
  funext i
  unfold missF
  by_cases hd : D i
  · rw [if_pos hd, if_pos hd, h2 i hd]
  · rw [if_neg hd, if_neg hd]
theorem memF_false (s : ByteArray) : memF (fun _ => False) s = none := by simp [memF]
theorem OB.newSet (h : OB w0 l bf bu bm bp t s w) {i : Nat} (hi : ¬ s.S i) : OB w0 l bf bu bm bp t (s.newSet i w.heap.size) (w.alloc (.map #[] 0)) := by
  have h' := h.extd ((Ext.refl w).alloc (.map #[] 0))
  have ne : ∀ k r, s.ρ k = r → r ≠ .none → upN s.ρ w.heap.size (.mset i) k = r := fun k r h1 h2 => by
    rw [upN_other _ _ (fun e => h2 (by rw [← h1, e]; exact h.fresh _ (Nat.le_refl _)))]; exact h1
  exact { h' with
    fresh := fun k hk => by
      simp at hk
      show upN s.ρ w.heap.size (.mset i) k = .none
      rw [upN_other _ _ (by omega)]; exact h.fresh k (by omega)
    old := fun k hk => by
      show upN s.ρ w.heap.size (.mset i) k = .none
      rw [upN_other _ _ (by have := h.ext.size; omega)]; exact h.old k hk
    rf := ne _ _ h.rf (by simp)
    ru := ne _ _ h.ru (by simp)
    rows := fun x v hv => ⟨(h'.rows x v hv).1, fun g hg => ne _ _ ((h'.rows x v hv).2 g hg) (by simp)⟩
    rm := ne _ _ h.rm (by simp)
    hm := by
      have e : missF s.D (upN s.mb i w.heap.size) = missF s.D s.mb := missF_congr fun j hj => upN_other _ _ fun e => hi (by rw [← e]; exact h.dom j hj)
      show MapAt _ _ _ _ (intF (missF s.D (upN s.mb i w.heap.size)))
      rw [e]; exact h'.hm
    dom := fun j hj => Or.inr (h.dom j hj)
    sets := fun j hj => by
      by_cases e : j = i
      · subst e
        refine ⟨?_, ?_⟩
        · show upN s.ρ w.heap.size (.mset j) (upN s.mb j w.heap.size j) = _
          rw [upN_same, upN_same]
        · show MapAt _ _ (upN s.mb j w.heap.size j) _ (strF (memF (upN s.M j (fun _ => False) j)))
          rw [upN_same, upN_same]
          refine ((MapAt.made w _).more (Nat.zero_le t)).congr fun x => ?_
          cases x <;> simp [strF, memF_false]
      · have hj' : s.S j := hj.resolve_left e
        refine ⟨?_, ?_⟩
        · show upN s.ρ w.heap.size (.mset i) (upN s.mb i w.heap.size j) = _
          rw [upN_other s.mb _ e]
          exact ne _ _ (h.sets j hj').1 (by simp)
        · show MapAt _ _ (upN s.mb i w.heap.size j) _ (strF (memF (upN s.M i (fun _ => False) j)))
          rw [upN_other _ _ e, upN_other _ _ e]
          exact (h'.sets j hj').2
    rp := ne _ _ h.rp (by simp)
    rpv := fun g hg => ne _ _ (h.rpv g hg) (by simp)
    rv := fun g hg => ne _ _ (h.rv g hg) (by simp) }
/-- The names of the set of i change. -/
def St.setM (s : St) (i : Nat) (m : ByteArray → Prop) : St := { s with M := upN s.M i m }
theorem OB.setM (h : OB w0 l bf bu bm bp t s w) {i : Nat} (hi : s.S i) {m : ByteArray → Prop} (hc : Chg [s.mb i] w w') (hm : MapAt w' 9 (s.mb i) t (strF (memF m))) : OB w0 l bf bu bm bp t (s.setM i m) w' := by
  have hr := (h.sets i hi).1
  exact { h with
    ext := hc.ext h.ext (fun k hk => by simp only [List.mem_singleton] at hk; subst hk; exact h.base hr (by simp))
    fresh := fun k hk => h.fresh k (Nat.le_trans hc.size hk)
    hf := h.hf.chg hc (apart h.rf hr (by simp))
    hu := h.hu.chg hc (apart h.ru hr (by simp))
    rows := fun x v hv => ⟨owns_chg (h.rows x v hv).1 hc fun g hg => apart ((h.rows x v hv).2 g hg) hr (by simp), (h.rows x v hv).2⟩
    hm := h.hm.chg hc (apart h.rm hr (by simp))
    sets := fun j hj => by
      by_cases e : j = i
      · subst e
        refine ⟨hr, ?_⟩
        show MapAt _ _ _ _ (strF (memF (upN s.M j m j)))
        rw [upN_same]; exact hm
      · refine ⟨(h.sets j hj).1, ?_⟩
        show MapAt _ _ _ _ (strF (memF (upN s.M i m j)))
        rw [upN_other _ _ e]
        exact (h.sets j hj).2.chg hc (apart (h.sets j hj).1 hr (by simpa using e))
    hp := h.hp.chg hc (apart h.rp hr (by simp)) fun g hg => apart (h.rpv g hg) hr (by simp)
    hv := owns_chg h.hv hc fun g hg => apart (h.rv g hg) hr (by simp) }
/-- missing[i] is set. -/
def St.setD (s : St) (i : Nat) : St := { s with D := fun j => j = i ∨ s.D j }
theorem OB.setD (h : OB w0 l bf bu bm bp t s w) {i : Nat} (hi : s.S i) (hc : Chg [bm] w w') (hm : MapAt w' 3 bm (t + 1) (intF (upN (missF s.D s.mb) i (some (.map (some (s.mb i))))))) : OB w0 l bf bu bm bp (t + 1) (s.setD i) w' := by
  have hr := h.rm
  have h1 := h.more (Nat.le_succ t)
  exact { h1 with
    ext := hc.ext h.ext (fun k hk => by simp only [List.mem_singleton] at hk; subst hk; exact h.base hr (by simp))
    fresh := fun k hk => h.fresh k (Nat.le_trans hc.size hk)
    hf := h1.hf.chg hc (apart h.rf hr (by simp))
    hu := h1.hu.chg hc (apart h.ru hr (by simp))
    rows := fun x v hv => ⟨owns_chg (h.rows x v hv).1 hc fun g hg => apart ((h.rows x v hv).2 g hg) hr (by simp), (h.rows x v hv).2⟩
    hm := by
      refine hm.congr fun x => ?_
      have e : upN (missF s.D s.mb) i (some (.map (some (s.mb i)))) = missF (fun j => j = i ∨ s.D j) s.mb := by
        funext j
        by_cases e : j = i
        · subst e; rw [upN_same]; simp [missF]
        · rw [upN_other _ _ e]
          by_cases hd : s.D j <;> simp [missF, e, hd]
      show _ = intF (missF (fun j => j = i ∨ s.D j) s.mb) x
      rw [e]
    dom := fun j hj => by
      rcases hj with rfl | hj
      · exact hi
      · exact h.dom j hj
    sets := fun j hj => ⟨(h1.sets j hj).1, (h1.sets j hj).2.chg hc (apart (h.sets j hj).1 hr (by simp))⟩
    hp := h.hp.chg hc (apart h.rp hr (by simp)) fun g hg => apart (h.rpv g hg) hr (by simp)
    hv := owns_chg h.hv hc fun g hg => apart (h.rv g hg) hr (by simp) }
theorem apart2 {ρ : Nat → Role} {a b : Nat} {v : Value} {r q q' : Role} (ha : ρ a = r) (hb : ρ b = q) (hv : ∀ g, v.ownBlock = some g → ρ g = q') (h : r ≠ q) (h' : r ≠ q') : a ∉ b :: rowOf v := by
  intro hm
  rcases List.mem_cons.1 hm with rfl | hm
  · exact h (ha.symm.trans hb)
  · exact h' (ha.symm.trans (hv a (mem_rowOf.1 hm)))
/-- The roles after a row has moved to a new block. -/
def rerole (ρ : Nat → Role) (v : Value) (r : Role) : Nat → Role := fun k => match v.ownBlock with | some g => if k = g then r else ρ k | none => ρ k
theorem rerole_own (ρ : Nat → Role) {v : Value} {r : Role} {g : Nat} (h : v.ownBlock = some g) : rerole ρ v r g = r := by simp [rerole, h]
theorem rerole_other (ρ : Nat → Role) {v : Value} {r : Role} {k : Nat} (h : ∀ g, v.ownBlock = some g → k ≠ g) : rerole ρ v r k = ρ k := by
  unfold rerole
  cases hv : v.ownBlock with
  | none => rfl
  | some g => simp [h g hv]
/-- A block with another role keeps it: the row lies where it lay, or in a new block. -/
theorem rerole_keep {ρ : Nat → Role} {v v' : Value} {r q : Role} {n k : Nat} (hk : ρ k = q) (hq : q ≠ r) (hq0 : q ≠ .none) (hv : ∀ g, v.ownBlock = some g → ρ g = r) (hfresh : ∀ k, n ≤ k → ρ k = .none) (hw : ∀ g, v'.ownBlock = some g → v.ownBlock = some g ∨ n ≤ g) : rerole ρ v' r k = q := by
  rw [rerole_other, hk]
  intro g hg e
  subst e
  rcases hw k hg with h | h
  · exact hq (hk.symm.trans (hv k h))
  · exact hq0 (hk.symm.trans (hfresh k h))
/-- The pile has changed. -/
def St.setP (s : St) (pv : Value) (R : List Int) : St := { s with ρ := rerole s.ρ pv .prow, pv := pv, R := R }
theorem OB.setP (h : OB w0 l bf bu bm bp t s w) {pv : Value} {R : List Int} (hp : PileV w0.heap.size bp pv R w') (hc : Chg (bp :: rowOf s.pv) w w') (hw : ∀ k, pv.ownBlock = some k → s.pv.ownBlock = some k ∨ w.heap.size ≤ k) : OB w0 l bf bu bm bp t (s.setP pv R) w' := by
  have kp : ∀ {k q}, s.ρ k = q → q ≠ .prow → q ≠ .none → rerole s.ρ pv .prow k = q := fun hk h1 h2 => rerole_keep hk h1 h2 h.rpv h.fresh hw
  have hlt : ∀ g, pv.ownBlock = some g → w0.heap.size ≤ g ∧ g < w'.heap.size := fun g hg => hp.own.lt g hg
  exact { h with
    ext := hc.ext h.ext (fun k hk => by
      rcases List.mem_cons.1 hk with rfl | hk
      · exact h.base h.rp (by simp)
      · exact h.base (h.rpv k (mem_rowOf.1 hk)) (by simp))
    fresh := fun k hk => by
      show rerole s.ρ pv .prow k = .none
      rw [rerole_other _ (fun g hg => by have := (hlt g hg).2; omega)]
      exact h.fresh k (Nat.le_trans hc.size hk)
    old := fun k hk => by
      show rerole s.ρ pv .prow k = .none
      rw [rerole_other _ (fun g hg => by have := (hlt g hg).1; omega)]
      exact h.old k hk
    rf := kp h.rf (by simp) (by simp)
    hf := h.hf.chg hc (apart2 h.rf h.rp h.rpv (by simp) (by simp))
    ru := kp h.ru (by simp) (by simp)
    hu := h.hu.chg hc (apart2 h.ru h.rp h.rpv (by simp) (by simp))
    rows := fun x v hv => ⟨owns_chg (h.rows x v hv).1 hc fun g hg => apart2 ((h.rows x v hv).2 g hg) h.rp h.rpv (by simp) (by simp), fun g hg => kp ((h.rows x v hv).2 g hg) (by simp) (by simp)⟩
    rm := kp h.rm (by simp) (by simp)
    hm := h.hm.chg hc (apart2 h.rm h.rp h.rpv (by simp) (by simp))
    sets := fun j hj => ⟨kp (h.sets j hj).1 (by simp) (by simp), (h.sets j hj).2.chg hc (apart2 (h.sets j hj).1 h.rp h.rpv (by simp) (by simp))⟩
    rp := kp h.rp (by simp) (by simp)
    hp := hp
    rpv := fun g hg => rerole_own _ hg
    hv := owns_chg h.hv hc fun g hg => apart2 (h.rv g hg) h.rp h.rpv (by simp) (by simp)
    rv := fun g hg => kp (h.rv g hg) (by simp) (by simp) }
theorem apartV {ρ : Nat → Role} {a : Nat} {v : Value} {r q : Role} (ha : ρ a = r) (hv : ∀ g, v.ownBlock = some g → ρ g = q) (h : r ≠ q) : a ∉ rowOf v := fun hm => h (ha.symm.trans (hv a (mem_rowOf.1 hm)))
/-- The order grows. -/
def St.setO (s : St) (vo : Value) (O : List Nat) : St := { s with ρ := rerole s.ρ vo .out, vo := vo, O := O }
theorem OB.setO (h : OB w0 l bf bu bm bp t s w) {vo : Value} {O : List Nat} (hv : w'.ownsRow w0.heap.size 3 1 vo O.length (natVs O)) (hc : Chg (rowOf s.vo) w w') (hw : ∀ k, vo.ownBlock = some k → s.vo.ownBlock = some k ∨ w.heap.size ≤ k) : OB w0 l bf bu bm bp t (s.setO vo O) w' := by
  have kp : ∀ {k q}, s.ρ k = q → q ≠ .out → q ≠ .none → rerole s.ρ vo .out k = q := fun hk h1 h2 => rerole_keep hk h1 h2 h.rv h.fresh hw
  have hlt : ∀ g, vo.ownBlock = some g → w0.heap.size ≤ g ∧ g < w'.heap.size := fun g hg => hv.lt g hg
  exact { h with
    ext := hc.ext h.ext (fun k hk => h.base (h.rv k (mem_rowOf.1 hk)) (by simp))
    fresh := fun k hk => by
      show rerole s.ρ vo .out k = .none
      rw [rerole_other _ (fun g hg => by have := (hlt g hg).2; omega)]
      exact h.fresh k (Nat.le_trans hc.size hk)
    old := fun k hk => by
      show rerole s.ρ vo .out k = .none
      rw [rerole_other _ (fun g hg => by have := (hlt g hg).1; omega)]
      exact h.old k hk
    rf := kp h.rf (by simp) (by simp)
    hf := h.hf.chg hc (apartV h.rf h.rv (by simp))
    ru := kp h.ru (by simp) (by simp)
    hu := h.hu.chg hc (apartV h.ru h.rv (by simp))
    rows := fun x v hv' => ⟨owns_chg (h.rows x v hv').1 hc fun g hg => apartV ((h.rows x v hv').2 g hg) h.rv (by simp), fun g hg => kp ((h.rows x v hv').2 g hg) (by simp) (by simp)⟩
    rm := kp h.rm (by simp) (by simp)
    hm := h.hm.chg hc (apartV h.rm h.rv (by simp))
    sets := fun j hj => ⟨kp (h.sets j hj).1 (by simp) (by simp), (h.sets j hj).2.chg hc (apartV (h.sets j hj).1 h.rv (by simp))⟩
    rp := kp h.rp (by simp) (by simp)
    hp := h.hp.chg hc (apartV h.rp h.rv (by simp)) fun g hg => apartV (h.rpv g hg) h.rv (by simp)
    rpv := fun g hg => kp (h.rpv g hg) (by simp) (by simp)
    hv := hv
    rv := fun g hg => rerole_own _ hg }
/-- users[x] has grown: its row first, then the map. -/
noncomputable def St.setU (s : St) (x : ByteArray) (v : Value) (u : List Nat) : St := { s with ρ := rerole s.ρ v (.urow x), uv := upS s.uv x (some v), U := upS s.U x u }
def rowV (s : St) (x : ByteArray) : Value := (s.uv x).getD (.slice none 0 0)
theorem OB.rowV_role (h : OB w0 l bf bu bm bp t s w) (x : ByteArray) : ∀ g, (rowV s x).ownBlock = some g → s.ρ g = .urow x := by
  intro g hg
  unfold rowV at hg
  cases hu : s.uv x with
  | none => rw [hu] at hg; simp [Value.ownBlock] at hg
  | some v => rw [hu] at hg; exact (h.rows x v hu).2 g hg
theorem OB.rowV_own (h : OB w0 l bf bu bm bp t s w) (x : ByteArray) : w.ownsRow w0.heap.size 3 1 (rowV s x) (s.U x).length (natVs (s.U x)) := by
  unfold rowV
  cases hu : s.uv x with
  | none => rw [h.rown x hu]; exact World.ownsRow_nil _ _ _ _
  | some v => exact (h.rows x v hu).1
theorem OB.setU (h : OB w0 l bf bu bm bp t s w) {x : ByteArray} {v : Value} {u : List Nat} {w1 : World} (hv : w1.ownsRow w0.heap.size 3 1 v u.length (natVs u)) (hc : Chg (rowOf (rowV s x)) w w1) (hw : ∀ k, v.ownBlock = some k → (rowV s x).ownBlock = some k ∨ w.heap.size ≤ k)
    (hc2 : Chg [bu] w1 w') (hm : MapAt w' 9 bu (t + 1) (strF (upS s.uv x (some v)))) : OB w0 l bf bu bm bp (t + 1) (s.setU x v u) w' := by
  have hR := h.rowV_role x
  have kp : ∀ {k q}, s.ρ k = q → q ≠ .urow x → q ≠ .none → rerole s.ρ v (.urow x) k = q := fun hk h1 h2 => rerole_keep hk h1 h2 hR h.fresh hw
  have hlt : ∀ g, v.ownBlock = some g → w0.heap.size ≤ g ∧ g < w1.heap.size := fun g hg => hv.lt g hg
  have hbu : ∀ g, v.ownBlock = some g → g ∉ [bu] := fun g hg hm => by
    simp only [List.mem_singleton] at hm
    subst hm
    rcases hw g hg with h1 | h1
    · exact absurd (h.ru.symm.trans (hR g h1)) (by simp)
    · exact absurd (h.ru.symm.trans (h.fresh g h1)) (by simp)
  have hcc : Chg (bu :: rowOf (rowV s x)) w w' := Chg.trans (Chg.trans (Chg.refl _ _) hc (fun k hk => Or.inl (List.mem_cons_of_mem _ hk))) hc2 (fun k hk => Or.inl (by simp only [List.mem_singleton] at hk; simp [hk]))
  have h1 := h.more (Nat.le_succ t)
  exact { h1 with
    ext := hcc.ext h.ext (fun k hk => by
      rcases List.mem_cons.1 hk with rfl | hk
      · exact h.base h.ru (by simp)
      · exact h.base (hR k (mem_rowOf.1 hk)) (by simp))
    fresh := fun k hk => by
      show rerole s.ρ v (.urow x) k = .none
      have := hc2.size
      rw [rerole_other _ (fun g hg => by have := (hlt g hg).2; omega)]
      exact h.fresh k (Nat.le_trans hcc.size hk)
    old := fun k hk => by
      show rerole s.ρ v (.urow x) k = .none
      rw [rerole_other _ (fun g hg => by have := (hlt g hg).1; omega)]
      exact h.old k hk
    rf := kp h.rf (by simp) (by simp)
    hf := h1.hf.chg hcc (apart2 h.rf h.ru hR (by simp) (by simp))
    ru := kp h.ru (by simp) (by simp)
    hu := hm
    rows := fun y u' hy => by
      by_cases e : y = x
      · subst e
        have e1 : upS s.uv y (some v) y = some v := upS_same _ _ _
        have e2 : some v = some u' := e1.symm.trans hy
        cases e2
        refine ⟨?_, fun g hg => rerole_own _ hg⟩
        show World.ownsRow _ _ _ _ _ (upS s.U y u y).length (natVs (upS s.U y u y))
        rw [upS_same]
        exact owns_chg hv hc2 hbu
      · have e1 : s.uv y = some u' := (upS_other s.uv (some v) e).symm.trans hy
        obtain ⟨r1, r2⟩ := h.rows y u' e1
        refine ⟨?_, fun g hg => kp (r2 g hg) (by simpa using e) (by simp)⟩
        show World.ownsRow _ _ _ _ _ (upS s.U x u y).length (natVs (upS s.U x u y))
        rw [upS_other _ _ e]
        exact owns_chg r1 hcc fun g hg => apart2 (r2 g hg) h.ru hR (by simp) (by simpa using e)
    rown := fun y hy => by
      by_cases e : y = x
      · subst e
        have e1 : upS s.uv y (some v) y = some v := upS_same _ _ _
        have e2 : some v = none := e1.symm.trans hy
        cases e2
      · have e1 : s.uv y = none := (upS_other s.uv (some v) e).symm.trans hy
        show upS s.U x u y = []
        rw [upS_other _ _ e]
        exact h.rown y e1
    rm := kp h.rm (by simp) (by simp)
    hm := h1.hm.chg hcc (apart2 h.rm h.ru hR (by simp) (by simp))
    sets := fun j hj => ⟨kp (h.sets j hj).1 (by simp) (by simp), (h1.sets j hj).2.chg hcc (apart2 (h.sets j hj).1 h.ru hR (by simp) (by simp))⟩
    rp := kp h.rp (by simp) (by simp)
    hp := h.hp.chg hcc (apart2 h.rp h.ru hR (by simp) (by simp)) fun g hg => apart2 (h.rpv g hg) h.ru hR (by simp) (by simp)
    rpv := fun g hg => kp (h.rpv g hg) (by simp) (by simp)
    hv := owns_chg h.hv hcc fun g hg => apart2 (h.rv g hg) h.ru hR (by simp) (by simp)
    rv := fun g hg => kp (h.rv g hg) (by simp) (by simp) }
end
end Go.Proofs.YtfjlglefodndjaaDoor

/-
  DERIVED: THE SHELF's CONTRACTS AT THIS DUMP, IN PLAIN WORDS (tools/lay-plain.mjs out of 'TrydLay.lean', which tools/lay-shelf.mjs wrote): THE SAME DECLARATIONS UNDER THE SAME NAMES: 'import', 'namespace', 'open', 'def', 'theorem' AND NOTHING ELSE: no command of the shelf's: FOR A HAND-IN. Each laying: the table of numbers ('.._ren') and one theorem, a field a fact of the dump's own or the kernel's comparison; each contract: ONE APPLICATION.
-/
namespace Go.Proofs
open Go.Shelf
def Tryd.keys42_ren : Go.Shelf.Ren := ⟨fun | 7 => 39 | 10 => 52 | n => n, fun | 23 => 75 | 26 => 9 | 3 => 77 | 28 => 94 | 0 => 0 | 27 => 93 | 33 => 58 | 4 => 4 | n => n, fun | n => n⟩
theorem Tryd.keys42 : Go.Proofs.SlLaysZ.n7 Tryd.prog Tryd.keys42_ren := {
  mixed := by kernel_rfl
  f7 := ⟨Tryd.f39.name, by decide, Tryd.func39.trans (congrArg some (by kernel_rfl))⟩
  f10 := ⟨Tryd.f52.name, by decide, Tryd.func52.trans (congrArg some (by kernel_rfl))⟩
  t0 := Tryd.underlying0
  a0 := Tryd.isAgg0
  z0 := Tryd.sizeOf0
  v0 := Tryd.zeroValue0
  t4 := Tryd.underlying4
  a4 := Tryd.isAgg4
  z4 := Tryd.sizeOf4
  v4 := Tryd.zeroValue4
  t23 := Tryd.underlying75
  a23 := Tryd.isAgg75
  z23 := Tryd.sizeOf75
  v23 := Tryd.zeroValue75
  t26 := Tryd.underlying9
  a26 := Tryd.isAgg9
  z26 := Tryd.sizeOf9
  v26 := Tryd.zeroValue9
  t27 := Tryd.underlying93
  a27 := Tryd.isAgg93
  z27 := Tryd.sizeOf93
  v27 := Tryd.zeroValue93
  t28 := Tryd.underlying94
  a28 := Tryd.isAgg94
  z28 := Tryd.sizeOf94
  v28 := Tryd.zeroValue94
  t33 := Tryd.underlying58
  a33 := Tryd.isAgg58
  z33 := Tryd.sizeOf58
  v33 := Tryd.zeroValue58 }
def Tryd.sorted41_ren : Go.Shelf.Ren := ⟨fun | 6 => 38 | 8 => 50 | 9 => 51 | 11 => 59 | 13 => 61 | 12 => 60 | 23 => 73 | 24 => 74 | 14 => 64 | 15 => 65 | 16 => 66 | 17 => 67 | 18 => 68 | 19 => 69 | 20 => 70 | 21 => 71 | 22 => 72 | 25 => 75 | 26 => 76 | 27 => 77 | 28 => 78 | 29 => 79 | 30 => 80 | 31 => 81 | n => n, fun | 26 => 9 | 28 => 94 | 24 => 22 | 0 => 0 | 3 => 3 | 37 => 120 | 48 => 135 | 50 => 137 | 4 => 4 | 40 => 128 | 39 => 127 | 45 => 59 | 5 => 5 | 9 => 9 | 51 => 138 | 55 => 110 | 57 => 143 | 58 => 144 | 33 => 58 | n => n, fun | n => n⟩
theorem Tryd.sorted41 : Go.Proofs.SlLaysZ.n6 Tryd.prog Tryd.sorted41_ren := {
  mixed := by kernel_rfl
  f6 := ⟨Tryd.f38.name, by decide, Tryd.func38.trans (congrArg some (by kernel_rfl))⟩
  f8 := ⟨Tryd.f50.name, by decide, Tryd.func50.trans (congrArg some (by kernel_rfl))⟩
  f11 := ⟨Tryd.f59.name, by decide, Tryd.func59.trans (congrArg some (by kernel_rfl))⟩
  t0 := Tryd.underlying0
  a0 := Tryd.isAgg0
  z0 := Tryd.sizeOf0
  v0 := Tryd.zeroValue0
  t24 := Tryd.underlying22
  a24 := Tryd.isAgg22
  z24 := Tryd.sizeOf22
  v24 := Tryd.zeroValue22
  t26 := Tryd.underlying9
  a26 := Tryd.isAgg9
  z26 := Tryd.sizeOf9
  v26 := Tryd.zeroValue9
  t28 := Tryd.underlying94
  a28 := Tryd.isAgg94
  z28 := Tryd.sizeOf94
  v28 := Tryd.zeroValue94
  i26 := by kernel_rfl }
def Tryd.sort61_ren : Go.Shelf.Ren := ⟨fun | 6 => 51 | 8 => 61 | 9 => 60 | 19 => 73 | 20 => 74 | 21 => 64 | 22 => 65 | 23 => 66 | 24 => 67 | 25 => 68 | 26 => 69 | 27 => 70 | 28 => 71 | 29 => 72 | 36 => 75 | 31 => 76 | 32 => 77 | 37 => 78 | 38 => 79 | 39 => 80 | 41 => 81 | n => n, fun | 27 => 22 | 29 => 9 | 3 => 3 | 32 => 120 | 26 => 22 | 0 => 0 | 44 => 135 | 46 => 137 | 4 => 4 | 36 => 128 | 35 => 127 | 41 => 59 | 5 => 5 | 9 => 9 | 53 => 138 | 57 => 110 | 63 => 143 | 64 => 144 | n => n, fun | n => n⟩
theorem Tryd.sort61 : Go.Proofs.SlLaysM.n6 Tryd.prog Tryd.sort61_ren := {
  mixed := by kernel_rfl
  f6 := ⟨Tryd.f51.name, by decide, Tryd.func51.trans (congrArg some (by kernel_rfl))⟩
  f8 := Tryd.func61.trans (congrArg some (by kernel_rfl))
  f9 := ⟨Tryd.f60.name, by decide, Tryd.func60.trans (congrArg some (by kernel_rfl))⟩
  f19 := Tryd.func73.trans (congrArg some (by kernel_rfl))
  f20 := Tryd.func74.trans (congrArg some (by kernel_rfl))
  f21 := ⟨Tryd.f64.name, by decide, Tryd.func64.trans (congrArg some (by kernel_rfl))⟩
  f22 := ⟨Tryd.f65.name, by decide, Tryd.func65.trans (congrArg some (by kernel_rfl))⟩
  f23 := ⟨Tryd.f66.name, by decide, Tryd.func66.trans (congrArg some (by kernel_rfl))⟩
  f24 := ⟨Tryd.f67.name, by decide, Tryd.func67.trans (congrArg some (by kernel_rfl))⟩
  f25 := ⟨Tryd.f68.name, by decide, Tryd.func68.trans (congrArg some (by kernel_rfl))⟩
  f26 := ⟨Tryd.f69.name, by decide, Tryd.func69.trans (congrArg some (by kernel_rfl))⟩
  f27 := ⟨Tryd.f70.name, by decide, Tryd.func70.trans (congrArg some (by kernel_rfl))⟩
  f28 := ⟨Tryd.f71.name, by decide, Tryd.func71.trans (congrArg some (by kernel_rfl))⟩
  f29 := ⟨Tryd.f72.name, by decide, Tryd.func72.trans (congrArg some (by kernel_rfl))⟩
  f31 := Tryd.func76.trans (congrArg some (by kernel_rfl))
  f32 := Tryd.func77.trans (congrArg some (by kernel_rfl))
  f36 := ⟨Tryd.f75.name, by decide, Tryd.func75.trans (congrArg some (by kernel_rfl))⟩
  f37 := ⟨Tryd.f78.name, by decide, Tryd.func78.trans (congrArg some (by kernel_rfl))⟩
  f38 := ⟨Tryd.f79.name, by decide, Tryd.func79.trans (congrArg some (by kernel_rfl))⟩
  f39 := ⟨Tryd.f80.name, by decide, Tryd.func80.trans (congrArg some (by kernel_rfl))⟩
  f41 := ⟨Tryd.f81.name, by decide, Tryd.func81.trans (congrArg some (by kernel_rfl))⟩
  t0 := Tryd.underlying0
  a0 := Tryd.isAgg0
  z0 := Tryd.sizeOf0
  v0 := Tryd.zeroValue0
  t3 := Tryd.underlying3
  a3 := Tryd.isAgg3
  z3 := Tryd.sizeOf3
  v3 := Tryd.zeroValue3
  t4 := Tryd.underlying4
  a4 := Tryd.isAgg4
  z4 := Tryd.sizeOf4
  v4 := Tryd.zeroValue4
  t5 := Tryd.underlying5
  a5 := Tryd.isAgg5
  z5 := Tryd.sizeOf5
  v5 := Tryd.zeroValue5
  t9 := Tryd.underlying9
  a9 := Tryd.isAgg9
  z9 := Tryd.sizeOf9
  v9 := Tryd.zeroValue9
  t26 := Tryd.underlying22
  a26 := Tryd.isAgg22
  z26 := Tryd.sizeOf22
  v26 := Tryd.zeroValue22
  t27 := Tryd.underlying22
  a27 := Tryd.isAgg22
  z27 := Tryd.sizeOf22
  v27 := Tryd.zeroValue22
  t29 := Tryd.underlying9
  a29 := Tryd.isAgg9
  z29 := Tryd.sizeOf9
  v29 := Tryd.zeroValue9
  t32 := Tryd.underlying120
  a32 := Tryd.isAgg120
  z32 := Tryd.sizeOf120
  v32 := Tryd.zeroValue120
  t35 := Tryd.underlying127
  a35 := Tryd.isAgg127
  z35 := Tryd.sizeOf127
  v35 := Tryd.zeroValue127
  t36 := Tryd.underlying128
  a36 := Tryd.isAgg128
  z36 := Tryd.sizeOf128
  v36 := Tryd.zeroValue128
  t41 := Tryd.underlying59
  a41 := Tryd.isAgg59
  z41 := Tryd.sizeOf59
  v41 := Tryd.zeroValue59
  t44 := Tryd.underlying135
  a44 := Tryd.isAgg135
  z44 := Tryd.sizeOf135
  v44 := Tryd.zeroValue135
  t46 := Tryd.underlying137
  a46 := Tryd.isAgg137
  z46 := Tryd.sizeOf137
  v46 := Tryd.zeroValue137
  t53 := Tryd.underlying138
  a53 := Tryd.isAgg138
  z53 := Tryd.sizeOf138
  v53 := Tryd.zeroValue138
  t57 := Tryd.underlying110
  a57 := Tryd.isAgg110
  z57 := Tryd.sizeOf110
  v57 := Tryd.zeroValue110
  t63 := Tryd.underlying143
  a63 := Tryd.isAgg143
  z63 := Tryd.sizeOf143
  v63 := Tryd.zeroValue143
  t64 := Tryd.underlying144
  a64 := Tryd.isAgg144
  z64 := Tryd.sizeOf144
  v64 := Tryd.zeroValue144 }
end Go.Proofs

/-
  slices.Sorted(maps.Keys(m)) at this program: the shelf's contracts, as lay-iter.mjs lays them.
-/
namespace Go.Proofs
open Go.RowKit Go.Maps Go.Sort Go.Shelf

theorem Tryd.sorts41 (m : Nat) : AnyZ.SortsIn Tryd.prog Tryd.sorted41_ren Fence.wide m :=
  ⟨fun blk off cap ss W hH hblk hsz => callsIn_wide.2 (AnyM.slices_Sort_string Tryd.sort61 blk off cap ss W hH hblk hsz),
   fun p cap W => callsIn_wide.2 (AnyM.slices_Sort_string_none Tryd.sort61 p cap W)⟩

theorem Tryd.maps_Keys_42 (mb : Option Nat) (W : World) : CallsIn Fence.wide 5 Tryd.prog 39 #[.map mb] W fun e w' => e = .returned (.func (.func 52) #[] #[.pointer (some ⟨W.heap.size, 0, none⟩)]) ∧ w' = W.alloc (.cells #[.map mb] 75) :=
  AnyZ.keys_in Tryd.keys42 Fence.wide 5 trivial rfl mb W

set_option maxHeartbeats 1000000 in
theorem Tryd.slices_Sorted_keys_41_42 {H : Type} (b nn : Nat) (D0 : DataW H) (R : Value → Option (DataW H × List MemPlace)) (w : World) (hown : w.ownsMap Tryd.prog 9 R b nn D0) (hmax : Maps.size D0 ≤ maxLen) (hbytes : Maps.size D0 * 16 ≤ 140737488355328) :
    CallsIn Fence.wide 5 Tryd.prog 38 #[.func (.func 52) #[] #[.pointer (some ⟨w.heap.size, 0, none⟩)]] (w.alloc (.cells #[.map (some b)] 75)) fun e w' => ∃ (v : Value) (ss : List (List UInt8)), e = .returned v ∧ ss.Perm (strKeys D0) ∧
      w'.ownsRow (w.alloc (.cells #[.map (some b)] 75)).heap.size 9 1 v ss.length ((ss.mergeSort (fun x y => decide (x ≤ y))).map encStr) ∧ (v = .slice none 0 0 ↔ ss = []) ∧ Below (w.alloc (.cells #[.map (some b)] 75)).heap.size (w.alloc (.cells #[.map (some b)] 75)) w' := by
  have hbl := hown.lt
  have hseq : SeqGives Fence.wide 2 Tryd.prog 52 #[.pointer (some ⟨w.heap.size, 0, none⟩)] encStr (fun ss => ss.Perm (strKeys D0)) (Maps.size D0) (w.alloc (.cells #[.map (some b)] 75)) :=
    AnyZ.keys_gives (ρ := Tryd.keys42_ren) { Tryd.keys42 with } Fence.wide _ trivial rfl (by omega) w.heap.size b nn D0 _ (by simp) (by simp) (by
      obtain ⟨es, clock, hb, Ft, hs, hD⟩ := hown
      exact ⟨es, clock, (Below.heap_alloc _ _ b hbl).trans hb, Ft, hs, hD⟩)
  exact AnyZ.sorted_in Tryd.sorted41 Fence.wide 5 trivial trivial trivial trivial rfl (by omega) (Tryd.sorts41 _) (enters_of Tryd.func51 (by kernel_rfl) rfl) 52 #[.pointer (some ⟨w.heap.size, 0, none⟩)] trivial (enters_of Tryd.func52 (by kernel_rfl) rfl) _ _ hmax hbytes _ hseq

end Go.Proofs

namespace Go.Proofs.YtfjlglefodndjaaDoor
open Go.RowKit Go.Maps Go.Sort Go.Shelf

theorem strs_of_row {w : World} {base : Nat} {l : List ByteArray} {v : Value} {n : Nat} (h : w.ownsRow base 9 1 v n ((l.map (·.data.toList)).map encStr)) (hn : n = l.length) : ∃ a c, v = .slice a l.length c ∧ IsStrs w l a l.length c := by
  subst hn
  have e : (l.map (·.data.toList)).map encStr = l.flatMap strCells := by
    clear h
    induction l with
    | nil => rfl
    | cons x r ih => simp only [List.map_cons, ih, List.flatMap_cons, strCells]; rfl
  rw [e] at h
  obtain ⟨a, c, h1, _, h2⟩ := strs_of_owns h [] (by simp)
  exact ⟨a, c, h1, h2⟩

theorem size_owned {w : World} {b n : Nat} {D : DataW Unit} {R : Value → Option (DataW Unit × List MemPlace)} (h : w.ownsMap Tryd.prog 9 R b n D) : Maps.size D ≤ n := by
  obtain ⟨es, clock, _, _, hs, rfl⟩ := h
  simp only [Maps.size]
  rw [length_sorted]
  simpa using hs

def PutQF (l : List ByteArray) (w : World) (e : Ending) (w' : World) : Prop := ∃ (a : Option Addr) (c : Nat), e = .returned (.slice a l.length c) ∧ IsStrs w' l a l.length c ∧ Ext w w' ∧ ∀ b off, a = some ⟨b, off, none⟩ → w.heap.size ≤ b
set_option maxRecDepth 100000 in
set_option maxHeartbeats 4000000 in
/-- Names hands back the names in ascending order, each once, in a row of its own. -/
theorem synNamesF_calls (e : Ex) (v : Value) (w : World) (hs : e.size ≤ 900000) (hf : e.fits) (he : IsEx w e v) : Calls Tryd.prog 25 #[v] w (PutQF (refNames (namesE e)) w) := by
  obtain ⟨aw, nw, cw, aa, na, ca, rfl, -, -, -, -, -⟩ := he.parts
  have HX := Lib.hid (((Ext.refl w).alloc (.cells #[.int .i64 e.op, .string e.name, .slice aw nw cw, .int .i64 e.lo, .int .i64 e.hi, .slice aa na ca] 25)).alloc (.map #[] 0))
  have HSET := Lib.hid (show SetAt ((w.alloc (.cells #[.int .i64 e.op, .string e.name, .slice aw nw cw, .int .i64 e.lo, .int .i64 e.hi, .slice aa na ca] 25)).alloc (.map #[] 0)) (w.heap.size + 1) 0 [] from
    ⟨.map [], by have := World.ownsMap_made (H := Unit) (w.alloc (.cells #[.int .i64 e.op, .string e.name, .slice aw nw cw, .int .i64 e.lo, .int .i64 e.hi, .slice aa na ca] 25)) Tryd.prog 9 unitElem; simpa using this, setIs_nil⟩)
  have HE := Lib.hid (show IsEx (mask ((w.alloc (.cells #[.int .i64 e.op, .string e.name, .slice aw nw cw, .int .i64 e.lo, .int .i64 e.hi, .slice aa na ca] 25)).alloc (.map #[] 0)) [w.heap.size + 1]) e (exV e.op e.name aw nw cw e.lo e.hi aa na ca) from
    he.mono (fun p q hp => by
      have hb := block_lt hp
      rw [mask_cell, if_neg (by simp; omega)]
      exact HX.out.cell hp))
  have HC := Lib.hid (collect_calls 900000 (by omega) e _ _ _ _ _ hs hf HE.out HSET.out (by omega))
  have hmm := @run_makeMap Tryd.prog
  rw [List.nil_append] at HC
  clear he HSET HE
  unfold exV at *
  refine (callsIn_wide (n := 6)).1 ?_
  have hfK : Fence.wide.fn 39 := trivial
  have hfS : Fence.wide.fn 38 := trivial
  have hfC : Fence.wide.fn 37 := trivial
  refine callsIn_of_wp Tryd.func25 rfl trivial ?_ rfl
  simp only [Tryd.ntmps25, List.size_toArray, List.length_cons, List.length_nil, Nat.reduceAdd, Nat.reduceSub, Array.replicate_succ, Array.replicate_zero, List.push_toArray, List.append_toArray, List.nil_append, List.cons_append]
  gi_wp2_with (first
    | (gi_at_call 37; refine (callsIn_wide.2 HC.out).mono ?_; rintro r w1 ⟨rfl, hset1, hc1⟩)
    | (gi_at_call 39; refine (Tryd.maps_Keys_42 _ _).mono ?_; rintro r w' ⟨rfl, rfl⟩))
  obtain ⟨D, hown, hsi⟩ := hset1
  have hsize := size_owned hown
  have hwx := hc1.ext HX.out (by simp)
  have HX1 := Lib.hid hwx
  have HSI := Lib.hid hsi
  clear hc1 hsi hwx
  refine (Tryd.slices_Sorted_keys_41_42 (w.heap.size + 1) _ D _ w1 hown (by unfold maxLen; omega) (by omega)).mono ?_
  rintro r w2 ⟨v, ss, rfl, hS, hrow, -, hb⟩
  have hsame := names_same HSI.out hS
  have hlen : ss.length = (refNames (namesE e)).length := by
    have := congrArg List.length hsame
    simpa using this
  rw [hsame] at hrow
  have hfr := hrow.lt
  obtain ⟨ra, rc, rfl, hst⟩ := strs_of_row hrow hlen
  have HFR := Lib.hid (show ∀ b off, ra = some ⟨b, off, none⟩ → w.heap.size ≤ b by
    intro b off e
    subst e
    have h1 := (hfr b rfl).1
    have h2 := HX1.out.size
    simp at h1
    omega)
  have HST := Lib.hid hst
  have HX2 := Lib.hid ((HX1.out.alloc (.cells #[.map (some (w.heap.size + 1))] 75)).trans hb)
  clear hrow hst hb hS hsame hlen hown hsize hfr
  gi_wp2_with (fail)
  go_ret
  exact ⟨ra, rc, rfl, HST.out, HX2.out, HFR.out⟩
theorem synNames_calls (e : Ex) (v : Value) (w : World) (hs : e.size ≤ 900000) (hf : e.fits) (he : IsEx w e v) : Calls Tryd.prog 25 #[v] w (PutQ (refNames (namesE e)) w) :=
  (synNamesF_calls e v w hs hf he).mono fun _ _ ⟨a, c, h1, h2, h3, _⟩ => ⟨a, c, h1, h2, h3⟩
end Go.Proofs.YtfjlglefodndjaaDoor
