/-
  Texts of the claim, joined: Deck, Args, Ord1, MapAt, Heap1, Heap2.
-/
import Derived.Test.YtfjlglefodndjaaBe03
import Derived.IntWalk
import Derived.Test.YtfjlglefodndjaaBe01
import Derived.WalkKit
import Derived.Carry
import Derived.ChangeSlices
import Derived.SizedLaws
import Derived.Test.YtfjlglefodndjaaProg
import Derived.StringKeys
import Derived.Maps.OwnSet
import Derived.Maps.Range
import Derived.Lib.Builder
import Derived.Deep.DeepCutAuto
namespace Go.Proofs.Ytfjlglefodndjaa
open Go.RowKit

theorem blk2 {w : World} {b : Nat} {v0 v1 : Value} {t : TypeId} (h : w.heap[b]? = some (.cells #[v0, v1] t (0, 0))) :
    w.cell? ⟨b, 0, none⟩ = some v0 ∧ w.cell? ⟨b, 1, none⟩ = some v1 ∧ (∀ j, w.frozen? ⟨b, j, none⟩ = false) :=
  ⟨blk_cell h 0, blk_cell h 1, fun j => blk_free h j⟩

/-- Numbers in memory. -/
def IntsAt (w : World) (a : Option Addr) (n : Nat) : Prop := ∀ i, i < n → ∃ b off z, a = some ⟨b, off, none⟩ ∧ w.cell? ⟨b, off + i, none⟩ = some (.int .i64 z)
/-- A deck in memory, over numbers that lie in w0. -/
def DeckAt (w0 w : World) (bd : Nat) : Prop := ∃ (la : Option Addr) (ln lc k : Nat), w.heap[bd]? = some (.cells #[.slice la ln lc, .int .i64 k] 76 (0, 0)) ∧ k ≤ ln ∧ ln ≤ 1000000000000000 ∧ IntsAt w0 la ln ∧ Ext w0 w ∧ w0.heap.size ≤ bd

theorem DeckAt.chg {w0 w w' : World} {bd : Nat} {N : List Nat} (h : DeckAt w0 w bd) (hc : Chg N w w') (hn : bd ∉ N) (h0 : ∀ x ∈ N, w0.heap.size ≤ x) : DeckAt w0 w' bd := by
  obtain ⟨la, ln, lc, k, hb, hk, hln, hL, hx, hbd⟩ := h
  exact ⟨la, ln, lc, k, hc.blk hb hn, hk, hln, hL, hc.ext hx h0, hbd⟩
theorem DeckAt.ext {w0 w w' : World} {bd : Nat} (h : DeckAt w0 w bd) (hx : Ext w w') : DeckAt w0 w' bd := h.chg (hx.chg []) (by simp) (by simp)

/-- A number is handed back; of what was there only the deck has changed. -/
def NextQ (lo hi : Int) (w0 : World) (bd : Nat) (w : World) (e : Ending) (w' : World) : Prop := ∃ r : Int, e = .returned (.int .i64 r) ∧ lo ≤ r ∧ r < hi ∧ DeckAt w0 w' bd ∧ Chg [bd] w w'

set_option maxRecDepth 100000 in
theorem next_calls {w0 w : World} {bd : Nat} (h : DeckAt w0 w bd) (n : Int) (hn : 0 < n) (hn2 : n ≤ 1000000000000000000) :
    Calls Try.prog 14 #[.pointer (some ⟨bd, 0, none⟩), .int .i64 n] w (NextQ 0 n w0 bd w) := by
  have HD := Lib.hid h
  obtain ⟨la, ln, lc, k, hb, hk, hln, hL, hx, hbd⟩ := h
  have HB := Lib.hid hb
  have hbw := blk_lt hb
  obtain ⟨c0, c1, cf⟩ := blk2 hb
  clear hb
  by_cases hlt : k < ln
  · obtain ⟨b, off, z, rfl, hz⟩ := hL k hlt
    have hz' := hx.cell hz
    have hzb : b ≠ bd := by have := block_lt hz; simp at this; omega
    have HL := Lib.hid hL
    have HX := Lib.hid hx
    have t1 : decide (ln ≤ k) = false := by simp; omega
    have t2 : ((k : Int) + 1 - 1) = k := by omega
    have t3 : (0 : Int) ≤ (k : Int) := by omega
    have t4 : (k : Int) < (ln : Int) := by omega
    clear hL hx hz HD
    go_enter Try.func14, Try.ntmps14
    go_wp2_with fail
    go_quiet (fail)
    go_wp2_with fail
    go_quiet (fail)
    go_wp2_with fail
    go_ret
    have hr : wrap64 (z.tmod n + n) = z.tmod n + n := by
      have a1 := Int.tmod_lt_of_pos z hn
      have a2 := Int.lt_tmod_of_pos z hn
      exact IntWalk.wrap64_in (z.tmod n + n) (by omega)
    rw [hr]
    have a1 := Int.tmod_lt_of_pos z hn
    have a2 := Int.tmod_lt_of_pos (z.tmod n + n) hn
    have a3 : 0 ≤ z.tmod n + n := by
      have := Int.lt_tmod_of_pos z hn
      omega
    have a4 := Int.tmod_nonneg n a3
    refine ⟨_, rfl, a4, a2, ⟨_, ln, lc, k + 1, ?_, by omega, hln, HL.out, ?_, hbd⟩, ?_⟩
    · have := heap_setCell_same (w.drewN 0) bd 1 _ _ (.int .i64 ((k : Int) + 1)) HB.out
      exact this
    · exact ((HX.out.drewN _).setAbove (by simpa using hbd) _).drewN _
    · exact (((Chg.refl [bd] w).drewN _).setCell (Or.inl (by simp)) _).drewN _
  · have t1 : decide (ln ≤ k) = true := by simp; omega
    go_enter Try.func14, Try.ntmps14
    go_wp2_with fail
    go_quiet (fail)
    go_wp2_with fail
    go_ret
    exact ⟨0, rfl, by omega, hn, HD.out.ext ((Ext.refl w).drewN _), (Chg.refl _ w).drewN _⟩

theorem range_calls {w0 w : World} {bd : Nat} (h : DeckAt w0 w bd) (lo hi : Int) (h1 : lo ≤ hi) (h2 : -100000000000000000 ≤ lo) (h3 : hi ≤ 100000000000000000) :
    Calls Try.prog 24 #[.pointer (some ⟨bd, 0, none⟩), .int .i64 lo, .int .i64 hi] w (NextQ lo (hi + 1) w0 bd w) := by
  go_enter Try.func24, Try.ntmps24
  go_wp2_with fail
  refine (next_calls h _ (by omega) (by omega)).mono ?_
  rintro e w1 ⟨r, rfl, hr0, hr1, hd, hc⟩
  go_wp2_with fail
  go_ret
  exact ⟨lo + r, rfl, by omega, by omega, hd, hc⟩

/-- A new deck. -/
def NewQ (w : World) (e : Ending) (w' : World) : Prop := ∃ bd, e = .returned (.pointer (some ⟨bd, 0, none⟩)) ∧ DeckAt w w' bd ∧ Ext w w' ∧ w.heap.size ≤ bd
theorem new_calls (la : Option Addr) (ln lc : Nat) (w : World) (h : IntsAt w la ln) (hl : ln ≤ 1000000000000000) : Calls Try.prog 13 #[.slice la ln lc] w (NewQ w) := by
  go_enter Try.func13, Try.ntmps13
  go_wp2_with fail
  go_ret
  exact ⟨w.heap.size, rfl, ⟨la, ln, lc, 0, alloc_new w _, by omega, hl, h, (Ext.refl w).alloc _, Nat.le_refl _⟩, (Ext.refl w).alloc _, Nat.le_refl _⟩
end Go.Proofs.Ytfjlglefodndjaa

namespace Go.Proofs.Ytfjlglefodndjaa
open Go.ChangeShapes Go.WideShapes Go.ChangeAt Go.RowKit

theorem laidOut : laidOutB Try.prog = true := by kernel_rfl
/-- The types can be read again. -/
def rowedB (P : Program) (ts : List TypeId) : Bool := ts.all fun t => P.readableRec t && decide (t < P.types.size)
theorem args_again {H : Type} {enc : TypeId × Value → H} {P : Program} (hl : laidOutB P = true) {W W' : World} (hb : Ext W W') : ∀ {ts : List TypeId} {vs : List Value} {ds : List (DataW H)} {ps : List MemPlace}, rowedB P ts = true → DataW.TrodAll enc P W 0 (fun _ => true) true ts vs ds ps → (∀ x ∈ ps, x.block < W.heap.size) → DataW.TrodAll enc P W' 0 (fun b => decide (b < W.heap.size)) true ts vs ds ps
  | [], [], [], _, _, h, _ => h
  | t :: ts, v :: vs, d :: ds, ps, hr, h, hlt => by
    obtain ⟨p, q, h1, h2, e⟩ := h
    simp only [rowedB, List.all_cons, Bool.and_eq_true, decide_eq_true_eq] at hr
    subst e
    exact ⟨p, q, Below.trod hl hr.1.1 hr.1.2 h1 hb (fun x hx => hlt x (by simp [hx])), args_again hl hb (by simpa [rowedB] using hr.2) h2 (fun x hx => hlt x (by simp [hx])), rfl⟩
  | [], _ :: _, _, _, _, h, _ => by simp [DataW.TrodAll] at h
  | [], [], _ :: _, _, _, h, _ => by simp [DataW.TrodAll] at h
  | _ :: _, [], _, _, _, h, _ => by simp [DataW.TrodAll] at h
  | _ :: _, _ :: _, [], _, _, h, _ => by simp [DataW.TrodAll] at h
set_option maxRecDepth 100000 in
/-- A law answers true and has only made memory: its arguments read as before. -/
theorem law_post2 {H : Type} {enc : TypeId × Value → H} {f : Func} {s : ChangeSpec} {W W' : World} {args : Array Value} {ds : List (DataW H)} {before : List MemPlace}
    (hW : DataW.Whole enc Try.prog f.params.toList s.vars false W args.toList ds [] before) (hv : s.vars = []) (hrt : f.resultTypes = #[4]) (hfn : (s.fn H (ds ++ [])).results = [.lit (.bool true)]) (hfa : (s.fn H (ds ++ [])).args = ds) (hfv : (s.fn H (ds ++ [])).vars = []) (hrw : rowedB Try.prog f.params.toList = true)
    (hx : Ext W W') : s.post enc Try.prog f false true false false W args (.bool true) W' := by
  have hW2 := hW
  obtain ⟨p, q, hA, hV, rfl, hfz, hnd⟩ := hW2
  rw [hv] at hV
  obtain ⟨_, rfl⟩ := trodVars_none hV
  have hlt : ∀ x ∈ p ++ [], x.block < W.heap.size := fun x hx => by simpa using hW.lt x hx
  simp only [List.append_nil] at *
  have hres : ∀ (b : Nat) (sp : Nat → Bool) (hd : Bool), DataW.TrodAll enc Try.prog W' b sp hd f.resultTypes.toList ((Value.bool true).resultList f.resultTypes.size) (s.fn H (ds ++ [])).results [] := by
    intro b sp hd
    rw [hrt, List.append_nil, hfn]
    exact trodAll_cons_mk (shut_bool uB _) trodAll_mk0
  refine ⟨ds, [], p, [], p, [], hW, hres _ _ _, by rw [List.append_nil, hfa]; exact args_again laidOut hx hrw hA hlt, ?_, World.keptBut_mono (fun p hp => hp) (Below.frame hx _), fun h => by cases h⟩
  rw [hv, List.append_nil, hfv]
  rfl
theorem uIs : Try.prog.underlying 22 = some (.slice 3) := by kernel_rfl
theorem bInt : Try.prog.bytesOf 3 = 8 := by kernel_rfl
set_option maxRecDepth 100000 in
/-- An argument of type []int. -/
theorem ints_arg {H : Type} {enc : TypeId × Value → H} {W : World} {base : Nat} {v : Value} {d : DataW H} {p : List MemPlace} {ts : List TypeId} {ds : List (DataW H)} {j : Nat} (hval : Value.okWide Try.prog W .any base 22 v) (h : DataW.Trod enc Try.prog W 0 (fun _ => true) true 22 v d p)
    (hs : (DataW.weightsEach Try.prog ts ds).all (· ≤ reachBytes) = true) (ht : ts[j]? = some 22) (hd : ds[j]? = some d) : ∃ a n c, v = .slice a n c ∧ IntsAt W a n ∧ n ≤ 1000000000000000 := by
  obtain ⟨a, n, c, rfl⟩ := okWide_slice uIs hval
  refine ⟨a, n, c, rfl, ?_⟩
  obtain ⟨fuel, hf⟩ := h
  rcases open_ints uIs uI cI hf with ⟨hcs, hx⟩ | ⟨ad, len, cap, zs, hcs, _, hl, hm, hz, hx, hcell, hw⟩
  · simp [Value.cells] at hcs
    obtain ⟨rfl, rfl, rfl⟩ := hcs
    exact ⟨fun i hi => by omega, by omega⟩
  · simp [Value.cells] at hcs
    obtain ⟨rfl, rfl, rfl⟩ := hcs
    simp only [Prod.mk.injEq] at hx
    obtain ⟨rfl, rfl⟩ := hx
    simp only [if_true] at hz
    have hb := sized_slice hs ht hd uIs
    rw [bInt] at hb
    simp only [lits, List.length_map, List.length_take, List.length_drop] at hb
    have hr := reachBytes_lt
    refine ⟨fun i hi => ?_, by omega⟩
    obtain ⟨b, off, spot⟩ := ad
    have h0 := hcell 0 (by omega)
    have hsp : spot = none := by
      cases spot with
      | none => rfl
      | some x =>
        exfalso
        simp only [Addr.add, if_true, World.cell?] at h0
        split at h0 <;> simp at h0
    subst hsp
    have := hcell i (by omega)
    refine ⟨b, off, zs.getD i 0, rfl, ?_⟩
    rw [← this]
    congr 1
    unfold Addr.add
    split <;> simp_all
end Go.Proofs.Ytfjlglefodndjaa

namespace Go.Proofs.Ytfjlglefodndjaa

/-! The plain law of check.Order: definitions in an order in which each comes after those that it uses. -/
/-- What Order looks at in a clause: whether it defines, its name, the names that it uses. -/
structure Dfn where
  is : Bool
  name : ByteArray
  uses : List ByteArray
def firstAt (l : List Dfn) (s : ByteArray) : Option Nat := l.findIdx? fun d => d.is && decide (d.name = s)
def isDef (l : List Dfn) (i : Nat) : Bool := match l[i]? with | some d => d.is | none => false
def usesAt (l : List Dfn) (i : Nat) : List ByteArray := match l[i]? with | some d => d.uses | none => []
def nameAt (l : List Dfn) (i : Nat) : ByteArray := match l[i]? with | some d => d.name | none => ⟨#[]⟩
/-- The names that i still waits for when the definitions of o are done. -/
def missL (l : List Dfn) (o : List Nat) (i : Nat) : List ByteArray := (usesAt l i).filter fun s => match firstAt l s with | some d => decide (d ∉ o) | none => false
def usersOf (l : List Dfn) (s : ByteArray) : List Nat := (List.range l.length).filter fun i => isDef l i && (usesAt l i).any fun t => decide (t = s)
def countOf (l : List Dfn) : Nat := ((List.range l.length).filter (isDef l)).length
def After (l : List Dfn) (o : List Nat) : Prop := ∀ p i, o[p]? = some i → ∀ s ∈ usesAt l i, ∀ d, firstAt l s = some d → d ∈ o.take p
structure Topo (l : List Dfn) (o : List Nat) : Prop where
  nodup : o.Nodup
  all : ∀ i, i ∈ o ↔ isDef l i = true
  after : After l o
structure OInv (l : List Dfn) (o R : List Nat) : Prop where
  nodup : (o ++ R).Nodup
  ready : ∀ i, i ∈ o ++ R ↔ (isDef l i = true ∧ missL l o i = [])
  after : After l o

theorem mem_miss {l : List Dfn} {o : List Nat} {i : Nat} {s : ByteArray} : s ∈ missL l o i ↔ s ∈ usesAt l i ∧ ∃ d, firstAt l s = some d ∧ d ∉ o := by
  unfold missL
  rw [List.mem_filter]
  refine and_congr_right fun _ => ?_
  cases h : firstAt l s <;> simp
theorem miss_nil {l : List Dfn} {o : List Nat} {i : Nat} : missL l o i = [] ↔ ∀ s ∈ usesAt l i, ∀ d, firstAt l s = some d → d ∈ o := by
  rw [List.eq_nil_iff_forall_not_mem]
  constructor
  · intro h s hs d hd
    by_cases hm : d ∈ o
    · exact hm
    · exact absurd (mem_miss.2 ⟨hs, d, hd, hm⟩) (h s)
  · intro h s hs
    obtain ⟨h1, d, h2, h3⟩ := mem_miss.1 hs
    exact h3 (h s h1 d h2)
theorem isDef_lt {l : List Dfn} {i : Nat} (h : isDef l i = true) : i < l.length := by
  unfold isDef at h
  rcases Nat.lt_or_ge i l.length with h' | h'
  · exact h'
  · rw [List.getElem?_eq_none h'] at h; cases h
theorem first_def {l : List Dfn} {s : ByteArray} {d : Nat} (h : firstAt l s = some d) : isDef l d = true ∧ nameAt l d = s := by
  unfold firstAt at h
  rw [List.findIdx?_eq_some_iff_getElem] at h
  obtain ⟨hd, h1, _⟩ := h
  simp only [Bool.and_eq_true, decide_eq_true_eq] at h1
  unfold isDef nameAt
  rw [List.getElem?_eq_getElem hd]
  exact h1
theorem OInv.start (l : List Dfn) : OInv l [] ((List.range l.length).filter fun i => isDef l i && (missL l [] i).isEmpty) where
  nodup := List.nodup_range.filter _
  ready i := by
    simp only [List.nil_append, List.mem_filter, List.mem_range, Bool.and_eq_true, List.isEmpty_iff]
    exact ⟨fun h => h.2, fun h => ⟨isDef_lt h.1, h⟩⟩
  after p i h := by simp at h
theorem After.snoc {l : List Dfn} {o : List Nat} {i : Nat} (h : After l o) (hm : missL l o i = []) : After l (o ++ [i]) := by
  intro p j hj s hs d hd
  rcases Nat.lt_trichotomy p o.length with hp | hp | hp
  · rw [List.getElem?_append_left hp] at hj
    rw [List.take_append_of_le_length (by omega)]
    exact h p j hj s hs d hd
  · subst hp
    simp at hj
    subst hj
    rw [List.take_left']
    · exact miss_nil.1 hm s hs d hd
    · rfl
  · rw [List.getElem?_eq_none (by simp; omega)] at hj
    cases hj
/-- A definition that is not the first of its name is taken: nothing waits for it. -/
theorem OInv.other {l : List Dfn} {o R R' : List Nat} {i : Nat} (h : OInv l o R) (hR : R.Perm (i :: R')) (hn : ∀ s, firstAt l s ≠ some i) : OInv l (o ++ [i]) R' where
  nodup := by
    have h1 := (List.Perm.append_left o hR).nodup_iff.1 h.nodup
    simpa using h1
  ready j := by
    have hm : missL l (o ++ [i]) j = [] ↔ missL l o j = [] := by
      rw [miss_nil, miss_nil]
      constructor
      · intro h1 s hs d hd
        have := h1 s hs d hd
        simp only [List.mem_append, List.mem_singleton] at this
        rcases this with h2 | rfl
        · exact h2
        · exact absurd hd (hn s)
      · intro h1 s hs d hd
        simp [h1 s hs d hd]
    rw [hm, ← h.ready j]
    have := (List.Perm.append_left o hR).mem_iff (a := j)
    rw [this]
    simp
  after := by
    have hi : i ∈ o ++ R := by
      rw [(List.Perm.append_left o hR).mem_iff]; simp
    exact h.after.snoc ((h.ready i).1 hi).2
/-- Those that wait for i alone. -/
def freed (l : List Dfn) (o : List Nat) (i : Nat) : List Nat := (usersOf l (nameAt l i)).filter fun u => (missL l (o ++ [i]) u).isEmpty
theorem OInv.first {l : List Dfn} {o R R' : List Nat} {i : Nat} (h : OInv l o R) (hR : R.Perm (i :: R')) (hf : firstAt l (nameAt l i) = some i) : OInv l (o ++ [i]) (R' ++ freed l o i) := by
  have hi : i ∈ o ++ R := by
    rw [(List.Perm.append_left o hR).mem_iff]; simp
  have hnd := (List.Perm.append_left o hR).nodup_iff.1 h.nodup
  have hio : i ∉ o := fun hio => by
    have := List.nodup_append.1 hnd
    exact this.2.2 i hio i (by simp) rfl
  have hfm : ∀ u, u ∈ freed l o i ↔ (isDef l u = true ∧ nameAt l i ∈ usesAt l u ∧ missL l (o ++ [i]) u = []) := by
    intro u
    unfold freed usersOf
    simp only [List.mem_filter, List.mem_range, Bool.and_eq_true, List.any_eq_true, decide_eq_true_eq, List.isEmpty_iff, exists_eq_right]
    exact ⟨fun ⟨⟨_, h1, h2⟩, h3⟩ => ⟨h1, h2, h3⟩, fun ⟨h1, h2, h3⟩ => ⟨⟨isDef_lt h1, h1, h2⟩, h3⟩⟩
  have hnot : ∀ u ∈ freed l o i, u ∉ o ++ R := by
    intro u hu hm
    have h1 := (hfm u).1 hu
    have h2 := miss_nil.1 ((h.ready u).1 hm).2 _ h1.2.1 _ hf
    exact hio h2
  refine ⟨?_, ?_, h.after.snoc ((h.ready i).1 hi).2⟩
  · have h1 : (o ++ [i] ++ R').Nodup := by simpa using hnd
    rw [← List.append_assoc]
    refine List.nodup_append.2 ⟨h1, ?_, ?_⟩
    · unfold freed usersOf
      exact (List.nodup_range.filter _).filter _
    · rintro a ha b hb rfl
      refine hnot a hb ?_
      rw [(List.Perm.append_left o hR).mem_iff]
      simpa using ha
  · intro j
    have hmem : j ∈ o ++ R ↔ j ∈ o ++ [i] ++ R' := by
      rw [(List.Perm.append_left o hR).mem_iff]; simp
    rw [← List.append_assoc, List.mem_append, ← hmem, hfm, h.ready j]
    constructor
    · rintro (⟨h1, h2⟩ | ⟨h1, _, h3⟩)
      · exact ⟨h1, miss_nil.2 fun s hs d hd => by simp [miss_nil.1 h2 s hs d hd]⟩
      · exact ⟨h1, h3⟩
    · rintro ⟨h1, h2⟩
      by_cases hu : nameAt l i ∈ usesAt l j
      · exact Or.inr ⟨h1, hu, h2⟩
      · refine Or.inl ⟨h1, miss_nil.2 fun s hs d hd => ?_⟩
        have h3 := miss_nil.1 h2 s hs d hd
        simp only [List.mem_append, List.mem_singleton] at h3
        rcases h3 with h3 | rfl
        · exact h3
        · exact absurd hs ((first_def hd).2 ▸ hu)
theorem nodup_le : (a b : List Nat) → a.Nodup → (∀ x ∈ a, x ∈ b) → a.length ≤ b.length
  | [], b, _, _ => by simp
  | x :: a, b, h, hs => by
    rw [List.nodup_cons] at h
    have hx : x ∈ b := hs x (by simp)
    have h1 := nodup_le a (b.erase x) h.2 fun y hy => by
      have hne : y ≠ x := fun e => h.1 (e ▸ hy)
      exact (List.mem_erase_of_ne hne).2 (hs y (by simp [hy]))
    rw [List.length_erase_of_mem hx] at h1
    have := List.length_pos_of_mem hx
    simp only [List.length_cons]
    omega
theorem nodup_full {a b : List Nat} (h : a.Nodup) (hs : ∀ x ∈ a, x ∈ b) (hl : b.length ≤ a.length) : ∀ x ∈ b, x ∈ a := by
  intro x hx
  by_cases hm : x ∈ a
  · exact hm
  · have h1 := nodup_le (x :: a) b (List.nodup_cons.2 ⟨hm, h⟩) (by simpa using ⟨hx, hs⟩)
    simp only [List.length_cons] at h1
    omega
theorem mem_defs {l : List Dfn} {i : Nat} : i ∈ (List.range l.length).filter (isDef l) ↔ isDef l i = true := by
  simp only [List.mem_filter, List.mem_range]
  exact ⟨fun h => h.2, fun h => ⟨isDef_lt h, h⟩⟩
theorem OInv.le {l : List Dfn} {o R : List Nat} (h : OInv l o R) : (o ++ R).length ≤ countOf l :=
  nodup_le _ _ h.nodup fun i hi => mem_defs.2 ((h.ready i).1 hi).1
theorem OInv.done {l : List Dfn} {o : List Nat} (h : OInv l o []) (hc : countOf l ≤ o.length) : Topo l o where
  nodup := by simpa using h.nodup
  all i := by
    have h1 : o.Nodup := by simpa using h.nodup
    have h2 : ∀ x ∈ o, x ∈ (List.range l.length).filter (isDef l) := fun x hx => mem_defs.2 ((h.ready x).1 (by simpa using hx)).1
    have h3 := nodup_full h1 h2 hc
    exact ⟨fun hi => mem_defs.1 (h2 i hi), fun hi => h3 i (mem_defs.2 hi)⟩
  after := h.after
theorem OInv.none {l : List Dfn} {o : List Nat} (h : OInv l o []) (hc : o.length < countOf l) : ¬ ∃ q, Topo l q := by
  rintro ⟨q, hq⟩
  have key : ∀ (p i : Nat), q[p]? = some i → i ∈ o := by
    intro p
    induction p using Nat.strongRecOn with
    | ind p ih =>
      intro i hi
      have h1 : isDef l i = true := (hq.all i).1 (List.mem_of_getElem? hi)
      have h2 : missL l o i = [] := miss_nil.2 fun s hs d hd => by
        obtain ⟨k, hk⟩ := List.mem_iff_getElem?.1 (hq.after p i hi s hs d hd)
        have hkp : k < p := by
          rcases Nat.lt_or_ge k p with h' | h'
          · exact h'
          · rw [List.getElem?_eq_none (by simp; omega)] at hk; cases hk
        rw [List.getElem?_take, if_pos hkp] at hk
        exact ih k hkp d hk
      have := (h.ready i).2 ⟨h1, h2⟩
      simpa using this
  have h3 := nodup_le _ o (List.nodup_range.filter (isDef l)) fun i hi => by
    have := (hq.all i).2 (mem_defs.1 hi)
    obtain ⟨p, hp⟩ := List.mem_iff_getElem?.1 this
    exact key p i hp
  unfold countOf at hc
  exact absurd h3 (by omega)
end Go.Proofs.Ytfjlglefodndjaa

namespace Go.Proofs.Ytfjlglefodndjaa
open Go.RowKit Go.Maps

/-! A map in memory as a function of its keys, whatever its elements are: each element is kept as the Go value itself. -/
def heldE (v : Value) : Option (DataW Value × List MemPlace) := some (.held v, [])
/-- The data D holds f. -/
def HoldsF (D : DataW Value) (f : Lit → Option Value) : Prop := ∀ x, WideAt.IsKeyLit x → Maps.has D x = (f x).isSome ∧ ∀ v, f x = some v → ∀ z, D.atKey x z = .held v
/-- Block b is a map with keys of type k, of at most n entries, that holds f. -/
def MapAt (w : World) (k : TypeId) (b n : Nat) (f : Lit → Option Value) : Prop := ∃ D : DataW Value, w.ownsMap Try.prog k heldE b n D ∧ HoldsF D f
open Classical in
noncomputable def setF (f : Lit → Option Value) (x : Lit) (v : Option Value) : Lit → Option Value := fun y => if y = x then v else f y
theorem setF_same (f : Lit → Option Value) (x : Lit) (v : Option Value) : setF f x v x = v := by simp [setF]
theorem setF_other (f : Lit → Option Value) {x y : Lit} (v : Option Value) (h : y ≠ x) : setF f x v y = f y := by simp [setF, h]
theorem MapAt.made (w : World) (k : TypeId) : MapAt (w.alloc (.map #[] 0)) k w.heap.size 0 (fun _ => none) :=
  ⟨.map [], World.ownsMap_made w _ k heldE, fun x _ => ⟨rfl, fun v h => by cases h⟩⟩
theorem MapAt.lt {w : World} {k : TypeId} {b n : Nat} {f : Lit → Option Value} (h : MapAt w k b n f) : b < w.heap.size := by obtain ⟨D, h, _⟩ := h; exact h.lt
theorem MapAt.more {w : World} {k : TypeId} {b n n' : Nat} {f : Lit → Option Value} (h : MapAt w k b n f) (hn : n ≤ n') : MapAt w k b n' f := by obtain ⟨D, h, hs⟩ := h; exact ⟨D, h.mono hn, hs⟩
theorem MapAt.chg {w w' : World} {k : TypeId} {b n : Nat} {f : Lit → Option Value} {N : List Nat} (h : MapAt w k b n f) (hc : Chg N w w') (hn : b ∉ N) : MapAt w' k b n f := by
  have hlt := h.lt
  obtain ⟨D, ⟨es, clock, hb, r⟩, hs⟩ := h
  exact ⟨D, ⟨es, clock, (hc.block b hlt hn).trans hb, r⟩, hs⟩
theorem MapAt.ext {w w' : World} {k : TypeId} {b n : Nat} {f : Lit → Option Value} (h : MapAt w k b n f) (he : Ext w w') : MapAt w' k b n f := h.chg (he.chg []) (by simp)
theorem MapAt.congr {w : World} {k : TypeId} {b n : Nat} {f g : Lit → Option Value} (h : MapAt w k b n f) (e : ∀ x, f x = g x) : MapAt w k b n g := by rw [show g = f from funext fun x => (e x).symm]; exact h
theorem grown_one {w w' : World} {b : Nat} (h : w.grownBy w' (some b)) : Chg [b] w w' := ⟨h.os, h.tape, h.output, h.size, fun k hk hn => h.block k hk (fun e => hn (by simp at e; simp [e]))⟩
theorem HoldsF.at {D : DataW Value} {f : Lit → Option Value} (h : HoldsF D f) {x : Lit} (hx : WideAt.IsKeyLit x) {v z : Value} (hv : DataW.held v = D.atKey x (.held z)) : v = (f x).getD z := by
  obtain ⟨h1, h2⟩ := h x hx
  cases hf : f x with
  | none =>
    rw [hf] at h1
    rw [atKey_of_not_has h1] at hv
    simpa using hv
  | some u =>
    rw [h2 u hf] at hv
    simpa using hv
theorem HoldsF.put {D : DataW Value} {f : Lit → Option Value} (h : HoldsF D f) (hD : IsMap D) {x : Lit} (hx : WideAt.IsKeyLit x) (v : Value) : HoldsF (D.put x (.held v)) (setF f x (some v)) := by
  intro y hy
  by_cases e : y = x
  · subst e
    rw [setF_same]
    refine ⟨by rw [has_put_same hD hx]; rfl, fun u hu z => ?_⟩
    rw [atKey_put_same hD hx]
    cases hu; rfl
  · rw [setF_other _ _ e]
    refine ⟨by rw [has_put_other e]; exact (h y hy).1, fun u hu z => ?_⟩
    rw [atKey_put_other e]
    exact (h y hy).2 u hu z
theorem HoldsF.del {D : DataW Value} {f : Lit → Option Value} (h : HoldsF D f) {x : Lit} (hx : WideAt.IsKeyLit x) : HoldsF (D.del x) (setF f x none) := by
  intro y hy
  by_cases e : y = x
  · subst e
    rw [setF_same]
    exact ⟨by rw [has_del_same]; rfl, fun u hu => by cases hu⟩
  · rw [setF_other _ _ e]
    refine ⟨by rw [has_del_other e]; exact (h y hy).1, fun u hu z => ?_⟩
    rw [atKey_del_other e]
    exact (h y hy).2 u hu z
/-- An empty map has size 0, and only that. -/
theorem HoldsF.size {D : DataW Value} {f : Lit → Option Value} (h : HoldsF D f) {es : List (Lit × DataW Value)} (hD : D = .map es) (hk : ∀ p ∈ es, WideAt.IsKeyLit p.1) : Maps.size D = 0 ↔ ∀ x, WideAt.IsKeyLit x → f x = none := by
  subst hD
  rw [size_eq]
  constructor
  · intro h0 x hx
    have := (h x hx).1
    rw [List.eq_nil_of_length_eq_zero h0] at this
    cases hf : f x with
    | none => rfl
    | some u => rw [hf] at this; simp [has_eq] at this
  · intro h0
    cases es with
    | nil => rfl
    | cons p r =>
      have hp := hk p (by simp)
      have := (h p.1 hp).1
      rw [h0 p.1 hp, has_eq] at this
      simp [WideAt.sameKey_self hp] at this
section
variable (w : World) {ops : Array Oper} {rest : List Oper} {o : Oper} {a : Act} {Q : Exit → Act → World → Prop}
theorem wpList_map_ok (hg : o.guard = none) (m x : Operand) (t : TypeId) (hop : o.op = Op.lookup t m x true) (k e : TypeId) (K : Keyed Try.prog k) (ht : Try.prog.underlying t = some (.map k e)) {z : Value} (hz : (zeroValue e).run Try.prog w = .ok z w) (b n : Nat) (f : Lit → Option Value)
    (hm : a.eval m = .map (some b)) (hmap : MapAt w k b n f) (key : Value) (kl : Lit) (hx : a.eval x = key) (hkey : keyOf Try.prog k key = some kl) (hkl : WideAt.IsKeyLit kl)
    (hK : wpList Try.prog ops Q rest (a.put o.dst (.tuple #[(f kl).getD z, .bool (f kl).isSome])) w) : wpList Try.prog ops Q (o :: rest) a w := by
  obtain ⟨D, hown, hf⟩ := hmap
  refine wpList_lookup_own_ok w hg m x t hop k e K ht heldE hz (.held z) [] rfl b n D hm hown key kl hx hkey fun v ps hv => ?_
  have e1 : DataW.held v = D.atKey kl (.held z) := by
    simp only [heldE, Option.some.injEq, Prod.mk.injEq] at hv
    exact hv.1
  rw [hf.at hkl e1, (hf kl hkl).1]
  exact hK
theorem wpList_map_get (hg : o.guard = none) (m x : Operand) (t : TypeId) (hop : o.op = Op.lookup t m x false) (k e : TypeId) (K : Keyed Try.prog k) (ht : Try.prog.underlying t = some (.map k e)) {z : Value} (hz : (zeroValue e).run Try.prog w = .ok z w) (b n : Nat) (f : Lit → Option Value)
    (hm : a.eval m = .map (some b)) (hmap : MapAt w k b n f) (key : Value) (kl : Lit) (hx : a.eval x = key) (hkey : keyOf Try.prog k key = some kl) (hkl : WideAt.IsKeyLit kl)
    (hK : wpList Try.prog ops Q rest (a.put o.dst ((f kl).getD z)) w) : wpList Try.prog ops Q (o :: rest) a w := by
  obtain ⟨D, hown, hf⟩ := hmap
  refine wpList_plain hg fun K' hK' => ?_
  obtain ⟨v, ps, hrun, hv⟩ := hown.lookup K ht hz (zd := .held z) (zp := []) rfl hkey
  have e1 : DataW.held v = D.atKey kl (.held z) := by
    simp only [heldE, Option.some.injEq, Prod.mk.injEq] at hv
    exact hv.1
  rw [← hf.at hkl e1] at hK
  unfold Oper.wp
  simp [execOp, hop, hm, hx, hrun, Result.andThen]
  exact hK' _ _ hK
theorem wpList_map_put (hg : o.guard = none) (m x v : Operand) (t : TypeId) (hop : o.op = Op.mapUpdate t m x v) (k e : TypeId) (K : Keyed Try.prog k) (ht : Try.prog.underlying t = some (.map k e)) (b n : Nat) (f : Lit → Option Value)
    (hm : a.eval m = .map (some b)) (hmap : MapAt w k b n f) (hn : n < maxLen) (key val : Value) (kl : Lit) (hx : a.eval x = key) (hv : a.eval v = val) (hkey : keyOf Try.prog k key = some kl) (hkl : WideAt.IsKeyLit kl)
    (hK : ∀ w', MapAt w' k b (n + 1) (setF f kl (some val)) → Chg [b] w w' → wpList Try.prog ops Q rest (a.put o.dst undef) w') : wpList Try.prog ops Q (o :: rest) a w := by
  obtain ⟨D, hown, hf⟩ := hmap
  refine wpList_mapUpdate_own w hg m x v t hop k e K ht heldE b n D hm hown hn key val kl hx hv hkey (.held val) [] rfl fun w' h1 h2 => ?_
  exact hK w' ⟨_, h1, hf.put hown.isMap hkl val⟩ (grown_one h2)
theorem wpList_map_del (hg : o.guard = none) (m x : Operand) (t k : TypeId) (hop : o.op = Op.call { callee := Callee.builtin Builtin.delete, args := #[m, x], argTypes := #[t, k] }) (e : TypeId) (K : Keyed Try.prog k) (ht : Try.prog.underlying t = some (.map k e)) (b n : Nat) (f : Lit → Option Value)
    (hm : a.eval m = .map (some b)) (hmap : MapAt w k b n f) (key : Value) (kl : Lit) (hx : a.eval x = key) (hkey : keyOf Try.prog k key = some kl) (hkl : WideAt.IsKeyLit kl)
    (hK : ∀ w', MapAt w' k b n (setF f kl none) → Chg [b] w w' → wpList Try.prog ops Q rest (a.put o.dst (.tuple #[])) w') : wpList Try.prog ops Q (o :: rest) a w := by
  obtain ⟨D, hown, hf⟩ := hmap
  refine wpList_delete_own w hg m x t k hop e K ht heldE b n D hm hown key kl hx hkey fun w' h1 h2 => ?_
  exact hK w' ⟨_, h1, hf.del hkl⟩ (grown_one h2.grown)
theorem wpList_map_len (hg : o.guard = none) (m : Operand) (t : TypeId) (hop : o.op = Op.call { callee := Callee.builtin Builtin.len, args := #[m], argTypes := #[t] }) (k e : TypeId) (K : Keyed Try.prog k) (ht : Try.prog.underlying t = some (.map k e)) (b n : Nat) (f : Lit → Option Value)
    (hm : a.eval m = .map (some b)) (hmap : MapAt w k b n f)
    (hK : ∀ s : Nat, s ≤ n → (s = 0 ↔ ∀ x, WideAt.IsKeyLit x → f x = none) → wpList Try.prog ops Q rest (a.put o.dst (.int .i64 s)) w) : wpList Try.prog ops Q (o :: rest) a w := by
  obtain ⟨D, hown, hf⟩ := hmap
  refine wpList_len_own w hg m t hop k e ht heldE b n D hm hown ?_
  obtain ⟨es, hes, _, hk⟩ := hown.entries K
  exact hK _ hown.size_le (hf.size hes hk)
end
end Go.Proofs.Ytfjlglefodndjaa

namespace Go.Proofs.Ytfjlglefodndjaa
open Go.RowKit

/-- A pile of integers in a block of its own (number b, from B on; one cell: a slice whose row the pile owns): T the block's type, e the elements' type. -/
def PileAt (T e : TypeId) (B b : Nat) (xs : List Int) (w : World) : Prop :=
  B ≤ b ∧ ∃ v, w.heap[b]? = some (.cells #[v] T (0, 0)) ∧ w.ownsRow B e 1 v xs.length (xs.map fun z => Value.int .i64 z) ∧ v.ownBlock ≠ some b
theorem PileAt.fresh (T e : TypeId) (w : World) : PileAt T e w.heap.size w.heap.size [] (w.alloc (.cells #[.slice none 0 0] T)) :=
  ⟨Nat.le_refl _, .slice none 0 0, heap_alloc_new w _, World.ownsRow_nil _ _ _ _, by simp [Value.ownBlock]⟩
theorem PileAt.lt {T e : TypeId} {B b : Nat} {xs : List Int} {w : World} (h : PileAt T e B b xs w) : b < w.heap.size := by
  obtain ⟨_, v, hb, _⟩ := h
  rcases Nat.lt_or_ge b w.heap.size with h' | h'
  · exact h'
  · simp [Array.getElem?_eq_none h'] at hb
theorem PileAt.ext {T e : TypeId} {B b : Nat} {xs : List Int} {w w' : World} (h : PileAt T e B b xs w) (hx : Ext w w') : PileAt T e B b xs w' := by
  have hlt := h.lt
  obtain ⟨hB, v, hb, hown, hne⟩ := h
  refine ⟨hB, v, (hx.block b hlt).trans hb, hown.kept (row := none) ⟨hx.os, hx.tape, hx.output, hx.size, fun k hk _ => hx.block k hk⟩ ?_, hne⟩
  rcases hown.2 with ⟨hv, _⟩ | ⟨g, cap, cur, hv, _⟩
  · exact Or.inl (by rw [hv]; rfl)
  · exact Or.inr (by rw [hv]; simp [Value.ownBlock])
/-- What a pile's slice is: nil, or a row of its own with these cells. -/
theorem PileAt.parts {T e : TypeId} {B b : Nat} {xs : List Int} {w : World} (h : PileAt T e B b xs w) : B ≤ b ∧ ((xs = [] ∧ w.heap[b]? = some (.cells #[.slice none 0 0] T (0, 0))) ∨
    ∃ g cap cur, w.heap[b]? = some (.cells #[.slice (some ⟨g, 0, none⟩) xs.length cap] T (0, 0)) ∧ B ≤ g ∧ g ≠ b ∧ w.heap[g]? = some (.cells cur e (0, 0)) ∧ xs.length ≤ cap ∧ cap ≤ maxLen ∧ cur.size = cap ∧ cur.toList.take xs.length = xs.map fun z => Value.int .i64 z) := by
  obtain ⟨hB, v, hb, hown, hne⟩ := h
  refine ⟨hB, ?_⟩
  rcases hown.2 with ⟨rfl, h0⟩ | ⟨g, cap, cur, rfl, hg1, hg2, hg3, hg4, hg5, hg6⟩
  · exact Or.inl ⟨List.eq_nil_of_length_eq_zero h0, hb⟩
  · refine Or.inr ⟨g, cap, cur, hb, hg1, fun e => hne (by simp [Value.ownBlock, e]), hg2, hg3, hg4, ?_, ?_⟩
    · simpa using hg5
    · simpa using hg6
/-- One element is overwritten. -/
theorem pile_set {T e : TypeId} {B b g cap : Nat} {cur : Array Value} {xs : List Int} {w : World} (hB : B ≤ b) (hb : w.heap[b]? = some (.cells #[.slice (some ⟨g, 0, none⟩) xs.length cap] T (0, 0))) (hg1 : B ≤ g) (hgb : g ≠ b) (hg : w.heap[g]? = some (.cells cur e (0, 0)))
    (h1 : xs.length ≤ cap) (h2 : cap ≤ maxLen) (h3 : cur.size = cap) (h4 : cur.toList.take xs.length = xs.map fun z => Value.int .i64 z) {i : Nat} (z : Int) :
    PileAt T e B b (xs.set i z) (w.setCell ⟨g, i, none⟩ (.int .i64 z)) ∧ Chg [g] w (w.setCell ⟨g, i, none⟩ (.int .i64 z)) := by
  refine ⟨⟨hB, .slice (some ⟨g, 0, none⟩) xs.length cap, ?_, ⟨?_, .inr ⟨g, cap, cur.setIfInBounds i (.int .i64 z), ?_, hg1, ?_, ?_, h2, ?_, ?_⟩⟩, ?_⟩, (Chg.refl _ _).setCell (Or.inl (by simp)) _⟩
  · rw [Below.heap_setCell _ _ _ _ (by simpa using fun h => hgb h.symm)]; exact hb
  · simp
  · simp
  · simp [World.setCell, Array.getElem?_modify, hg]
  · simpa using h1
  · simpa using h3
  · simp only [Array.toList_setIfInBounds, List.length_set, Nat.mul_one]
    rw [List.take_set, h4, List.map_set]
  · simp [Value.ownBlock, hgb]
/-- What a walk reads of a pile. -/
theorem pile_cell {e : TypeId} {g : Nat} {cur : Array Value} {xs : List Int} {w : World} (hg : w.heap[g]? = some (.cells cur e (0, 0))) (h4 : cur.toList.take xs.length = xs.map fun z => Value.int .i64 z) {i : Nat} (hi : i < xs.length) : w.cell? ⟨g, i, none⟩ = some (.int .i64 xs[i]) ∧ w.frozen? ⟨g, i, none⟩ = false := by
  have h5 : (cur.toList.take xs.length)[i]? = some (.int .i64 xs[i]) := by rw [h4]; simp [hi]
  rw [List.getElem?_take, if_pos hi] at h5
  refine ⟨?_, Lib.frozen_of_heap hg i⟩
  rw [Lib.cell_of_heap hg]
  simpa using h5
/-- The last element is taken away. -/
theorem pile_less {T e : TypeId} {B b g cap : Nat} {cur : Array Value} {xs : List Int} {w : World} (hB : B ≤ b) (hb : w.heap[b]? = some (.cells #[.slice (some ⟨g, 0, none⟩) xs.length cap] T (0, 0))) (hg1 : B ≤ g) (hgb : g ≠ b) (hg : w.heap[g]? = some (.cells cur e (0, 0)))
    (h1 : xs.length ≤ cap) (h2 : cap ≤ maxLen) (h3 : cur.size = cap) (h4 : cur.toList.take xs.length = xs.map fun z => Value.int .i64 z) :
    PileAt T e B b xs.dropLast (w.setCell ⟨b, 0, none⟩ (.slice (some ⟨g, 0, none⟩) (xs.length - 1) cap)) ∧ Chg [b] w (w.setCell ⟨b, 0, none⟩ (.slice (some ⟨g, 0, none⟩) (xs.length - 1) cap)) := by
  refine ⟨⟨hB, .slice (some ⟨g, 0, none⟩) (xs.length - 1) cap, ?_, ⟨?_, .inr ⟨g, cap, cur, ?_, hg1, ?_, ?_, h2, ?_, ?_⟩⟩, ?_⟩, (Chg.refl _ _).setCell (Or.inl (by simp)) _⟩
  · simp [World.setCell, Array.getElem?_modify, hb]
  · simp
  · simp
  · rw [Below.heap_setCell _ _ _ _ (by simpa using hgb)]; exact hg
  · simp; omega
  · simpa using h3
  · have h5 : cur.toList.take (xs.length - 1) = (cur.toList.take xs.length).take (xs.length - 1) := by rw [List.take_take]; congr 1; omega
    simp only [List.length_dropLast, Nat.mul_one]
    rw [h5, h4, ← List.map_take, List.dropLast_eq_take]
  · simp [Value.ownBlock, hgb]
end Go.Proofs.Ytfjlglefodndjaa

namespace Go.Proofs.Ytfjlglefodndjaa
open Go.RowKit

/-! The methods that heap.Interface calls on a *check.indexes: Len, Less, Swap are sort.IntSlice's, promoted. -/
theorem rows_idx : (Try.prog.info? 53).map (fun i => ["Len", "Less", "Swap", "Push", "Pop"].map fun s => (i.methods.find? (·.name == s)).map fun m => (m.path.toList.map fun p => (p.struct, p.index, p.deref), m.func)) =
  some [some ([(56, 0, true)], some (17, false)), some ([(56, 0, true)], some (113, false)), some ([(56, 0, true)], some (117, false)), some ([], some (115, true)), some ([], some (114, true))] := by kernel_rfl
theorem meth_push (n b : Nat) (w : World) : (method (n + 1) 53 (.pointer (some ⟨b, 0, none⟩)) "Push").run Try.prog w = .ok (115, .pointer (some ⟨b, 0, none⟩)) w := by kernel_rfl
theorem meth_pop (n b : Nat) (w : World) : (method (n + 1) 53 (.pointer (some ⟨b, 0, none⟩)) "Pop").run Try.prog w = .ok (114, .pointer (some ⟨b, 0, none⟩)) w := by kernel_rfl
theorem meth_len (n b : Nat) (v : Value) (w : World) (h : w.cell? ⟨b, 0, none⟩ = some v) : (method (n + 1) 53 (.pointer (some ⟨b, 0, none⟩)) "Len").run Try.prog w = .ok (17, v) w := by
  have e : (method (n + 1) 53 (.pointer (some ⟨b, 0, none⟩)) "Len").run Try.prog w = (loadVar 54 ⟨b, 0, none⟩ >>= fun v => pure (17, v)).run Try.prog w := by kernel_rfl
  rw [e]
  simp [loadVar, go_sem, h]
theorem meth_less (n b : Nat) (v : Value) (w : World) (h : w.cell? ⟨b, 0, none⟩ = some v) : (method (n + 1) 53 (.pointer (some ⟨b, 0, none⟩)) "Less").run Try.prog w = .ok (113, v) w := by
  have e : (method (n + 1) 53 (.pointer (some ⟨b, 0, none⟩)) "Less").run Try.prog w = (loadVar 54 ⟨b, 0, none⟩ >>= fun v => pure (113, v)).run Try.prog w := by kernel_rfl
  rw [e]
  simp [loadVar, go_sem, h]
theorem meth_swap (n b : Nat) (v : Value) (w : World) (h : w.cell? ⟨b, 0, none⟩ = some v) : (method (n + 1) 53 (.pointer (some ⟨b, 0, none⟩)) "Swap").run Try.prog w = .ok (117, v) w := by
  have e : (method (n + 1) 53 (.pointer (some ⟨b, 0, none⟩)) "Swap").run Try.prog w = (loadVar 54 ⟨b, 0, none⟩ >>= fun v => pure (117, v)).run Try.prog w := by kernel_rfl
  rw [e]
  simp [loadVar, go_sem, h]
theorem ahead_len (n b : Nat) (w : World) : (nilAhead (n + 1) 53 (.pointer (some ⟨b, 0, none⟩)) "Len").run Try.prog w = .ok (some false) w := by kernel_rfl
theorem ahead_less (n b : Nat) (w : World) : (nilAhead (n + 1) 53 (.pointer (some ⟨b, 0, none⟩)) "Less").run Try.prog w = .ok (some false) w := by kernel_rfl
theorem ahead_swap (n b : Nat) (w : World) : (nilAhead (n + 1) 53 (.pointer (some ⟨b, 0, none⟩)) "Swap").run Try.prog w = .ok (some false) w := by kernel_rfl
theorem ahead_push (n b : Nat) (w : World) : (nilAhead (n + 1) 53 (.pointer (some ⟨b, 0, none⟩)) "Push").run Try.prog w = .ok (some false) w := by kernel_rfl
theorem ahead_pop (n b : Nat) (w : World) : (nilAhead (n + 1) 53 (.pointer (some ⟨b, 0, none⟩)) "Pop").run Try.prog w = .ok (some false) w := by kernel_rfl
theorem ilen_calls (a : Option Addr) (n c : Nat) (w : World) : Calls Try.prog 17 #[.slice a n c] w (Gives (.int .i64 n) w) := by
  go_enter Try.func17, Try.ntmps17
  go_wp2_with fail
  go_ret
  exact ⟨rfl, rfl⟩
theorem iless_calls (g n c i j : Nat) (x y : Int) (w : World) (hi : i < n) (hj : j < n) (h1 : w.cell? ⟨g, i, none⟩ = some (.int .i64 x)) (h2 : w.cell? ⟨g, j, none⟩ = some (.int .i64 y)) :
    Calls Try.prog 113 #[.slice (some ⟨g, 0, none⟩) n c, .int .i64 i, .int .i64 j] w (GivesE (.bool (decide (x < y))) w) := by
  go_enter Try.func113, Try.ntmps113
  go_upto_region 1 with fail
  go_quiet (fail)
  go_wp2_with fail
  go_ret
  exact ⟨rfl, Ext.drewN (Ext.refl _) _⟩
end Go.Proofs.Ytfjlglefodndjaa
