/-
  Texts of the claim, joined: Ord3, Ord4, Ord6.
-/
import Derived.Test.YtfjlglefodndjaaDoorDo16
import Derived.Test.YtfjlglefodndjaaDoorDo09
import Derived.Outline
import Derived.Test.YtfjlglefodndjaaDoorDo14
namespace Go.Proofs.YtfjlglefodndjaaDoor
open Go.RowKit Go.Maps

def Cl.dfn (c : Cl) : Dfn := ⟨c.kind == 1, c.name, refNames (namesE c.cond)⟩
/-- Integers in a slice. -/
def IsInts (w : World) (l : List Int) (a : Option Addr) (n c : Nat) : Prop :=
  n = l.length ∧ n ≤ c ∧ OkAddr a c ∧ ∀ i (h : i < l.length), ∃ b off, a = some ⟨b, off, none⟩ ∧ w.cell? ⟨b, off + i, none⟩ = some (.int .i64 l[i])
theorem IsInts.mono {w w' : World} {l : List Int} {a : Option Addr} {n c : Nat} (h : IsInts w l a n c) (he : Sub w w') : IsInts w' l a n c :=
  ⟨h.1, h.2.1, h.2.2.1, fun i hi => by obtain ⟨b, off, h1, h2⟩ := h.2.2.2 i hi; exact ⟨b, off, h1, he _ _ h2⟩⟩
def ints (o : List Nat) : List Int := o.map fun (i : Nat) => (i : Int)
/-- An order of the definitions, or ErrCycle and the reason: nothing more can be taken. -/
def OrdQ (l : List Dfn) (w : World) (e : Ending) (w' : World) : Prop := Ext w w' ∧
  ((∃ o a c, Topo l o ∧ e = .returned (.tuple #[.slice a o.length c, .int .i64 0]) ∧ IsInts w' (ints o) a o.length c) ∨ (∃ o, OInv l o [] ∧ o.length < countOf l ∧ e = .returned (.tuple #[.slice none 0 0, .int .i64 10])))
theorem first_take {l : List Dfn} {k : Nat} (hk : k < l.length) (s : ByteArray) : firstAt (l.take (k + 1)) s = match firstAt (l.take k) s with | some d => some d | none => if l[k].is = true ∧ l[k].name = s then some k else none := by
  unfold firstAt
  rw [List.take_succ_eq_append_getElem hk, List.findIdx?_append]
  cases h : (l.take k).findIdx? fun d => d.is && decide (d.name = s) with
  | some d => simp
  | none =>
    simp only [List.findIdx?_cons, List.findIdx?_nil, List.length_take]
    by_cases hc : l[k].is = true ∧ l[k].name = s
    · simp [hc]; omega
    · rw [if_neg hc]
      have : (l[k].is && decide (l[k].name = s)) = false := by
        simp only [Bool.and_eq_false_iff, decide_eq_false_iff_not]
        by_cases h1 : l[k].is = true
        · exact Or.inr fun h2 => hc ⟨h1, h2⟩
        · exact Or.inl (by simpa using h1)
      simp [this]
theorem uMapSI : Tryd.prog.underlying 48 = some (.map 9 3) := by kernel_rfl
theorem uMapSIs : Tryd.prog.underlying 74 = some (.map 9 45) := by kernel_rfl
theorem uMapIM : Tryd.prog.underlying 73 = some (.map 3 75) := by kernel_rfl
theorem uInt3 : Tryd.prog.underlying 3 = some (.int .i64) := by kernel_rfl
theorem keyedInt : Keyed Tryd.prog 3 := int_keyed uInt3
theorem zeroInt (w : World) : (zeroValue 3).run Tryd.prog w = .ok (.int .i64 0) w := by kernel_rfl
theorem zeroInts (w : World) : (zeroValue 45).run Tryd.prog w = .ok (.slice none 0 0) w := by kernel_rfl
theorem zeroSet (w : World) : (zeroValue 75).run Tryd.prog w = .ok (.map none) w := by kernel_rfl
theorem keyStr {s : ByteArray} (h : s.size ≤ 1000000000000000) : keyOf Tryd.prog 9 (.string s) = some (.string s.data.toList) := Go.WideMaps.keyOf_string_mk uStr2 (by unfold maxLen; omega)
theorem keyInt {i : Nat} (h : i ≤ 1000000000000000) : keyOf Tryd.prog 3 (.int .i64 i) = some (.int .i64 i) := keyOf_int_mk uInt3 (by simp [Lit.wf, IntKind.min, IntKind.max, IntKind.bits, IntKind.signed]; omega)
theorem firstF_none {l : List Dfn} {s : ByteArray} (h : firstAt l s = none) : strF (firstF l) (.string s.data.toList) = none := by rw [strF_at, firstF, h]; rfl
theorem firstF_some {l : List Dfn} {s : ByteArray} {d : Nat} (h : firstAt l s = some d) : strF (firstF l) (.string s.data.toList) = some (.int .i64 d) := by rw [strF_at, firstF, h]; rfl
theorem firstF_step {l : List Dfn} {k : Nat} (hk : k < l.length) (hd : l[k].is = true) (hf : firstAt (l.take k) l[k].name = none) (x : Lit) : setF (strF (firstF (l.take k))) (.string l[k].name.data.toList) (some (.int .i64 k)) x = strF (firstF (l.take (k + 1))) x := by
  rw [setF_str]
  cases x <;> try rfl
  rename_i bs
  simp only [strF]
  by_cases e : (⟨bs.toArray⟩ : ByteArray) = l[k].name
  · rw [e, upS_same, firstF, first_take hk, hf]
    simp [hd]
  · rw [upS_other _ _ e, firstF, firstF, first_take hk]
    cases firstAt (l.take k) ⟨bs.toArray⟩ with
    | some d => rfl
    | none =>
      have : ¬ (l[k].is = true ∧ l[k].name = ⟨bs.toArray⟩) := fun h => e h.2.symm
      rw [if_neg this]
theorem firstF_skip {l : List Dfn} {k : Nat} (hk : k < l.length) (hd : l[k].is = false ∨ firstAt (l.take k) l[k].name ≠ none) (x : Lit) : strF (firstF (l.take k)) x = strF (firstF (l.take (k + 1))) x := by
  cases x <;> try rfl
  rename_i bs
  simp only [strF, firstF]
  rw [first_take hk]
  cases h : firstAt (l.take k) ⟨bs.toArray⟩ with
  | some d => rfl
  | none =>
    have : ¬ (l[k].is = true ∧ l[k].name = ⟨bs.toArray⟩) := by
      rintro ⟨h1, h2⟩
      rcases hd with h3 | h3
      · rw [h3] at h1; cases h1
      · rw [h2] at h3; exact h3 h
    rw [if_neg this]
end Go.Proofs.YtfjlglefodndjaaDoor

namespace Go.Proofs.YtfjlglefodndjaaDoor
open Go.RowKit Go.Maps

/-! The stages of check.Order: what the state is in each. -/
def St0 (bf bu bm bp : Nat) : St where
  ρ := fun k => if k = bf then .first else if k = bp then .pile else if k = bm then .miss else if k = bu then .users else .none
  mb := fun _ => 0
  uv := fun _ => none
  U := fun _ => []
  D := fun _ => False
  S := fun _ => False
  M := fun _ _ => False
  pv := .slice none 0 0
  R := []
  vo := .slice none 0 0
  O := []
theorem OB.start {w wr : World} {l : List Dfn} {bf t : Nat} (h : MapAt wr 9 bf t (strF (firstF l))) (hx : Ext w wr) (hb : w.heap.size ≤ bf) :
    OB w l bf (wr.heap.size + 2) (wr.heap.size + 1) wr.heap.size t (St0 bf (wr.heap.size + 2) (wr.heap.size + 1) wr.heap.size) (((wr.alloc (.cells #[.slice none 0 0] 72)).alloc (.map #[] 0)).alloc (.map #[] 0)) := by
  have hlt := h.lt
  have hsz := hx.size
  have x1 : Ext wr (wr.alloc (.cells #[.slice none 0 0] 72)) := (Ext.refl _).alloc _
  have x2 := x1.alloc (.map #[] 0)
  have x3 := x2.alloc (.map #[] 0)
  have z1 : (wr.alloc (.cells #[.slice none 0 0] 72)).heap.size = wr.heap.size + 1 := by simp
  have z2 : ((wr.alloc (.cells #[.slice none 0 0] 72)).alloc (.map #[] 0)).heap.size = wr.heap.size + 2 := by simp
  refine { ext := hx.trans x3, fresh := ?_, old := ?_, rf := ?_, hf := h.ext x3, ru := ?_, hu := ?_, rows := ?_, rown := fun _ _ => rfl, rm := ?_, hm := ?_, dom := fun _ h => h, sets := fun _ h => h.elim, rp := ?_, hp := ?_, rpv := ?_, hv := World.ownsRow_nil _ _ _ _, rv := ?_ }
  · intro k hk
    simp at hk
    simp only [St0]
    rw [if_neg (by omega), if_neg (by omega), if_neg (by omega), if_neg (by omega)]
  · intro k hk
    simp only [St0]
    rw [if_neg (by omega), if_neg (by omega), if_neg (by omega), if_neg (by omega)]
  · simp [St0]
  · simp only [St0]
    rw [if_neg (by omega), if_neg (by omega), if_neg (by omega), if_pos trivial]
  · have := MapAt.made ((wr.alloc (.cells #[.slice none 0 0] 72)).alloc (.map #[] 0)) 9
    rw [z2] at this
    exact (this.more (Nat.zero_le t)).congr fun x => by cases x <;> rfl
  · intro x v hv; cases hv
  · simp only [St0]
    rw [if_neg (by omega), if_neg (by omega), if_pos trivial]
  · have := MapAt.made (wr.alloc (.cells #[.slice none 0 0] 72)) 3
    rw [z1] at this
    refine ((this.more (Nat.zero_le t)).ext ((Ext.refl _).alloc _)).congr fun x => ?_
    cases x <;> try rfl
    rename_i q z
    cases q <;> try rfl
    simp [intF, missF, St0]
  · simp only [St0]
    rw [if_neg (by omega), if_pos trivial]
  · have := PileV.fresh wr
    refine ⟨by omega, ?_, World.ownsRow_nil _ _ _ _, by simp [St0, Value.ownBlock]⟩
    exact blk_alloc (blk_alloc (alloc_new wr _))
  · intro g hg; simp [St0, Value.ownBlock] at hg
  · intro g hg; simp [St0, Value.ownBlock] at hg

theorem IsStrs.chg {w w' : World} {l : List ByteArray} {a : Option Addr} {n c : Nat} {N : List Nat} (h : IsStrs w l a n c) (hc : Chg N w w') (hN : ∀ b off, a = some ⟨b, off, none⟩ → b ∉ N) : IsStrs w' l a n c :=
  ⟨h.1, h.2.1, h.2.2.1, fun i hi => by
    obtain ⟨b, off, h1, h2⟩ := h.2.2.2 i hi
    refine ⟨b, off, h1, ?_⟩
    have hb := block_lt h2
    unfold World.cell? at h2 ⊢
    rw [hc.block b hb (hN b off h1)]
    exact h2⟩
theorem rerole_none {ρ : Nat → Role} {v v' : Value} {r : Role} {n k : Nat} (hk : ρ k = .none) (hkn : k < n) (hr : r ≠ .none) (hv : ∀ g, v.ownBlock = some g → ρ g = r) (hw : ∀ g, v'.ownBlock = some g → v.ownBlock = some g ∨ n ≤ g) : rerole ρ v' r k = .none := by
  rw [rerole_other, hk]
  intro g hg e
  subst e
  rcases hw k hg with h | h
  · exact hr ((hv k h).symm.trans hk)
  · omega
open Classical in
/-- The users of a name among the first k clauses. -/
noncomputable def UL (l : List Dfn) (k : Nat) (x : ByteArray) : List Nat := if (firstAt l x).isSome then (List.range k).filter fun i => isDef l i && (usesAt l i).any fun y => decide (y = x) else []
/-- The definitions among the first k that wait for nothing. -/
def RL (l : List Dfn) (k : Nat) : List Nat := (List.range k).filter fun i => isDef l i && (missL l [] i).isEmpty
def cntTo (l : List Dfn) (k : Nat) : Nat := ((List.range k).filter (isDef l)).length
def natI (l : List Nat) : List Int := l.map fun (i : Nat) => (i : Int)
structure Ph2 (l : List Dfn) (k : Nat) (s : St) : Prop where
  D : ∀ i, s.D i ↔ (i < k ∧ isDef l i = true)
  S : ∀ i, s.S i ↔ (i < k ∧ isDef l i = true)
  M : ∀ i, s.S i → ∀ x, s.M i x ↔ x ∈ missL l [] i
  U : ∀ x, s.U x = UL l k x
  R : s.R.Perm (natI (RL l k))
  vo : s.vo = .slice none 0 0
  O : s.O = []
theorem Ph2.start (l : List Dfn) (bf bu bm bp : Nat) : Ph2 l 0 (St0 bf bu bm bp) where
  D i := by simp [St0]
  S i := by simp [St0]
  M i h := h.elim
  U x := by simp [St0, UL]
  R := by simp [St0, RL, natI]
  vo := rfl
  O := rfl
structure Ph3 (l : List Dfn) (k j : Nat) (s : St) : Prop where
  D : ∀ i, s.D i ↔ (i < k ∧ isDef l i = true)
  S : ∀ i, s.S i ↔ ((i < k ∧ isDef l i = true) ∨ i = k)
  M : ∀ i, i < k → s.S i → ∀ x, s.M i x ↔ x ∈ missL l [] i
  Mk : ∀ x, s.M k x ↔ (x ∈ (usesAt l k).take j ∧ (firstAt l x).isSome = true)
  U : ∀ x, s.U x = if (firstAt l x).isSome = true ∧ x ∈ (usesAt l k).take j then UL l k x ++ [k] else UL l k x
  R : s.R.Perm (natI (RL l k))
  vo : s.vo = .slice none 0 0
  O : s.O = []
theorem Ph2.skip {l : List Dfn} {k : Nat} {s : St} (h : Ph2 l k s) (hd : isDef l k = false) : Ph2 l (k + 1) s ∧ cntTo l (k + 1) = cntTo l k := by
  have hi : ∀ i, (i < k + 1 ∧ isDef l i = true) ↔ (i < k ∧ isDef l i = true) := fun i => by
    constructor
    · rintro ⟨h1, h2⟩
      refine ⟨?_, h2⟩
      rcases Nat.lt_or_ge i k with h' | h'
      · exact h'
      · obtain rfl : i = k := by omega
        rw [hd] at h2; cases h2
    · rintro ⟨h1, h2⟩; exact ⟨by omega, h2⟩
  refine ⟨{ D := fun i => (h.D i).trans (hi i).symm, S := fun i => (h.S i).trans (hi i).symm, M := h.M, U := fun x => ?_, R := ?_, vo := h.vo, O := h.O }, ?_⟩
  · rw [h.U]
    unfold UL
    rw [List.range_succ, List.filter_append]
    simp [hd]
  · refine h.R.trans (List.Perm.of_eq ?_)
    unfold RL
    rw [List.range_succ, List.filter_append]
    simp [hd]
  · unfold cntTo
    rw [List.range_succ, List.filter_append]
    simp [hd]
theorem Ph2.enter {l : List Dfn} {k : Nat} {s : St} (h : Ph2 l k s) (b : Nat) : Ph3 l k 0 (s.newSet k b) where
  D i := h.D i
  S i := by
    show (i = k ∨ s.S i) ↔ _
    rw [h.S]; exact Or.comm
  M i hi hS x := by
    show upN s.M k (fun _ => False) i x ↔ _
    rw [upN_other _ _ (by omega)]
    refine h.M i ?_ x
    rcases hS with e | e
    · omega
    · exact e
  Mk x := by
    show upN s.M k (fun _ => False) k x ↔ _
    rw [upN_same]; simp
  U x := by
    show s.U x = _
    rw [h.U]; simp
  R := h.R
  vo := h.vo
  O := h.O
theorem take_succ_mem {α : Type} {l : List α} {j : Nat} (hj : j < l.length) (x : α) : x ∈ l.take (j + 1) ↔ x ∈ l.take j ∨ x = l[j] := by
  rw [List.take_succ_eq_append_getElem hj, List.mem_append, List.mem_singleton]
/-- A name without a definition. -/
theorem Ph3.skip {l : List Dfn} {k j : Nat} {s : St} (h : Ph3 l k j s) (hj : j < (usesAt l k).length) (hf : firstAt l (usesAt l k)[j] = none) : Ph3 l k (j + 1) s := by
  have hx : ∀ x, ((firstAt l x).isSome = true ∧ x ∈ (usesAt l k).take (j + 1)) ↔ ((firstAt l x).isSome = true ∧ x ∈ (usesAt l k).take j) := fun x => by
    rw [take_succ_mem hj]
    constructor
    · rintro ⟨h1, h2 | rfl⟩
      · exact ⟨h1, h2⟩
      · rw [hf] at h1; cases h1
    · rintro ⟨h1, h2⟩; exact ⟨h1, Or.inl h2⟩
  exact { h with
    Mk := fun x => by rw [h.Mk, and_comm, ← hx x, and_comm]
    U := fun x => by
      rw [h.U]
      by_cases hc : (firstAt l x).isSome = true ∧ x ∈ (usesAt l k).take j
      · rw [if_pos hc, if_pos ((hx x).2 hc)]
      · rw [if_neg hc, if_neg fun h' => hc ((hx x).1 h')] }
/-- A name with a definition: it goes into the set, and k among its users. -/
theorem Ph3.step {l : List Dfn} {k j : Nat} {s : St} (h : Ph3 l k j s) (hj : j < (usesAt l k).length) (hf : (firstAt l (usesAt l k)[j]).isSome = true) (hnd : (usesAt l k).Nodup) (v : Value) :
    Ph3 l k (j + 1) ((s.setM k fun x => x = (usesAt l k)[j] ∨ s.M k x).setU (usesAt l k)[j] v (s.U (usesAt l k)[j] ++ [k])) := by
  have hnot : (usesAt l k)[j] ∉ (usesAt l k).take j := by
    intro hm
    obtain ⟨q, hq, e⟩ := List.mem_iff_getElem.1 hm
    have hq' : q < j := by simp at hq; omega
    rw [List.getElem_take] at e
    have := (List.pairwise_iff_getElem.1 hnd) q j (by omega) hj hq'
    exact this e
  refine { D := h.D, S := h.S, M := fun i hi hS x => ?_, Mk := fun x => ?_, U := fun x => ?_, R := h.R, vo := h.vo, O := h.O }
  · show upN s.M k _ i x ↔ _
    rw [upN_other _ _ (by omega)]
    exact h.M i hi hS x
  · show upN s.M k _ k x ↔ _
    rw [upN_same, take_succ_mem hj, h.Mk]
    constructor
    · rintro (rfl | ⟨h1, h2⟩)
      · exact ⟨Or.inr rfl, hf⟩
      · exact ⟨Or.inl h1, h2⟩
    · rintro ⟨h1 | rfl, h2⟩
      · exact Or.inr ⟨h1, h2⟩
      · exact Or.inl rfl
  · show upS s.U (usesAt l k)[j] (s.U (usesAt l k)[j] ++ [k]) x = _
    by_cases e : x = (usesAt l k)[j]
    · rw [e, upS_same, if_pos ⟨hf, (take_succ_mem hj _).2 (Or.inr rfl)⟩, h.U, if_neg fun h' => hnot h'.2]
    · rw [upS_other _ _ e, h.U]
      have hx : ((firstAt l x).isSome = true ∧ x ∈ (usesAt l k).take (j + 1)) ↔ ((firstAt l x).isSome = true ∧ x ∈ (usesAt l k).take j) := by
        rw [take_succ_mem hj]
        exact ⟨fun ⟨h1, h2⟩ => ⟨h1, h2.resolve_right e⟩, fun ⟨h1, h2⟩ => ⟨h1, Or.inl h2⟩⟩
      by_cases hc : (firstAt l x).isSome = true ∧ x ∈ (usesAt l k).take j
      · rw [if_pos hc, if_pos (hx.2 hc)]
      · rw [if_neg hc, if_neg fun h' => hc (hx.1 h')]
theorem isSome_iff {l : List Dfn} {x : ByteArray} : (firstAt l x).isSome = true ↔ ∃ d, firstAt l x = some d := by
  cases firstAt l x <;> simp
theorem UL_succ {l : List Dfn} {k : Nat} (hd : isDef l k = true) (x : ByteArray) : UL l (k + 1) x = if (firstAt l x).isSome = true ∧ x ∈ usesAt l k then UL l k x ++ [k] else UL l k x := by
  unfold UL
  by_cases hs : (firstAt l x).isSome = true
  · simp only [hs, if_true, true_and]
    rw [List.range_succ, List.filter_append]
    by_cases hm : x ∈ usesAt l k
    · rw [if_pos hm]
      congr 1
      have : ((usesAt l k).any fun y => decide (y = x)) = true := List.any_eq_true.2 ⟨x, hm, by simp⟩
      simp [hd, this]
    · rw [if_neg hm]
      have : ((usesAt l k).any fun y => decide (y = x)) = false := by
        rw [List.any_eq_false]
        intro y hy
        simp only [decide_eq_true_eq]
        intro e
        exact hm (e ▸ hy)
      simp [hd, this]
  · simp [hs]
/-- The set is done: it is entered in missing. -/
theorem Ph3.leave {l : List Dfn} {k : Nat} {s : St} (h : Ph3 l k (usesAt l k).length s) (hd : isDef l k = true) (he : missL l [] k ≠ []) : Ph2 l (k + 1) (s.setD k) ∧ cntTo l (k + 1) = cntTo l k + 1 := by
  have hi : ∀ i, (i < k + 1 ∧ isDef l i = true) ↔ (i = k ∨ (i < k ∧ isDef l i = true)) := fun i => ⟨fun ⟨h1, h2⟩ => by
    rcases Nat.lt_or_ge i k with h' | h'
    · exact Or.inr ⟨h', h2⟩
    · exact Or.inl (by omega), fun h' => by
    rcases h' with rfl | ⟨h1, h2⟩
    · exact ⟨by omega, hd⟩
    · exact ⟨by omega, h2⟩⟩
  refine ⟨{ D := fun i => ?_, S := fun i => ?_, M := fun i hS x => ?_, U := fun x => ?_, R := ?_, vo := h.vo, O := h.O }, ?_⟩
  · show (i = k ∨ s.D i) ↔ _
    rw [h.D, hi]
  · show s.S i ↔ _
    rw [h.S, hi, Or.comm]
  · show s.M i x ↔ _
    by_cases e : i = k
    · subst e
      rw [h.Mk, List.take_length, mem_miss]
      constructor
      · rintro ⟨h1, h2⟩
        obtain ⟨d, hd⟩ := isSome_iff.1 h2
        exact ⟨h1, d, hd, by simp⟩
      · rintro ⟨h1, d, h2, _⟩
        exact ⟨h1, isSome_iff.2 ⟨d, h2⟩⟩
    · refine h.M i ?_ hS x
      have := (h.S i).1 hS
      omega
  · show s.U x = _
    rw [h.U, List.take_length, UL_succ hd]
  · refine h.R.trans (List.Perm.of_eq ?_)
    unfold RL
    rw [List.range_succ, List.filter_append]
    simp [hd, he]
  · unfold cntTo
    rw [List.range_succ, List.filter_append]
    simp [hd]
theorem Ph3.leave0 {l : List Dfn} {k : Nat} {s : St} (h : Ph3 l k (usesAt l k).length s) (hd : isDef l k = true) (he : missL l [] k = []) {pv : Value} {R : List Int} (hR : R.Perm (s.R ++ [(k : Int)])) : Ph2 l (k + 1) ((s.setD k).setP pv R) ∧ cntTo l (k + 1) = cntTo l k + 1 := by
  have hi : ∀ i, (i < k + 1 ∧ isDef l i = true) ↔ (i = k ∨ (i < k ∧ isDef l i = true)) := fun i => ⟨fun ⟨h1, h2⟩ => by
    rcases Nat.lt_or_ge i k with h' | h'
    · exact Or.inr ⟨h', h2⟩
    · exact Or.inl (by omega), fun h' => by
    rcases h' with rfl | ⟨h1, h2⟩
    · exact ⟨by omega, hd⟩
    · exact ⟨by omega, h2⟩⟩
  refine ⟨{ D := fun i => ?_, S := fun i => ?_, M := fun i hS x => ?_, U := fun x => ?_, R := ?_, vo := h.vo, O := h.O }, ?_⟩
  · show (i = k ∨ s.D i) ↔ _
    rw [h.D, hi]
  · show s.S i ↔ _
    rw [h.S, hi, Or.comm]
  · show s.M i x ↔ _
    by_cases e : i = k
    · subst e
      rw [h.Mk, List.take_length, mem_miss]
      constructor
      · rintro ⟨h1, h2⟩
        obtain ⟨d, hd⟩ := isSome_iff.1 h2
        exact ⟨h1, d, hd, by simp⟩
      · rintro ⟨h1, d, h2, _⟩
        exact ⟨h1, isSome_iff.2 ⟨d, h2⟩⟩
    · refine h.M i ?_ hS x
      have := (h.S i).1 hS
      omega
  · show s.U x = _
    rw [h.U, List.take_length, UL_succ hd]
  · refine hR.trans ?_
    have e : natI (RL l (k + 1)) = natI (RL l k) ++ [(k : Int)] := by
      unfold RL natI
      rw [List.range_succ, List.filter_append, List.map_append]
      simp [hd, he]
    rw [e]
    exact List.Perm.append_right _ h.R
  · unfold cntTo
    rw [List.range_succ, List.filter_append]
    simp [hd]
theorem refNames_len2 (l : List ByteArray) : (refNames l).length ≤ l.length := by have := fold_len l []; simpa [refNames] using this
mutual
theorem names_fit : (e : Ex) → e.fits → ∀ x ∈ namesE e, x.size ≤ 1000000000000000
  | .mk op name words lo hi args, h, x, hx => by
    obtain ⟨h1, h2⟩ := fits_parts2 h
    rw [namesE, List.mem_append] at hx
    rcases hx with hx | hx
    · split at hx
      · simp at hx; subst hx; exact h1
      · simp at hx
    · exact namesL_fit args h2 x hx
theorem namesL_fit : (l : List Ex) → (∀ y ∈ l, y.fits) → ∀ x ∈ namesL l, x.size ≤ 1000000000000000
  | [], _, x, hx => by rw [namesL] at hx; simp at hx
  | e :: r, h, x, hx => by
    rw [namesL, List.mem_append] at hx
    rcases hx with hx | hx
    · exact names_fit e (h e (by simp)) x hx
    · exact namesL_fit r (fun y hy => h y (by simp [hy])) x hx
end
/-- How many entries the maps may have after k clauses. -/
def tb (k : Nat) : Nat := 1000 + k * 1000000
theorem tb_succ (k : Nat) : tb k + 1000000 ≤ tb (k + 1) := by unfold tb; omega
theorem tb_le {k : Nat} (h : k ≤ 1000) : tb k ≤ 2000000000 := by unfold tb; omega
theorem tb_zero : 1000 ≤ tb 0 := by unfold tb; omega
theorem cnt_le (l : List Dfn) (k : Nat) : cntTo l k ≤ k := by
  unfold cntTo
  have := List.length_filter_le (isDef l) (List.range k)
  simpa using this
theorem UL_le (l : List Dfn) (k : Nat) (x : ByteArray) : (UL l k x).length ≤ k := by
  unfold UL
  split
  · have := List.length_filter_le (fun i => isDef l i && (usesAt l i).any fun y => decide (y = x)) (List.range k)
    simpa using this
  · simp
theorem RL_le (l : List Dfn) (k : Nat) : (RL l k).length ≤ k := by
  unfold RL
  have := List.length_filter_le (fun i => isDef l i && (missL l [] i).isEmpty) (List.range k)
  simpa using this
end Go.Proofs.YtfjlglefodndjaaDoor

namespace Go.Proofs.YtfjlglefodndjaaDoor
open Go.RowKit Go.Maps

/-! The last stage of check.Order: definitions are taken from the pile. -/
structure Ph4 (l : List Dfn) (s : St) : Prop where
  D : ∀ i, s.D i ↔ isDef l i = true
  S : ∀ i, s.S i ↔ isDef l i = true
  M : ∀ i, isDef l i = true → ∀ x, s.M i x ↔ x ∈ missL l s.O i
  U : ∀ x, s.U x = UL l l.length x
  inv : ∃ R, s.R.Perm (natI R) ∧ OInv l s.O R
theorem Ph2.finish {l : List Dfn} {s : St} (h : Ph2 l l.length s) : Ph4 l s where
  D i := (h.D i).trans ⟨fun h => h.2, fun h => ⟨isDef_lt h, h⟩⟩
  S i := (h.S i).trans ⟨fun h => h.2, fun h => ⟨isDef_lt h, h⟩⟩
  M i hi x := by rw [h.O]; exact h.M i ((h.S i).2 ⟨isDef_lt hi, hi⟩) x
  U := h.U
  inv := ⟨RL l l.length, h.R, by rw [h.O]; exact OInv.start l⟩
theorem natI_perm {R : List Nat} {z : Int} {ys : List Int} (h : (natI R).Perm (z :: ys)) : ∃ (i : Nat) (R' : List Nat), z = i ∧ R.Perm (i :: R') ∧ ys.Perm (natI R') := by
  have hz : z ∈ natI R := h.mem_iff.2 (by simp)
  obtain ⟨i, hi, rfl⟩ := List.mem_map.1 hz
  refine ⟨i, R.erase i, rfl, List.perm_cons_erase hi, ?_⟩
  have h1 : (natI R).Perm (natI (i :: R.erase i)) := (List.perm_cons_erase hi).map _
  have h2 : (natI (i :: R.erase i)) = (i : Int) :: natI (R.erase i) := rfl
  rw [h2] at h1
  exact List.Perm.cons_inv (h.symm.trans h1)
theorem mem_miss_snoc {l : List Dfn} {o : List Nat} {i u : Nat} (hf : firstAt l (nameAt l i) = some i) (x : ByteArray) : x ∈ missL l (o ++ [i]) u ↔ (x ∈ missL l o u ∧ x ≠ nameAt l i) := by
  rw [mem_miss, mem_miss]
  constructor
  · rintro ⟨h1, d, h2, h3⟩
    simp only [List.mem_append, List.mem_singleton, not_or] at h3
    refine ⟨⟨h1, d, h2, h3.1⟩, fun e => ?_⟩
    rw [e, hf] at h2
    cases h2
    exact h3.2 rfl
  · rintro ⟨⟨h1, d, h2, h3⟩, h4⟩
    refine ⟨h1, d, h2, ?_⟩
    simp only [List.mem_append, List.mem_singleton, not_or]
    exact ⟨h3, fun e => h4 (by rw [← e]; exact (first_def h2).2.symm)⟩
/-- i was taken, and its users are being looked at. -/
structure Ph5 (l : List Dfn) (o : List Nat) (i : Nat) (R' : List Nat) (uv : ByteArray → Option Value) (vo : Value) (j : Nat) (s : St) : Prop where
  D : ∀ i, s.D i ↔ isDef l i = true
  S : ∀ i, s.S i ↔ isDef l i = true
  M : ∀ u, isDef l u = true → ∀ x, s.M u x ↔ x ∈ missL l (if u ∈ (UL l l.length (nameAt l i)).take j then o ++ [i] else o) u
  U : ∀ x, s.U x = UL l l.length x
  uv : s.uv = uv
  O : s.O = o ++ [i]
  vo : s.vo = vo
  R : s.R.Perm (natI (R' ++ ((UL l l.length (nameAt l i)).take j).filter fun u => (missL l (o ++ [i]) u).isEmpty))
theorem UL_nodup (l : List Dfn) (k : Nat) (x : ByteArray) : (UL l k x).Nodup := by
  unfold UL
  split
  · exact List.nodup_range.filter _
  · exact List.nodup_nil
theorem UL_users {l : List Dfn} {x : ByteArray} {d : Nat} (h : firstAt l x = some d) : UL l l.length x = usersOf l x := by
  unfold UL usersOf
  rw [h]; rfl
theorem UL_def {l : List Dfn} {k : Nat} {x : ByteArray} {u : Nat} (h : u ∈ UL l k x) : isDef l u = true ∧ x ∈ usesAt l u := by
  unfold UL at h
  split at h
  · simp only [List.mem_filter, Bool.and_eq_true, List.any_eq_true, decide_eq_true_eq, exists_eq_right] at h
    exact h.2
  · simp at h
theorem Ph5.start {l : List Dfn} {s : St} {R' : List Nat} {i : Nat} {R1 : List Int} {pv vo : Value} (h : Ph4 l s) (hR : R1.Perm (natI R')) : Ph5 l s.O i R' s.uv vo 0 ((s.setP pv R1).setO vo (s.O ++ [i])) where
  D := h.D
  S := h.S
  M u hu x := by
    show s.M u x ↔ _
    simpa using h.M u hu x
  U := h.U
  uv := rfl
  O := rfl
  vo := rfl
  R := by
    show R1.Perm _
    simpa using hR
theorem not_take {α : Type} {l : List α} (h : l.Nodup) {j : Nat} (hj : j < l.length) : l[j] ∉ l.take j := by
  intro hm
  obtain ⟨q, hq, e⟩ := List.mem_iff_getElem.1 hm
  have hq' : q < j := by simp at hq; omega
  rw [List.getElem_take] at e
  exact (List.pairwise_iff_getElem.1 h) q j (by omega) hj hq' e
theorem Ph5.del {l : List Dfn} {o : List Nat} {i : Nat} {R' : List Nat} {uv : ByteArray → Option Value} {vo : Value} {j : Nat} {s : St} (h : Ph5 l o i R' uv vo j s) (hf : firstAt l (nameAt l i) = some i) (hj : j < (UL l l.length (nameAt l i)).length)
    {u : Nat} (hu : u = (UL l l.length (nameAt l i))[j]) : (∀ y, (s.M u y ∧ y ≠ nameAt l i) ↔ y ∈ missL l (o ++ [i]) u) ∧ ((missL l (o ++ [i]) u).isEmpty = false → Ph5 l o i R' uv vo (j + 1) (s.setM u fun y => s.M u y ∧ y ≠ nameAt l i)) ∧
    ((missL l (o ++ [i]) u).isEmpty = true → ∀ pv R1, R1.Perm (s.R ++ [(u : Int)]) → Ph5 l o i R' uv vo (j + 1) ((s.setM u fun y => s.M u y ∧ y ≠ nameAt l i).setP pv R1)) := by
  have hud := UL_def (show u ∈ UL l l.length (nameAt l i) by rw [hu]; exact List.getElem_mem hj)
  have hnt : u ∉ (UL l l.length (nameAt l i)).take j := by rw [hu]; exact not_take (UL_nodup l _ _) hj
  have key : ∀ y, (s.M u y ∧ y ≠ nameAt l i) ↔ y ∈ missL l (o ++ [i]) u := fun y => by
    rw [h.M u hud.1, if_neg hnt, mem_miss_snoc hf]
  have hM : ∀ v, isDef l v = true → ∀ x, (upN s.M u fun y => s.M u y ∧ y ≠ nameAt l i) v x ↔ x ∈ missL l (if v ∈ (UL l l.length (nameAt l i)).take (j + 1) then o ++ [i] else o) v := by
    intro v hv x
    by_cases e : v = u
    · subst e
      rw [upN_same, if_pos ((take_succ_mem hj _).2 (Or.inr hu))]
      exact key x
    · rw [upN_other _ _ e, h.M v hv]
      have : v ∈ (UL l l.length (nameAt l i)).take (j + 1) ↔ v ∈ (UL l l.length (nameAt l i)).take j := by
        rw [take_succ_mem hj]
        exact ⟨fun h => h.resolve_right (by rw [← hu]; exact e), Or.inl⟩
      by_cases hc : v ∈ (UL l l.length (nameAt l i)).take j
      · rw [if_pos hc, if_pos (this.2 hc)]
      · rw [if_neg hc, if_neg fun h' => hc (this.1 h')]
  refine ⟨key, fun hne => ?_, fun hem pv R1 hR1 => ?_⟩
  · refine { h with M := hM, R := ?_ }
    refine h.R.trans (List.Perm.of_eq ?_)
    rw [List.take_succ_eq_append_getElem hj, List.filter_append, ← hu]
    simp [hne]
  · refine { h with M := hM, R := ?_ }
    refine hR1.trans ?_
    rw [List.take_succ_eq_append_getElem hj, List.filter_append, ← hu]
    have e : natI (R' ++ (((UL l l.length (nameAt l i)).take j).filter (fun u => (missL l (o ++ [i]) u).isEmpty) ++ [u].filter fun u => (missL l (o ++ [i]) u).isEmpty)) = natI (R' ++ ((UL l l.length (nameAt l i)).take j).filter fun u => (missL l (o ++ [i]) u).isEmpty) ++ [(u : Int)] := by
      simp [natI, hem]
    rw [e]
    exact List.Perm.append_right _ h.R
theorem Ph5.finish {l : List Dfn} {o : List Nat} {i : Nat} {R R' : List Nat} {uv : ByteArray → Option Value} {vo : Value} {s : St} (h : Ph5 l o i R' uv vo (UL l l.length (nameAt l i)).length s) (hf : firstAt l (nameAt l i) = some i) (hi : OInv l o R) (hR : R.Perm (i :: R')) : Ph4 l s where
  D := h.D
  S := h.S
  M u hu x := by
    rw [h.M u hu, h.O, List.take_length]
    by_cases hc : u ∈ UL l l.length (nameAt l i)
    · rw [if_pos hc]
    · rw [if_neg hc, mem_miss_snoc hf]
      refine ⟨fun hx => ⟨hx, fun e => hc ?_⟩, fun hx => hx.1⟩
      have h1 := (mem_miss.1 hx).1
      rw [e] at h1
      rw [UL_users hf]
      unfold usersOf
      simp only [List.mem_filter, List.mem_range, Bool.and_eq_true, List.any_eq_true, decide_eq_true_eq, exists_eq_right]
      exact ⟨isDef_lt hu, hu, h1⟩
  U := h.U
  inv := by
    refine ⟨R' ++ freed l o i, ?_, by rw [h.O]; exact hi.first hR hf⟩
    have := h.R
    rw [List.take_length, UL_users hf] at this
    exact this
theorem Ph4.other {l : List Dfn} {s : St} {R R' : List Nat} {i : Nat} {R1 : List Int} {pv vo : Value} (h : Ph4 l s) (hi : OInv l s.O R) (hR : R.Perm (i :: R')) (hR1 : R1.Perm (natI R')) (hn : ∀ x, firstAt l x ≠ some i) : Ph4 l ((s.setP pv R1).setO vo (s.O ++ [i])) where
  D := h.D
  S := h.S
  M u hu x := by
    show s.M u x ↔ x ∈ missL l (s.O ++ [i]) u
    rw [h.M u hu, mem_miss, mem_miss]
    constructor
    · rintro ⟨h1, d, h2, h3⟩
      refine ⟨h1, d, h2, ?_⟩
      simp only [List.mem_append, List.mem_singleton, not_or]
      exact ⟨h3, fun e => hn x (by rw [h2, e])⟩
    · rintro ⟨h1, d, h2, h3⟩
      simp only [List.mem_append, List.mem_singleton, not_or] at h3
      exact ⟨h1, d, h2, h3.1⟩
  U := h.U
  inv := ⟨R', hR1, hi.other hR hn⟩
theorem cnt_all (l : List Dfn) : cntTo l l.length = countOf l := rfl
theorem first_of_def {l : List Dfn} {i : Nat} (h : isDef l i = true) : ∃ d, firstAt l (nameAt l i) = some d ∧ d ≤ i := by
  have hlt := isDef_lt h
  cases hf : firstAt l (nameAt l i) with
  | none =>
    unfold firstAt at hf
    rw [List.findIdx?_eq_none_iff] at hf
    have := hf l[i] (List.getElem_mem hlt)
    unfold isDef at h
    unfold nameAt at this
    rw [List.getElem?_eq_getElem hlt] at h this
    simp [h] at this
  | some d =>
    refine ⟨d, rfl, ?_⟩
    unfold firstAt at hf
    rw [List.findIdx?_eq_some_iff_getElem] at hf
    obtain ⟨_, _, h3⟩ := hf
    rcases Nat.lt_or_ge i d with h' | h'
    · have := h3 i h'
      unfold isDef at h
      unfold nameAt at this
      rw [List.getElem?_eq_getElem hlt] at h this
      simp [h] at this
    · exact h'
end Go.Proofs.YtfjlglefodndjaaDoor
