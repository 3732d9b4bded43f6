/-
  Texts of the claim, joined: Cla, Schema, Conv, AppAt.
-/
import Derived.Test.YtfjlglefodndjaaBe10
import Derived.Test.YtfjlglefodndjaaBe04
import Derived.Test.YtfjlglefodndjaaBe01
import Derived.Laws.BytesString
import Derived.Test.YtfjlglefodndjaaBe02
import Derived.Test.YtfjlglefodndjaaBe03
import Derived.Maps.AppendAt
namespace Go.Proofs.Ytfjlglefodndjaa
open Go.RowKit

/-! Clauses with their write-backs, in memory. -/
inductive Wb where
  | mk (name : ByteArray) (cond : Ex) (unl : List Wb)
def Wb.name : Wb → ByteArray | .mk n _ _ => n
def Wb.cond : Wb → Ex | .mk _ c _ => c
def Wb.unl : Wb → List Wb | .mk _ _ u => u
structure Cla where
  kind : Int
  name : ByteArray
  cond : Ex
  unl : List Wb
  amount : Int
def Cla.cl (c : Cla) : Cl := ⟨c.kind, c.name, c.cond⟩

/-- A write-back's cells. -/
structure WbV where
  name : ByteArray
  x : ExV
  au : Option Addr
  nu : Nat
  cu : Nat
def WbV.cells (v : WbV) : List Value := [.string v.name, .int .i64 v.x.op, .string v.x.name, .slice v.x.aw v.x.nw v.x.cw, .int .i64 v.x.lo, .int .i64 v.x.hi, .slice v.x.aa v.x.na v.x.ca, .slice v.au v.nu v.cu]
theorem WbV.len (c : WbV) : c.cells.length = 8 := rfl

/-- A row of v.cells.length cells from off on. -/
def RowAt (w : World) (b off : Nat) (cs : List Value) : Prop := ∀ j (h : j < cs.length), w.cell? ⟨b, off + j, none⟩ = some cs[j]
theorem RowAt.mono {w w' : World} {b off : Nat} {cs : List Value} (h : RowAt w b off cs) (hs : Sub w w') : RowAt w' b off cs := fun j hj => hs _ _ (h j hj)

mutual
def WbD (w : World) : Wb → Option Addr → Nat → Nat → Prop
  | .mk _ _ unl, au, nu, cu => nu = unl.length ∧ nu ≤ cu ∧ OkAddr au cu ∧ WbsD w unl au
def WbsD (w : World) : List Wb → Option Addr → Prop
  | [], _ => True
  | .mk name cond unl :: r, a => ∃ b off, a = some ⟨b, off, none⟩ ∧ (∃ v : WbV, v.name = name ∧ RowAt w b off v.cells ∧ IsEx w cond v.x.val ∧ v.nu = unl.length ∧ v.nu ≤ v.cu ∧ OkAddr v.au v.cu ∧ WbsD w unl v.au) ∧ WbsD w r (some ⟨b, off + 8, none⟩)
end
mutual
theorem WbD.mono {w w' : World} (he : Sub w w') : (e : Wb) → (au : Option Addr) → (nu cu : Nat) → WbD w e au nu cu → WbD w' e au nu cu
  | .mk name cond unl, au, nu, cu, h => by
    unfold WbD at h ⊢
    exact ⟨h.1, h.2.1, h.2.2.1, WbsD.mono he unl au h.2.2.2⟩
theorem WbsD.mono {w w' : World} (he : Sub w w') : (l : List Wb) → (a : Option Addr) → WbsD w l a → WbsD w' l a
  | [], _, _ => by unfold WbsD; trivial
  | .mk name cond unl :: r, a, h => by
    unfold WbsD at h ⊢
    obtain ⟨b, off, rfl, ⟨v, h0, h1, h2, h3, h4, h5, h6⟩, hr⟩ := h
    exact ⟨b, off, rfl, ⟨v, h0, h1.mono he, h2.mono he, h3, h4, h5, WbsD.mono he unl v.au h6⟩, WbsD.mono he r _ hr⟩
end
/-- The k-th write-back. -/
theorem WbsD.at {w : World} : (l : List Wb) → (a : Option Addr) → WbsD w l a → (k : Nat) → (hk : k < l.length) →
    ∃ b off, a = some ⟨b, off, none⟩ ∧ ∃ v : WbV, v.name = l[k].name ∧ RowAt w b (off + k * 8) v.cells ∧ IsEx w l[k].cond v.x.val ∧ v.nu = l[k].unl.length ∧ v.nu ≤ v.cu ∧ OkAddr v.au v.cu ∧ WbsD w l[k].unl v.au
  | [], _, _, k, hk => by simp at hk
  | .mk name cond unl :: r, a, h, 0, _ => by
    unfold WbsD at h
    obtain ⟨b, off, rfl, ⟨v, h0, h1, h2, h3, h4, h5, h6⟩, hr⟩ := h
    refine ⟨b, off, rfl, v, ?_⟩
    simp only [Nat.zero_mul, Nat.add_zero]
    exact ⟨h0, h1, h2, h3, h4, h5, h6⟩
  | .mk name cond unl :: r, a, h, k + 1, hk => by
    unfold WbsD at h
    obtain ⟨b, off, rfl, _, hr⟩ := h
    obtain ⟨b', off', e1, rest⟩ := WbsD.at r _ hr k (by simpa using hk)
    simp at e1
    obtain ⟨rfl, rfl⟩ := e1
    have e1 : off + 8 + k * 8 = off + (k + 1) * 8 := by omega
    rw [e1] at rest
    exact ⟨b, off, rfl, by simpa using rest⟩
/-- Write-backs laid one by one. -/
theorem WbsD.of {w : World} {b : Nat} : (l : List Wb) → (off : Nat) → (vs : List WbV) → l.length = vs.length → (∀ i (h1 : i < l.length) (h2 : i < vs.length), vs[i].name = l[i].name ∧ RowAt w b (off + i * 8) vs[i].cells ∧ IsEx w l[i].cond vs[i].x.val ∧ vs[i].nu = l[i].unl.length ∧ vs[i].nu ≤ vs[i].cu ∧ OkAddr vs[i].au vs[i].cu ∧ WbsD w l[i].unl vs[i].au) → WbsD w l (some ⟨b, off, none⟩)
  | [], _, _, _, _ => by unfold WbsD; trivial
  | .mk name cond unl :: r, off, [], hl, _ => by simp at hl
  | .mk name cond unl :: r, off, v :: vs, hl, h => by
    unfold WbsD
    obtain ⟨h0, h1, h2, h3, h4, h5, h6⟩ := h 0 (by simp) (by simp)
    simp only [List.getElem_cons_zero, Nat.zero_mul, Nat.add_zero] at h0 h1 h2 h3 h4 h5 h6
    refine ⟨b, off, rfl, ⟨v, h0, h1, h2, h3, h4, h5, h6⟩, WbsD.of r (off + 8) vs (by simpa using hl) fun i g1 g2 => ?_⟩
    have := h (i + 1) (by simpa using g1) (by simpa using g2)
    have e1 : off + (i + 1) * 8 = off + 8 + i * 8 := by omega
    rw [e1] at this
    simpa using this

/-- A clause and its cells. -/
def IsCla (w : World) (c : Cla) (v : ClV) : Prop := v.kind = c.kind ∧ v.name = c.name ∧ IsEx w c.cond v.x.val ∧ v.nu = c.unl.length ∧ v.nu ≤ v.cu ∧ OkAddr v.au v.cu ∧ WbsD w c.unl v.au ∧ v.amount = c.amount
theorem IsCla.mono {w w' : World} {c : Cla} {v : ClV} (h : IsCla w c v) (hs : Sub w w') : IsCla w' c v :=
  ⟨h.1, h.2.1, h.2.2.1.mono hs, h.2.2.2.1, h.2.2.2.2.1, h.2.2.2.2.2.1, WbsD.mono hs _ _ h.2.2.2.2.2.2.1, h.2.2.2.2.2.2.2⟩
/-- Clauses in a slice. -/
def IsClas (w : World) (l : List Cla) (a : Option Addr) (n c : Nat) : Prop :=
  ∃ vs : List ClV, IsRows w 10 ClV.cells vs a n c ∧ l.length = vs.length ∧ ∀ i (h1 : i < l.length) (h2 : i < vs.length), IsCla w l[i] vs[i]
theorem IsClas.mono {w w' : World} {l : List Cla} {a : Option Addr} {n c : Nat} (h : IsClas w l a n c) (hs : Sub w w') : IsClas w' l a n c := by
  obtain ⟨vs, h1, h2, h3⟩ := h
  exact ⟨vs, h1.mono hs, h2, fun i hi hv => (h3 i hi hv).mono hs⟩
theorem IsClas.ext {w w' : World} {l : List Cla} {a : Option Addr} {n c : Nat} (h : IsClas w l a n c) (he : Ext w w') : IsClas w' l a n c := h.mono he.sub
theorem IsClas.len {w : World} {l : List Cla} {a : Option Addr} {n c : Nat} (h : IsClas w l a n c) : n = l.length := by
  obtain ⟨vs, h1, h2, _⟩ := h
  rw [h2]; exact h1.1
theorem IsClas.nil (w : World) : IsClas w [] none 0 0 := ⟨[], ⟨rfl, Nat.le_refl _, Or.inl ⟨rfl, rfl⟩, fun i h => by simp at h⟩, rfl, fun i h => by simp at h⟩
theorem IsClas.cls {w : World} {l : List Cla} {a : Option Addr} {n c : Nat} (h : IsClas w l a n c) : IsCls w (l.map Cla.cl) a n c := by
  obtain ⟨vs, h1, h2, h3⟩ := h
  refine ⟨vs, h1, by simpa using h2, fun i hi hv => ?_⟩
  have hi' : i < l.length := by simpa using hi
  have := h3 i hi' hv
  simp only [List.getElem_map, Cla.cl]
  exact ⟨this.1, this.2.1, this.2.2.1⟩
/-- The first k clauses. -/
theorem IsClas.take {w : World} {l : List Cla} {a : Option Addr} {n c : Nat} (h : IsClas w l a n c) {k : Nat} (hk : k ≤ n) : IsClas w (l.take k) a k c := by
  have hn := h.len
  obtain ⟨vs, ⟨g1, g2, g3, g4⟩, h2, h3⟩ := h
  refine ⟨vs.take k, ⟨by simp; omega, by omega, g3, fun i hi => ?_⟩, by simp [h2], fun i hi hv => ?_⟩
  · have hi' : i < vs.length := by simp at hi; omega
    obtain ⟨b, off, e, hc⟩ := g4 i hi'
    refine ⟨b, off, e, fun j hj => ?_⟩
    simp only [List.getElem_take] at hj ⊢
    exact hc j hj
  · simp only [List.getElem_take]
    exact h3 i (by simp at hi; omega) (by simp at hv; omega)
/-- The k-th clause: its ten cells. -/
theorem IsClas.at {w : World} {l : List Cla} {a : Option Addr} {n c : Nat} (h : IsClas w l a n c) {k : Nat} (hk : k < l.length) : ∃ (b off : Nat) (v : ClV), a = some ⟨b, off, none⟩ ∧ IsCla w l[k] v ∧ RowAt w b (off + k * 10) v.cells := by
  obtain ⟨vs, h1, h2, h3⟩ := h
  have hk' : k < vs.length := by omega
  obtain ⟨b, off, e, hc⟩ := h1.2.2.2 k hk'
  exact ⟨b, off, vs[k], e, h3 k hk hk', hc⟩
theorem RowAt.ten {w : World} {b off : Nat} {v : ClV} (h : RowAt w b off v.cells) : w.cell? ⟨b, off, none⟩ = some (.int .i64 v.kind) ∧ w.cell? ⟨b, off + 1, none⟩ = some (.string v.name) ∧ w.cell? ⟨b, off + 2, none⟩ = some (.int .i64 v.x.op) ∧ w.cell? ⟨b, off + 3, none⟩ = some (.string v.x.name) ∧
    w.cell? ⟨b, off + 4, none⟩ = some (.slice v.x.aw v.x.nw v.x.cw) ∧ w.cell? ⟨b, off + 5, none⟩ = some (.int .i64 v.x.lo) ∧ w.cell? ⟨b, off + 6, none⟩ = some (.int .i64 v.x.hi) ∧ w.cell? ⟨b, off + 7, none⟩ = some (.slice v.x.aa v.x.na v.x.ca) ∧
    w.cell? ⟨b, off + 8, none⟩ = some (.slice v.au v.nu v.cu) ∧ w.cell? ⟨b, off + 9, none⟩ = some (.int .i64 v.amount) :=
  ⟨h 0 (by simp [ClV.len]), h 1 (by simp [ClV.len]), h 2 (by simp [ClV.len]), h 3 (by simp [ClV.len]), h 4 (by simp [ClV.len]), h 5 (by simp [ClV.len]), h 6 (by simp [ClV.len]), h 7 (by simp [ClV.len]), h 8 (by simp [ClV.len]), h 9 (by simp [ClV.len])⟩
theorem RowAt.eight {w : World} {b off : Nat} {v : WbV} (h : RowAt w b off v.cells) : w.cell? ⟨b, off, none⟩ = some (.string v.name) ∧ w.cell? ⟨b, off + 1, none⟩ = some (.int .i64 v.x.op) ∧ w.cell? ⟨b, off + 2, none⟩ = some (.string v.x.name) ∧
    w.cell? ⟨b, off + 3, none⟩ = some (.slice v.x.aw v.x.nw v.x.cw) ∧ w.cell? ⟨b, off + 4, none⟩ = some (.int .i64 v.x.lo) ∧ w.cell? ⟨b, off + 5, none⟩ = some (.int .i64 v.x.hi) ∧ w.cell? ⟨b, off + 6, none⟩ = some (.slice v.x.aa v.x.na v.x.ca) ∧ w.cell? ⟨b, off + 7, none⟩ = some (.slice v.au v.nu v.cu) :=
  ⟨h 0 (by simp [WbV.len]), h 1 (by simp [WbV.len]), h 2 (by simp [WbV.len]), h 3 (by simp [WbV.len]), h 4 (by simp [WbV.len]), h 5 (by simp [WbV.len]), h 6 (by simp [WbV.len]), h 7 (by simp [WbV.len])⟩
end Go.Proofs.Ytfjlglefodndjaa

namespace Go.Proofs.Ytfjlglefodndjaa
open Go.RowKit

structure Attr where
  name : ByteArray
  kind : Int
  words : List ByteArray
  lo : Int
  hi : Int
/-- An attribute in memory: five cells. -/
def AttrAt (w : World) (x : Attr) (b off : Nat) : Prop := ∃ aw nw cw, w.cell? ⟨b, off, none⟩ = some (.string x.name) ∧ w.cell? ⟨b, off + 1, none⟩ = some (.int .i64 x.kind) ∧ w.cell? ⟨b, off + 2, none⟩ = some (.slice aw nw cw) ∧ w.cell? ⟨b, off + 3, none⟩ = some (.int .i64 x.lo) ∧
  w.cell? ⟨b, off + 4, none⟩ = some (.int .i64 x.hi) ∧ IsStrs w x.words aw nw cw
def IsSchema (w : World) (l : List Attr) (v : Value) : Prop := ∃ a n c, v = .agg #[.slice a n c] ∧ n = l.length ∧ n ≤ c ∧ OkAddr a c ∧ ∀ i (h : i < l.length), ∃ b off, a = some ⟨b, off, none⟩ ∧ AttrAt w l[i] b (off + i * 5)
theorem AttrAt.mono {w w' : World} {x : Attr} {b off : Nat} (h : AttrAt w x b off) (hs : Sub w w') : AttrAt w' x b off := by
  obtain ⟨aw, nw, cw, h0, h1, h2, h3, h4, h5⟩ := h
  exact ⟨aw, nw, cw, hs _ _ h0, hs _ _ h1, hs _ _ h2, hs _ _ h3, hs _ _ h4, h5.mono hs⟩
theorem IsSchema.mono {w w' : World} {l : List Attr} {v : Value} (h : IsSchema w l v) (hs : Sub w w') : IsSchema w' l v := by
  obtain ⟨a, n, c, h1, h2, h3, h4, h5⟩ := h
  exact ⟨a, n, c, h1, h2, h3, h4, fun i hi => by obtain ⟨b, off, e1, e2⟩ := h5 i hi; exact ⟨b, off, e1, e2.mono hs⟩⟩

def aPeril : Attr := ⟨⟨#[112, 101, 114, 105, 108]⟩, 1, [⟨#[102, 105, 114, 101]⟩, ⟨#[102, 108, 111, 111, 100]⟩, ⟨#[119, 105, 110, 100]⟩, ⟨#[116, 104, 101, 102, 116]⟩], 0, 0⟩
def schemas : List (List Attr) := [[aPeril, ⟨⟨#[115, 116, 111, 114, 101, 121, 115]⟩, 2, [], 1, 9⟩, ⟨⟨#[97, 108, 97, 114, 109]⟩, 3, [], 0, 0⟩],
  [⟨⟨#[110]⟩, 2, [], -5, 20⟩],
  [⟨⟨#[97]⟩, 3, [], 0, 0⟩, ⟨⟨#[114, 111, 108, 101]⟩, 1, [⟨#[99, 114, 101, 119]⟩, ⟨#[103, 117, 101, 115, 116]⟩], 0, 0⟩, ⟨⟨#[98]⟩, 3, [], 0, 0⟩],
  [⟨⟨#[110]⟩, 2, [], -1000000000, 1000000000⟩, ⟨⟨#[116]⟩, 3, [], 0, 0⟩],
  [⟨⟨#[111, 110, 101]⟩, 1, [⟨#[111, 110, 108, 121]⟩], 0, 0⟩, aPeril, ⟨⟨#[110]⟩, 2, [], 0, 6⟩, ⟨⟨#[116]⟩, 3, [], 0, 0⟩],
  [⟨⟨#[116]⟩, 3, [], 0, 0⟩]]

theorem within_calls (x n : Int) (w : World) (hn : 0 < n) (hn2 : n ≤ 1000000000000000000) : Calls Try.prog 36 #[.int .i64 x, .int .i64 n] w (fun e w' => ∃ r : Int, e = .returned (.int .i64 r) ∧ 0 ≤ r ∧ r < n ∧ w = w') := by
  go_enter Try.func36, Try.ntmps36
  go_wp2_with fail
  go_ret
  have a1 := Int.tmod_lt_of_pos x hn
  have a5 := Int.lt_tmod_of_pos x hn
  rw [IntWalk.wrap64_in (x.tmod n + n) (by omega)]
  exact ⟨_, rfl, Int.tmod_nonneg n (by omega), Int.tmod_lt_of_pos (x.tmod n + n) hn, rfl⟩

/-- Strings outside of a block that is written. -/
theorem isStrs_set {w : World} {l : List ByteArray} {g n c : Nat} (h : IsStrs w l (some ⟨g, 0, none⟩) n c) {b : Nat} (hb : g ≠ b) (u : Value) (o : Obj) : IsStrs ((w.setCell ⟨b, 0, none⟩ u).alloc o) l (some ⟨g, 0, none⟩) n c := by
  refine ⟨h.1, h.2.1, h.2.2.1, fun i hi => ?_⟩
  obtain ⟨b', off, e1, e2⟩ := h.2.2.2 i hi
  simp only [Option.some.injEq, Addr.mk.injEq, and_true] at e1
  obtain ⟨rfl, rfl⟩ := e1
  refine ⟨g, 0, rfl, Ext.cell ((Ext.refl _).alloc o) ?_⟩
  rw [World.cell?_setCell_other _ _ _ _ (fun e => hb (by injection e with e1; exact e1.symm))]
  exact e2
def PerilQ (w : World) (e : Ending) (w' : World) : Prop := ∃ g, e = .returned (.agg #[.string aPeril.name, .int .i64 1, .slice (some ⟨g, 0, none⟩) 4 4, .int .i64 0, .int .i64 0]) ∧ IsStrs w' aPeril.words (some ⟨g, 0, none⟩) 4 4 ∧ Ext w w' ∧ w.heap.size < g
/-- Strings that lie in a block of their own. -/
theorem isStrs_block {w : World} {g : Nat} {l : List ByteArray} {t : TypeId} (h : w.heap[g]? = some (.cells (l.map Value.string).toArray t (0, 0))) {n : Nat} (hn : n = l.length) : IsStrs w l (some ⟨g, 0, none⟩) n n := by
  subst hn
  refine ⟨rfl, Nat.le_refl _, Or.inr ⟨g, 0, rfl⟩, fun i hi => ⟨g, 0, rfl, ?_⟩⟩
  rw [Nat.zero_add, blk_cell h]
  simp [hi]
structure AttrV where
  x : Attr
  a : Option Addr
  n : Nat
  c : Nat
def AttrV.cells (v : AttrV) : List Value := [.string v.x.name, .int .i64 v.x.kind, .slice v.a v.n v.c, .int .i64 v.x.lo, .int .i64 v.x.hi]
theorem isStrs_nil (w : World) : IsStrs w [] none 0 0 := ⟨rfl, by omega, Or.inl ⟨rfl, rfl⟩, fun i hi => by simp at hi⟩
theorem isSchema_block {w : World} {g : Nat} {avs : List AttrV} {t : TypeId} (h : w.heap[g]? = some (.cells (avs.flatMap AttrV.cells).toArray t (0, 0))) {n : Nat} (hn : n = avs.length) (hs : ∀ v ∈ avs, IsStrs w v.x.words v.a v.n v.c) : IsSchema w (avs.map (·.x)) (.agg #[.slice (some ⟨g, 0, none⟩) n n]) := by
  subst hn
  refine ⟨some ⟨g, 0, none⟩, _, _, rfl, by simp, Nat.le_refl _, Or.inr ⟨g, 0, rfl⟩, fun i hi => ⟨g, 0, rfl, ?_⟩⟩
  have hi' : i < avs.length := by simpa using hi
  have key : ∀ j (hj : j < 5), w.cell? ⟨g, i * 5 + j, none⟩ = some ((avs[i].cells)[j]'(by simp [AttrV.cells]; omega)) := by
    intro j hj
    rw [blk_cell h]
    have := flatMap_at AttrV.cells 5 (fun _ => rfl) avs i hi' j (by simp [AttrV.cells]; omega)
    simpa using this
  have e : (avs.map (·.x))[i] = avs[i].x := by simp
  rw [e, Nat.zero_add]
  exact ⟨avs[i].a, avs[i].n, avs[i].c, key 0 (by omega), key 1 (by omega), key 2 (by omega), key 3 (by omega), key 4 (by omega), hs _ (List.getElem_mem hi')⟩

set_option maxRecDepth 100000 in
theorem peril_calls (w : World) : Calls Try.prog 37 #[] w (PerilQ w) := by
  go_enter Try.func37, Try.ntmps37
  go_wp2_with fail
  refine bodyPost_ret (v := .agg #[.string aPeril.name, .int .i64 1, .slice (some ⟨w.heap.size + 1, 0, none⟩) 4 4, .int .i64 0, .int .i64 0]) (by simp [results, Try.results37, go_sem, aPeril]) rfl ?_
  refine ⟨_, rfl, isStrs_block (l := aPeril.words) (t := 9) ?_ rfl, ((Ext.refl w).alloc _).alloc _, by omega⟩
  have := alloc_new (w.alloc (.cells #[.string aPeril.name, .int .i64 1, .slice (some ⟨w.heap.size + 1, 0, none⟩) 4 4, .int .i64 0, .int .i64 0] 91)) (.cells (aPeril.words.map Value.string).toArray 9)
  simpa [aPeril] using this

theorem isStrs_mask {w : World} {M : List Nat} {l : List ByteArray} {a : Option Addr} {n c : Nat} (h : IsStrs w l a n c) (ha : ∀ b off, a = some ⟨b, off, none⟩ → b ∉ M) : IsStrs (mask w M) l a n c := by
  refine ⟨h.1, h.2.1, h.2.2.1, fun i hi => ?_⟩
  obtain ⟨b, off, e, hc⟩ := h.2.2.2 i hi
  exact ⟨b, off, e, by rw [mask_cell, if_neg (ha b off e)]; exact hc⟩
theorem mask_blk {w : World} {M : List Nat} {g : Nat} {o : Obj} (h : w.heap[g]? = some o) (hg : g ∉ M) : (mask w M).heap[g]? = some o := by
  unfold mask
  simp only [Array.getElem?_mapIdx, h, Option.map_some, hg, if_false]
def SchemaQ (M : List Nat) (w : World) (e : Ending) (w' : World) : Prop := ∃ l v, e = .returned v ∧ l ∈ schemas ∧ IsSchema (mask w' M) l v ∧ Ext w w'
theorem schemaQ_mk {w W : World} {g n : Nat} {l : List Attr} {M : List Nat} (hM : ∀ y ∈ M, y < w.heap.size) (avs : List AttrV) {t : TypeId} (hg : w.heap.size ≤ g) (ha : ∀ v ∈ avs, ∀ b off, v.a = some ⟨b, off, none⟩ → w.heap.size ≤ b) (h : W.heap[g]? = some (.cells (avs.flatMap AttrV.cells).toArray t (0, 0))) (hn : n = avs.length) (hl : avs.map (·.x) = l) (hm : l ∈ schemas) (hs : ∀ v ∈ avs, IsStrs W v.x.words v.a v.n v.c) (hx : Ext w W) :
    SchemaQ M w (.returned (.agg #[.slice (some ⟨g, 0, none⟩) n n])) W :=
  ⟨l, _, rfl, hm, hl ▸ isSchema_block (mask_blk h (fun hh => by have := hM _ hh; omega)) hn (fun v hv => isStrs_mask (hs v hv) (fun b off e hh => by have := hM _ hh; have := ha v hv b off e; omega)), hx⟩

set_option maxRecDepth 100000 in
set_option maxHeartbeats 1000000 in
theorem schema_calls (k : Int) (M : List Nat) (w : World) (hM : ∀ y ∈ M, y < w.heap.size) : Calls Try.prog 21 #[.int .i64 k] w (SchemaQ M w) := by
  have HMM := Lib.hid hM
  clear hM
  go_enter Try.func21, Try.ntmps21
  go_wp2_with fail
  refine (within_calls _ _ _ (by omega) (by omega)).mono ?_
  rintro e w' ⟨r, rfl, h0, h1, rfl⟩
  have h : r = 0 ∨ r = 1 ∨ r = 2 ∨ r = 3 ∨ r = 4 ∨ r = 5 := by omega
  clear h0 h1
  rcases h with rfl | rfl | rfl | rfl | rfl | rfl
  · go_wp2_with fail
    refine (peril_calls _).mono ?_
    rintro e w' ⟨g, rfl, hp, hx, hgn⟩
    simp at hgn
    have hwz := hx.size
    simp at hwz
    have hb := hx.blk (alloc_new w _)
    have hlt := blk_lt hb
    have c0 := blk_cell hb 0
    have cf := blk_free hb
    simp at c0
    have HX := Lib.hid (((Ext.refl w).alloc _).trans hx)
    have HP := Lib.hid hp
    clear hx hb hp
    go_wp2_with fail
    refine bodyPost_ret (v := .agg #[.slice (some ⟨w'.heap.size, 0, none⟩) 3 3]) (by simp [results, Try.results21, go_sem, c0, hlt]) rfl ?_
    refine schemaQ_mk HMM.out [⟨aPeril, some ⟨g, 0, none⟩, 4, 4⟩, ⟨⟨⟨#[115, 116, 111, 114, 101, 121, 115]⟩, 2, [], 1, 9⟩, none, 0, 0⟩, ⟨⟨⟨#[97, 108, 97, 114, 109]⟩, 3, [], 0, 0⟩, none, 0, 0⟩] (t := 91) (by omega) (by intro v hv b off he; simp only [List.mem_cons, List.not_mem_nil, or_false] at hv; (repeat' (rcases hv with rfl | hv)) <;> (try subst hv) <;> simp at he <;> omega) ?_ rfl rfl (by simp [schemas]) ?_ ?_
    · simpa [AttrV.cells, aPeril] using alloc_new (w'.setCell ⟨w.heap.size, 0, none⟩ (.slice (some ⟨w'.heap.size, 0, none⟩) 3 3)) (.cells #[.string aPeril.name, .int .i64 1, .slice (some ⟨g, 0, none⟩) 4 4, .int .i64 0, .int .i64 0, .string ⟨#[115, 116, 111, 114, 101, 121, 115]⟩, .int .i64 2, .slice none 0 0, .int .i64 1, .int .i64 9, .string ⟨#[97, 108, 97, 114, 109]⟩, .int .i64 3, .slice none 0 0, .int .i64 0, .int .i64 0] 91)
    · intro v hv
      simp only [List.mem_cons, List.not_mem_nil, or_false] at hv
      rcases hv with rfl | rfl | rfl
      · exact isStrs_set HP.out (by omega) _ _
      · exact isStrs_nil _
      · exact isStrs_nil _
    · exact (HX.out.setAbove (by simp) _).alloc _
  · go_wp2_with fail
    refine bodyPost_ret (v := .agg #[.slice (some ⟨w.heap.size + 1, 0, none⟩) 1 1]) (by simp [results, Try.results21, go_sem]) rfl ?_
    refine schemaQ_mk HMM.out [⟨⟨⟨#[110]⟩, 2, [], -5, 20⟩, none, 0, 0⟩] (t := 91) (by omega) (by intro v hv b off he; simp only [List.mem_cons, List.not_mem_nil, or_false] at hv; (repeat' (rcases hv with rfl | hv)) <;> (try subst hv) <;> simp at he <;> omega) ?_ rfl rfl (by simp [schemas]) (by intro v hv; simp at hv; subst hv; exact isStrs_nil _) (((Ext.refl w).alloc _).alloc _)
    simpa [AttrV.cells] using alloc_new (w.alloc (.cells #[.slice (some ⟨w.heap.size + 1, 0, none⟩) 1 1] 41)) (.cells #[.string ⟨#[110]⟩, .int .i64 2, .slice none 0 0, .int .i64 (-5), .int .i64 20] 91)
  · go_wp2_with fail
    refine bodyPost_ret (v := .agg #[.slice (some ⟨w.heap.size + 2, 0, none⟩) 3 3]) (by simp [results, Try.results21, go_sem]) rfl ?_
    refine schemaQ_mk HMM.out [⟨⟨⟨#[97]⟩, 3, [], 0, 0⟩, none, 0, 0⟩, ⟨⟨⟨#[114, 111, 108, 101]⟩, 1, [⟨#[99, 114, 101, 119]⟩, ⟨#[103, 117, 101, 115, 116]⟩], 0, 0⟩, some ⟨w.heap.size + 1, 0, none⟩, 2, 2⟩, ⟨⟨⟨#[98]⟩, 3, [], 0, 0⟩, none, 0, 0⟩] (t := 91) (by omega) (by intro v hv b off he; simp only [List.mem_cons, List.not_mem_nil, or_false] at hv; (repeat' (rcases hv with rfl | hv)) <;> (try subst hv) <;> simp at he <;> omega) ?_ rfl rfl (by simp [schemas]) ?_ ((((Ext.refl w).alloc _).alloc _).alloc _)
    · simpa [AttrV.cells] using alloc_new ((w.alloc (.cells #[.slice (some ⟨w.heap.size + 2, 0, none⟩) 3 3] 41)).alloc (.cells #[.string ⟨#[99, 114, 101, 119]⟩, .string ⟨#[103, 117, 101, 115, 116]⟩] 9)) (.cells #[.string ⟨#[97]⟩, .int .i64 3, .slice none 0 0, .int .i64 0, .int .i64 0, .string ⟨#[114, 111, 108, 101]⟩, .int .i64 1, .slice (some ⟨w.heap.size + 1, 0, none⟩) 2 2, .int .i64 0, .int .i64 0, .string ⟨#[98]⟩, .int .i64 3, .slice none 0 0, .int .i64 0, .int .i64 0] 91)
    · intro v hv
      simp only [List.mem_cons, List.not_mem_nil, or_false] at hv
      rcases hv with rfl | rfl | rfl
      · exact isStrs_nil _
      · refine isStrs_block (t := 9) (blk_alloc ?_) rfl
        simpa using alloc_new (w.alloc (.cells #[.slice (some ⟨w.heap.size + 2, 0, none⟩) 3 3] 41)) (.cells #[.string ⟨#[99, 114, 101, 119]⟩, .string ⟨#[103, 117, 101, 115, 116]⟩] 9)
      · exact isStrs_nil _
  · go_wp2_with fail
    refine bodyPost_ret (v := .agg #[.slice (some ⟨w.heap.size + 1, 0, none⟩) 2 2]) (by simp [results, Try.results21, go_sem]) rfl ?_
    refine schemaQ_mk HMM.out [⟨⟨⟨#[110]⟩, 2, [], -1000000000, 1000000000⟩, none, 0, 0⟩, ⟨⟨⟨#[116]⟩, 3, [], 0, 0⟩, none, 0, 0⟩] (t := 91) (by omega) (by intro v hv b off he; simp only [List.mem_cons, List.not_mem_nil, or_false] at hv; (repeat' (rcases hv with rfl | hv)) <;> (try subst hv) <;> simp at he <;> omega) ?_ rfl rfl (by simp [schemas]) ?_ (((Ext.refl w).alloc _).alloc _)
    · simpa [AttrV.cells] using alloc_new (w.alloc (.cells #[.slice (some ⟨w.heap.size + 1, 0, none⟩) 2 2] 41)) (.cells #[.string ⟨#[110]⟩, .int .i64 2, .slice none 0 0, .int .i64 (-1000000000), .int .i64 1000000000, .string ⟨#[116]⟩, .int .i64 3, .slice none 0 0, .int .i64 0, .int .i64 0] 91)
    · intro v hv
      simp only [List.mem_cons, List.not_mem_nil, or_false] at hv
      rcases hv with rfl | rfl <;> exact isStrs_nil _
  · go_wp2_with fail
    refine (peril_calls _).mono ?_
    rintro e w' ⟨g, rfl, hp, hx, hgn⟩
    simp at hgn
    have hwz := hx.size
    simp at hwz
    have HO := Lib.hid (hx.blk (alloc_new (w.alloc (.cells #[.slice none 0 0] 41)) (.cells #[.string ⟨#[111, 110, 108, 121]⟩] 9)))
    have hb := hx.blk (blk_alloc (o' := .cells #[.string ⟨#[111, 110, 108, 121]⟩] 9) (alloc_new w (.cells #[.slice none 0 0] 41)))
    have hlt := blk_lt hb
    have c0 := blk_cell hb 0
    have cf := blk_free hb
    simp at c0
    have HX := Lib.hid ((((Ext.refl w).alloc _).alloc _).trans hx)
    have HP := Lib.hid hp
    clear hx hb hp
    go_wp2_with fail
    refine bodyPost_ret (v := .agg #[.slice (some ⟨w'.heap.size, 0, none⟩) 4 4]) (by simp [results, Try.results21, go_sem, c0, hlt]) rfl ?_
    refine schemaQ_mk HMM.out [⟨⟨⟨#[111, 110, 101]⟩, 1, [⟨#[111, 110, 108, 121]⟩], 0, 0⟩, some ⟨w.heap.size + 1, 0, none⟩, 1, 1⟩, ⟨aPeril, some ⟨g, 0, none⟩, 4, 4⟩, ⟨⟨⟨#[110]⟩, 2, [], 0, 6⟩, none, 0, 0⟩, ⟨⟨⟨#[116]⟩, 3, [], 0, 0⟩, none, 0, 0⟩] (t := 91) (by omega) (by intro v hv b off he; simp only [List.mem_cons, List.not_mem_nil, or_false] at hv; (repeat' (rcases hv with rfl | hv)) <;> (try subst hv) <;> simp at he <;> omega) ?_ rfl rfl (by simp [schemas]) ?_ ?_
    · simpa [AttrV.cells, aPeril] using alloc_new (w'.setCell ⟨w.heap.size, 0, none⟩ (.slice (some ⟨w'.heap.size, 0, none⟩) 4 4)) (.cells #[.string ⟨#[111, 110, 101]⟩, .int .i64 1, .slice (some ⟨w.heap.size + 1, 0, none⟩) 1 1, .int .i64 0, .int .i64 0, .string aPeril.name, .int .i64 1, .slice (some ⟨g, 0, none⟩) 4 4, .int .i64 0, .int .i64 0, .string ⟨#[110]⟩, .int .i64 2, .slice none 0 0, .int .i64 0, .int .i64 6, .string ⟨#[116]⟩, .int .i64 3, .slice none 0 0, .int .i64 0, .int .i64 0] 91)
    · intro v hv
      simp only [List.mem_cons, List.not_mem_nil, or_false] at hv
      rcases hv with rfl | rfl | rfl | rfl
      · refine isStrs_set (isStrs_block (t := 9) (l := [⟨#[111, 110, 108, 121]⟩]) ?_ rfl) (by simp) _ _
        simpa using HO.out
      · exact isStrs_set HP.out (by omega) _ _
      · exact isStrs_nil _
      · exact isStrs_nil _
    · exact (HX.out.setAbove (by simp) _).alloc _
  · go_wp2_with fail
    refine bodyPost_ret (v := .agg #[.slice (some ⟨w.heap.size + 1, 0, none⟩) 1 1]) (by simp [results, Try.results21, go_sem]) rfl ?_
    refine schemaQ_mk HMM.out [⟨⟨⟨#[116]⟩, 3, [], 0, 0⟩, none, 0, 0⟩] (t := 91) (by omega) (by intro v hv b off he; simp only [List.mem_cons, List.not_mem_nil, or_false] at hv; (repeat' (rcases hv with rfl | hv)) <;> (try subst hv) <;> simp at he <;> omega) ?_ rfl rfl (by simp [schemas]) (by intro v hv; simp at hv; subst hv; exact isStrs_nil _) (((Ext.refl w).alloc _).alloc _)
    simpa [AttrV.cells] using alloc_new (w.alloc (.cells #[.slice (some ⟨w.heap.size + 1, 0, none⟩) 1 1] 41)) (.cells #[.string ⟨#[116]⟩, .int .i64 3, .slice none 0 0, .int .i64 0, .int .i64 0] 91)
end Go.Proofs.Ytfjlglefodndjaa

namespace Go.Proofs.Ytfjlglefodndjaa
open Go.RowKit

theorem uBy : Try.prog.underlying 5 = some (.int .u8) := by kernel_rfl
theorem uBs : Try.prog.underlying 50 = some (.slice 5) := by kernel_rfl
theorem uSt : Try.prog.underlying 9 = some .string := by kernel_rfl
/-- string([]byte{c}) -/
theorem conv_byte (w : World) (x : Nat) (hx : x = w.heap.size) (c : Int) (t : TypeId) : Sem.run Try.prog (convert 50 9 (.slice (some ⟨x, 0, none⟩) 1 1)) (w.alloc (.cells #[.int .u8 c] t)) = .ok (.string ⟨#[UInt8.ofNat c.toNat]⟩) (w.alloc (.cells #[.int .u8 c] t)) := by
  subst hx
  rw [run_convert_bytes_string _ _ _ 5 _ _ _ uBs uBy uSt]
  have := run_bytesToString (P := Try.prog) (w.alloc (.cells #[.int .u8 c] t)) ⟨w.heap.size, 0, none⟩ 1 1 [c] (by
    refine run_loadCells_list (P := Try.prog) _ _ [.int .u8 c] (fun j v hj => ?_)
    have hj0 : j = 0 := by
      have := (List.getElem?_eq_some_iff.1 hj).1
      simpa using this
    subst hj0
    have : (⟨w.heap.size, 0, none⟩ : Addr).add 0 = ⟨w.heap.size, 0, none⟩ := by unfold Addr.add; split <;> simp_all
    rw [this, World.cell?_alloc_at _ _ _ _ rfl]
    simpa using hj)
  rw [this]
  rfl
end Go.Proofs.Ytfjlglefodndjaa

namespace Go.Proofs.Ytfjlglefodndjaa
open Go.RowKit

/-- append of elements that were just laid into a block of their own; where the row lies then. -/
theorem wpList_append_at {t e : TypeId} {z : Value} {size bytes : Nat} (E : ElemT t e z size bytes) {ops : Array Oper} {rest : List Oper} {o : Oper} {a : Act} {Q : Exit → Act → World → Prop} {X : World} {arr : Array Value} {tt : TypeId}
    (hgd : o.guard = none) (s x : Operand) (ho : o.op = .call { callee := .builtin .append, args := #[s, x], argTypes := #[t, t] }) (base : Nat) (v : Value) (n : Nat) (xs : List Value) (hs : a.eval s = v) (hown : X.ownsRow base e size v n xs)
    (B m c : Nat) (hx : a.eval x = .slice (some ⟨B, 0, none⟩) m c) (hB : B = X.heap.size) (hl : arr.size = m * size) (h1 : ∀ u ∈ arr.toList, u.oneCell' = true) (hm : n + m ≤ maxLen) (hb : (n + m) * bytes ≤ 140737488355328) (hbase : base ≤ X.heap.size)
    (h : ∀ v' w', w'.ownsRow base e size v' (n + m) (xs ++ arr.toList) → Chg (rowOf v) X w' → (∀ k, v'.ownBlock = some k → v.ownBlock = some k ∨ X.heap.size ≤ k) → wpList Try.prog ops Q rest (a.put o.dst v') w') : wpList Try.prog ops Q (o :: rest) a (X.alloc (.cells arr tt)) := by
  subst hB
  obtain ⟨i, hi, hz, hsz, hby⟩ := info_parts E.info
  refine wpList_append_own_at (w := X.alloc (.cells arr tt)) hgd s x t ho base e i z size bytes E.ht hi hz hsz hby E.hzs E.hsz v n xs hs (hown.alloc _) ⟨X.heap.size, 0, none⟩ m c arr.toList hx (by simpa using hl) ?_ h1 hm hb (by simp; omega) ?_
  · intro j u hu
    have : (⟨X.heap.size, 0, none⟩ : Addr).add j = ⟨X.heap.size, j, none⟩ := by unfold Addr.add; split <;> simp_all
    rw [this, World.cell?_alloc_at _ _ _ _ rfl]
    simpa using hu
  · intro v' w' h2 h3 _ h5
    refine h v' w' h2 ((((Ext.refl X).alloc _).chg _).trans (grown_chg h3) fun x hx => Or.inl hx) fun k hk => ?_
    rcases h5 with e | e
    · exact Or.inl (e ▸ hk)
    · rw [e] at hk; simp at hk; exact Or.inr (by omega)
theorem Chg.weak {N M : List Nat} {w w' : World} (h : Chg N w w') (hs : ∀ x ∈ N, x ∈ M) : Chg M w w' := ⟨h.os, h.tape, h.output, h.size, fun k hk hn => h.block k hk fun hm => hn (hs k hm)⟩
/-- Under a mask that the row left for a new block, or not. -/
theorem row_keeps {w w' : World} {N : List Nat} {v v' : Value} (hc : Chg (N ++ rowOf v) w w') (hw : ∀ k, v'.ownBlock = some k → v.ownBlock = some k ∨ w.heap.size ≤ k) : Sub (mask w (N ++ rowOf v)) (mask w' (N ++ rowOf v')) := by
  refine mask_sub_mask fun k hk hn => ⟨fun hm => ?_, hc.block k hk hn⟩
  rcases List.mem_append.1 hm with h | h
  · exact hn (List.mem_append_left _ h)
  · rcases hw k (mem_rowOf.1 h) with e | e
    · exact hn (List.mem_append_right _ (mem_rowOf.2 e))
    · omega
end Go.Proofs.Ytfjlglefodndjaa
