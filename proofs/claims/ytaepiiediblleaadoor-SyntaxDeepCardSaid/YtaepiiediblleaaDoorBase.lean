import Derived.Test.YtaepiiediblleaaDoorProg
import Derived.WalkKit
import Derived.Deep.QuietTactic
import Derived.BigQuiet
import Derived.Lib.Hide
namespace Go.Proofs.YtaepiiediblleaaDoor
open Go.RowKit

/-- w' is w with more memory: nothing that was there has changed. -/
def Ext (w w' : World) : Prop := Below w.heap.size w w'

theorem Ext.refl (w : World) : Ext w w := Below.refl _ _
theorem Ext.trans {a b c : World} (h : Ext a b) (k : Ext b c) : Ext a c := Below.trans h (Below.mono k h.size)
theorem Ext.alloc {a w : World} (h : Ext a w) (o : Obj) : Ext a (w.alloc o) := Below.alloc h h.size o
theorem Ext.drew {a w : World} (h : Ext a w) : Ext a w.drew := Below.drew h
theorem Ext.size {a w : World} (h : Ext a w) : a.heap.size ≤ w.heap.size := Below.size h
theorem Ext.cell {w w' : World} (h : Ext w w') {p : Addr} {v : Value} (hp : w.cell? p = some v) : w'.cell? p = some v := by
  have hb : p.block < w.heap.size := by
    unfold World.cell? at hp
    by_cases hlt : p.block < w.heap.size
    · exact hlt
    · rw [Array.getElem?_eq_none (by omega)] at hp; cases hp
  rw [Below.cell h hb]; exact hp
theorem Ext.frozen {w w' : World} (h : Ext w w') {p : Addr} {v : Value} (hp : w.cell? p = some v) : w'.frozen? p = w.frozen? p := by
  have hb : p.block < w.heap.size := by
    unfold World.cell? at hp
    by_cases hlt : p.block < w.heap.size
    · exact hlt
    · rw [Array.getElem?_eq_none (by omega)] at hp; cases hp
  rw [Below.frozen h hb]

/-- Every cell of s is a cell of w. -/
def Sub (s w : World) : Prop := ∀ p v, s.cell? p = some v → w.cell? p = some v
theorem Sub.refl (w : World) : Sub w w := fun _ _ h => h
theorem Sub.trans {a b c : World} (h : Sub a b) (k : Sub b c) : Sub a c := fun p v hp => k p v (h p v hp)
theorem Ext.sub {w w' : World} (h : Ext w w') : Sub w w' := fun _ _ hp => h.cell hp

theorem toList_inj {a b : ByteArray} (h : a.toList = b.toList) : a = b := by
  rw [ByteArray.toList_eq, ByteArray.toList_eq] at h
  exact ByteArray.ext (Array.toList_inj.1 h)
theorem toList_beq (a b : ByteArray) : (a.toList == b.toList) = decide (a = b) := by
  rw [Bool.eq_iff_iff]
  simp only [beq_iff_eq, decide_eq_true_eq]
  exact ⟨toList_inj, fun h => by rw [h]⟩

instance memDec (x : ByteArray) (l : List ByteArray) : Decidable (x ∈ l) := decidable_of_iff (l.any (fun y => decide (y = x)) = true) (by simp)

inductive Ex where
  | mk (op : Int) (name : ByteArray) (words : List ByteArray) (lo hi : Int) (args : List Ex)

/-- An address of a slice: none, or a place in a row of cells. -/
def OkAddr (a : Option Addr) (c : Nat) : Prop := (a = none ∧ c = 0) ∨ ∃ b off, a = some ⟨b, off, none⟩

def IsStrs (w : World) (l : List ByteArray) (a : Option Addr) (n c : Nat) : Prop :=
  n = l.length ∧ n ≤ c ∧ OkAddr a c ∧ ∀ i (h : i < l.length), ∃ b off, a = some ⟨b, off, none⟩ ∧ w.cell? ⟨b, off + i, none⟩ = some (.string l[i])

theorem IsStrs.mono {w w' : World} {l : List ByteArray} {a : Option Addr} {n c : Nat} (h : IsStrs w l a n c) (he : Sub w w') : IsStrs w' l a n c :=
  ⟨h.1, h.2.1, h.2.2.1, fun i hi => by obtain ⟨b, off, h1, h2⟩ := h.2.2.2 i hi; exact ⟨b, off, h1, he _ _ h2⟩⟩
theorem IsStrs.ext {w w' : World} {l : List ByteArray} {a : Option Addr} {n c : Nat} (h : IsStrs w l a n c) (he : Ext w w') : IsStrs w' l a n c := h.mono he.sub

mutual
def ExD (w : World) : Ex → Option Addr → Nat → Nat → Option Addr → Nat → Nat → Prop
  | .mk _ _ words _ _ args, aw, nw, cw, aa, na, ca => IsStrs w words aw nw cw ∧ na = args.length ∧ na ≤ ca ∧ OkAddr aa ca ∧ ExsD w args aa
def ExsD (w : World) : List Ex → Option Addr → Prop
  | [], _ => True
  | .mk op name words lo hi args :: r, a => ∃ b off, a = some ⟨b, off, none⟩ ∧ (∃ aw nw cw aa na ca, w.cell? ⟨b, off, none⟩ = some (.int .i64 op) ∧ w.cell? ⟨b, off + 1, none⟩ = some (.string name) ∧ w.cell? ⟨b, off + 2, none⟩ = some (.slice aw nw cw) ∧
      w.cell? ⟨b, off + 3, none⟩ = some (.int .i64 lo) ∧ w.cell? ⟨b, off + 4, none⟩ = some (.int .i64 hi) ∧ w.cell? ⟨b, off + 5, none⟩ = some (.slice aa na ca) ∧
      IsStrs w words aw nw cw ∧ na = args.length ∧ na ≤ ca ∧ OkAddr aa ca ∧ ExsD w args aa) ∧ ExsD w r (some ⟨b, off + 6, none⟩)
end

mutual
theorem ExD.mono {w w' : World} (he : Sub w w') : (e : Ex) → (aw : Option Addr) → (nw cw : Nat) → (aa : Option Addr) → (na ca : Nat) → ExD w e aw nw cw aa na ca → ExD w' e aw nw cw aa na ca
  | .mk op name words lo hi args, aw, nw, cw, aa, na, ca, h => by
    unfold ExD at h ⊢
    obtain ⟨h1, h2, h3, h4, h5⟩ := h
    exact ⟨h1.mono he, h2, h3, h4, ExsD.mono he args aa h5⟩
theorem ExsD.mono {w w' : World} (he : Sub w w') : (l : List Ex) → (a : Option Addr) → ExsD w l a → ExsD w' l a
  | [], _, _ => by unfold ExsD; trivial
  | .mk op name words lo hi args :: r, a, h => by
    unfold ExsD at h ⊢
    obtain ⟨b, off, rfl, ⟨aw, nw, cw, aa, na, ca, h0, h1, h2, h3, h4, h5, h6, h7, h8, h9, h10⟩, hr⟩ := h
    exact ⟨b, off, rfl, ⟨aw, nw, cw, aa, na, ca, he _ _ h0, he _ _ h1, he _ _ h2, he _ _ h3, he _ _ h4, he _ _ h5, h6.mono he, h7, h8, h9, ExsD.mono he args aa h10⟩, ExsD.mono he r _ hr⟩
end
theorem ExsD.ext {w w' : World} (he : Ext w w') (l : List Ex) (a : Option Addr) (h : ExsD w l a) : ExsD w' l a := ExsD.mono he.sub l a h

def Ex.op : Ex → Int | .mk op _ _ _ _ _ => op
def Ex.name : Ex → ByteArray | .mk _ name _ _ _ _ => name
def Ex.words : Ex → List ByteArray | .mk _ _ words _ _ _ => words
def Ex.lo : Ex → Int | .mk _ _ _ lo _ _ => lo
def Ex.hi : Ex → Int | .mk _ _ _ _ hi _ => hi
def Ex.args : Ex → List Ex | .mk _ _ _ _ _ args => args

/-- The value of an expression: six cells. -/
def exV (op : Int) (name : ByteArray) (aw : Option Addr) (nw cw : Nat) (lo hi : Int) (aa : Option Addr) (na ca : Nat) : Value :=
  .agg #[.int .i64 op, .string name, .slice aw nw cw, .int .i64 lo, .int .i64 hi, .slice aa na ca]

def IsEx (w : World) (e : Ex) (v : Value) : Prop := ∃ aw nw cw aa na ca, v = exV e.op e.name aw nw cw e.lo e.hi aa na ca ∧ ExD w e aw nw cw aa na ca

theorem IsEx.mono {w w' : World} {e : Ex} {v : Value} (h : IsEx w e v) (he : Sub w w') : IsEx w' e v := by
  obtain ⟨aw, nw, cw, aa, na, ca, h1, h2⟩ := h
  exact ⟨aw, nw, cw, aa, na, ca, h1, ExD.mono he _ _ _ _ _ _ _ h2⟩
theorem IsEx.ext {w w' : World} {e : Ex} {v : Value} (h : IsEx w e v) (he : Ext w w') : IsEx w' e v := h.mono he.sub

theorem IsEx.parts {w : World} {e : Ex} {v : Value} (h : IsEx w e v) : ∃ aw nw cw aa na ca, v = exV e.op e.name aw nw cw e.lo e.hi aa na ca ∧ IsStrs w e.words aw nw cw ∧
    na = e.args.length ∧ na ≤ ca ∧ OkAddr aa ca ∧ ExsD w e.args aa := by
  obtain ⟨op, name, words, lo, hi, args⟩ := e
  obtain ⟨aw, nw, cw, aa, na, ca, h1, h2⟩ := h
  unfold ExD at h2
  exact ⟨aw, nw, cw, aa, na, ca, h1, h2⟩

theorem IsEx.mk {w : World} {op lo hi : Int} {name : ByteArray} {words : List ByteArray} {args : List Ex} {aw : Option Addr} {nw cw : Nat} {aa : Option Addr} {na ca : Nat}
    (h1 : IsStrs w words aw nw cw) (h2 : na = args.length) (h3 : na ≤ ca) (h4 : OkAddr aa ca) (h5 : ExsD w args aa) : IsEx w (.mk op name words lo hi args) (exV op name aw nw cw lo hi aa na ca) :=
  ⟨aw, nw, cw, aa, na, ca, rfl, by unfold ExD; exact ⟨h1, h2, h3, h4, h5⟩⟩

/-- The k-th argument, in memory: its six cells, and that they read as the expression. -/
theorem ExsD.at {w : World} : (l : List Ex) → (a : Option Addr) → ExsD w l a → (k : Nat) → (hk : k < l.length) →
    ∃ b off, a = some ⟨b, off, none⟩ ∧ ∃ aw nw cw aa na ca, w.cell? ⟨b, off + k * 6, none⟩ = some (.int .i64 l[k].op) ∧ w.cell? ⟨b, off + k * 6 + 1, none⟩ = some (.string l[k].name) ∧ w.cell? ⟨b, off + k * 6 + 2, none⟩ = some (.slice aw nw cw) ∧
      w.cell? ⟨b, off + k * 6 + 3, none⟩ = some (.int .i64 l[k].lo) ∧ w.cell? ⟨b, off + k * 6 + 4, none⟩ = some (.int .i64 l[k].hi) ∧ w.cell? ⟨b, off + k * 6 + 5, none⟩ = some (.slice aa na ca) ∧
      IsEx w l[k] (exV l[k].op l[k].name aw nw cw l[k].lo l[k].hi aa na ca)
  | [], _, _, k, hk => by simp at hk
  | .mk op name words lo hi args :: r, a, h, 0, _ => by
    unfold ExsD at h
    obtain ⟨b, off, rfl, ⟨aw, nw, cw, aa, na, ca, h0, h1, h2, h3, h4, h5, h6, h7, h8, h9, h10⟩, hr⟩ := h
    refine ⟨b, off, rfl, aw, nw, cw, aa, na, ca, ?_⟩
    simp only [Nat.zero_mul, Nat.add_zero]
    exact ⟨h0, h1, h2, h3, h4, h5, IsEx.mk h6 h7 h8 h9 h10⟩
  | .mk op name words lo hi args :: r, a, h, k + 1, hk => by
    unfold ExsD at h
    obtain ⟨b, off, rfl, _, hr⟩ := h
    obtain ⟨b', off', e1, rest⟩ := ExsD.at r _ hr k (by simpa using hk)
    simp at e1
    obtain ⟨rfl, rfl⟩ := e1
    have e1 : off + 6 + k * 6 = off + (k + 1) * 6 := by omega
    rw [e1] at rest
    exact ⟨b, off, rfl, by simpa using rest⟩

mutual
def Ex.size : Ex → Nat
  | .mk _ _ _ _ _ args => 1 + sizes args
def sizes : List Ex → Nat
  | [] => 0
  | e :: r => e.size + sizes r
end

theorem sizes_take_succ : (l : List Ex) → (k : Nat) → (hk : k < l.length) → sizes (l.take (k + 1)) = sizes (l.take k) + l[k].size
  | [], k, hk => by simp at hk
  | e :: r, 0, _ => by simp [sizes]
  | e :: r, k + 1, hk => by
    have := sizes_take_succ r k (by simpa using hk)
    simp [sizes] at this ⊢
    omega
theorem sizes_take_le : (l : List Ex) → (k : Nat) → sizes (l.take k) ≤ sizes l
  | [], k => by simp [sizes]
  | e :: r, 0 => by simp [sizes]
  | e :: r, k + 1 => by
    have := sizes_take_le r k
    simp [sizes]; omega
theorem length_le_sizes : (l : List Ex) → l.length ≤ sizes l
  | [] => by simp
  | .mk _ _ _ _ _ _ :: r => by
    have := length_le_sizes r
    simp [sizes, Ex.size]; omega
end Go.Proofs.YtaepiiediblleaaDoor
