/-
  Texts of the claim, joined: Base, Lex1, Lex2, Node1, Node2, LaidT.
-/
import Derived.Test.YtfjlglefodndjaaProg
import Derived.WalkKit
import Derived.Deep.QuietTactic
import Derived.BigQuiet
import Derived.Lib.Hide
import Derived.ProofKit
import Derived.LaidMore
import Derived.OpenShut
import Derived.Deep.Fields
import Derived.Stop.Joined
namespace Go.Proofs.Ytfjlglefodndjaa
open Go.RowKit

/-- w' is w with more memory: nothing that was there has changed. -/
def Ext (w w' : World) : Prop := Below w.heap.size w w'

theorem Ext.refl (w : World) : Ext w w := Below.refl _ _
theorem Ext.trans {a b c : World} (h : Ext a b) (k : Ext b c) : Ext a c := Below.trans h (Below.mono k h.size)
theorem Ext.alloc {a w : World} (h : Ext a w) (o : Obj) : Ext a (w.alloc o) := Below.alloc h h.size o
theorem Ext.drew {a w : World} (h : Ext a w) : Ext a w.drew := Below.drew h
theorem Ext.size {a w : World} (h : Ext a w) : a.heap.size ≤ w.heap.size := Below.size h
theorem Ext.cell {w w' : World} (h : Ext w w') {p : Addr} {v : Value} (hp : w.cell? p = some v) : w'.cell? p = some v := by
  have hb : p.block < w.heap.size := by
    unfold World.cell? at hp
    by_cases hlt : p.block < w.heap.size
    · exact hlt
    · rw [Array.getElem?_eq_none (by omega)] at hp; cases hp
  rw [Below.cell h hb]; exact hp
theorem Ext.frozen {w w' : World} (h : Ext w w') {p : Addr} {v : Value} (hp : w.cell? p = some v) : w'.frozen? p = w.frozen? p := by
  have hb : p.block < w.heap.size := by
    unfold World.cell? at hp
    by_cases hlt : p.block < w.heap.size
    · exact hlt
    · rw [Array.getElem?_eq_none (by omega)] at hp; cases hp
  rw [Below.frozen h hb]

/-- Every cell of s is a cell of w. -/
def Sub (s w : World) : Prop := ∀ p v, s.cell? p = some v → w.cell? p = some v
theorem Sub.refl (w : World) : Sub w w := fun _ _ h => h
theorem Sub.trans {a b c : World} (h : Sub a b) (k : Sub b c) : Sub a c := fun p v hp => k p v (h p v hp)
theorem Ext.sub {w w' : World} (h : Ext w w') : Sub w w' := fun _ _ hp => h.cell hp

theorem toList_inj {a b : ByteArray} (h : a.toList = b.toList) : a = b := by
  rw [ByteArray.toList_eq, ByteArray.toList_eq] at h
  exact ByteArray.ext (Array.toList_inj.1 h)
theorem toList_beq (a b : ByteArray) : (a.toList == b.toList) = decide (a = b) := by
  rw [Bool.eq_iff_iff]
  simp only [beq_iff_eq, decide_eq_true_eq]
  exact ⟨toList_inj, fun h => by rw [h]⟩

instance memDec (x : ByteArray) (l : List ByteArray) : Decidable (x ∈ l) := decidable_of_iff (l.any (fun y => decide (y = x)) = true) (by simp)

inductive Ex where
  | mk (op : Int) (name : ByteArray) (words : List ByteArray) (lo hi : Int) (args : List Ex)

/-- An address of a slice: a place in a row of cells, if there are any. -/
def OkAddr (a : Option Addr) (c : Nat) : Prop := (c = 0 ∧ c = 0) ∨ ∃ b off, a = some ⟨b, off, none⟩

def IsStrs (w : World) (l : List ByteArray) (a : Option Addr) (n c : Nat) : Prop :=
  n = l.length ∧ n ≤ c ∧ OkAddr a c ∧ ∀ i (h : i < l.length), ∃ b off, a = some ⟨b, off, none⟩ ∧ w.cell? ⟨b, off + i, none⟩ = some (.string l[i])

theorem IsStrs.mono {w w' : World} {l : List ByteArray} {a : Option Addr} {n c : Nat} (h : IsStrs w l a n c) (he : Sub w w') : IsStrs w' l a n c :=
  ⟨h.1, h.2.1, h.2.2.1, fun i hi => by obtain ⟨b, off, h1, h2⟩ := h.2.2.2 i hi; exact ⟨b, off, h1, he _ _ h2⟩⟩
theorem IsStrs.ext {w w' : World} {l : List ByteArray} {a : Option Addr} {n c : Nat} (h : IsStrs w l a n c) (he : Ext w w') : IsStrs w' l a n c := h.mono he.sub

mutual
def ExD (w : World) : Ex → Option Addr → Nat → Nat → Option Addr → Nat → Nat → Prop
  | .mk _ _ words _ _ args, aw, nw, cw, aa, na, ca => IsStrs w words aw nw cw ∧ na = args.length ∧ na ≤ ca ∧ OkAddr aa ca ∧ ExsD w args aa
def ExsD (w : World) : List Ex → Option Addr → Prop
  | [], _ => True
  | .mk op name words lo hi args :: r, a => ∃ b off, a = some ⟨b, off, none⟩ ∧ (∃ aw nw cw aa na ca, w.cell? ⟨b, off, none⟩ = some (.int .i64 op) ∧ w.cell? ⟨b, off + 1, none⟩ = some (.string name) ∧ w.cell? ⟨b, off + 2, none⟩ = some (.slice aw nw cw) ∧
      w.cell? ⟨b, off + 3, none⟩ = some (.int .i64 lo) ∧ w.cell? ⟨b, off + 4, none⟩ = some (.int .i64 hi) ∧ w.cell? ⟨b, off + 5, none⟩ = some (.slice aa na ca) ∧
      IsStrs w words aw nw cw ∧ na = args.length ∧ na ≤ ca ∧ OkAddr aa ca ∧ ExsD w args aa) ∧ ExsD w r (some ⟨b, off + 6, none⟩)
end

mutual
theorem ExD.mono {w w' : World} (he : Sub w w') : (e : Ex) → (aw : Option Addr) → (nw cw : Nat) → (aa : Option Addr) → (na ca : Nat) → ExD w e aw nw cw aa na ca → ExD w' e aw nw cw aa na ca
  | .mk op name words lo hi args, aw, nw, cw, aa, na, ca, h => by
    unfold ExD at h ⊢
    obtain ⟨h1, h2, h3, h4, h5⟩ := h
    exact ⟨h1.mono he, h2, h3, h4, ExsD.mono he args aa h5⟩
theorem ExsD.mono {w w' : World} (he : Sub w w') : (l : List Ex) → (a : Option Addr) → ExsD w l a → ExsD w' l a
  | [], _, _ => by unfold ExsD; trivial
  | .mk op name words lo hi args :: r, a, h => by
    unfold ExsD at h ⊢
    obtain ⟨b, off, rfl, ⟨aw, nw, cw, aa, na, ca, h0, h1, h2, h3, h4, h5, h6, h7, h8, h9, h10⟩, hr⟩ := h
    exact ⟨b, off, rfl, ⟨aw, nw, cw, aa, na, ca, he _ _ h0, he _ _ h1, he _ _ h2, he _ _ h3, he _ _ h4, he _ _ h5, h6.mono he, h7, h8, h9, ExsD.mono he args aa h10⟩, ExsD.mono he r _ hr⟩
end
theorem ExsD.ext {w w' : World} (he : Ext w w') (l : List Ex) (a : Option Addr) (h : ExsD w l a) : ExsD w' l a := ExsD.mono he.sub l a h

def Ex.op : Ex → Int | .mk op _ _ _ _ _ => op
def Ex.name : Ex → ByteArray | .mk _ name _ _ _ _ => name
def Ex.words : Ex → List ByteArray | .mk _ _ words _ _ _ => words
def Ex.lo : Ex → Int | .mk _ _ _ lo _ _ => lo
def Ex.hi : Ex → Int | .mk _ _ _ _ hi _ => hi
def Ex.args : Ex → List Ex | .mk _ _ _ _ _ args => args

/-- The value of an expression: six cells. -/
def exV (op : Int) (name : ByteArray) (aw : Option Addr) (nw cw : Nat) (lo hi : Int) (aa : Option Addr) (na ca : Nat) : Value :=
  .agg #[.int .i64 op, .string name, .slice aw nw cw, .int .i64 lo, .int .i64 hi, .slice aa na ca]

def IsEx (w : World) (e : Ex) (v : Value) : Prop := ∃ aw nw cw aa na ca, v = exV e.op e.name aw nw cw e.lo e.hi aa na ca ∧ ExD w e aw nw cw aa na ca

theorem IsEx.mono {w w' : World} {e : Ex} {v : Value} (h : IsEx w e v) (he : Sub w w') : IsEx w' e v := by
  obtain ⟨aw, nw, cw, aa, na, ca, h1, h2⟩ := h
  exact ⟨aw, nw, cw, aa, na, ca, h1, ExD.mono he _ _ _ _ _ _ _ h2⟩
theorem IsEx.ext {w w' : World} {e : Ex} {v : Value} (h : IsEx w e v) (he : Ext w w') : IsEx w' e v := h.mono he.sub

theorem IsEx.parts {w : World} {e : Ex} {v : Value} (h : IsEx w e v) : ∃ aw nw cw aa na ca, v = exV e.op e.name aw nw cw e.lo e.hi aa na ca ∧ IsStrs w e.words aw nw cw ∧
    na = e.args.length ∧ na ≤ ca ∧ OkAddr aa ca ∧ ExsD w e.args aa := by
  obtain ⟨op, name, words, lo, hi, args⟩ := e
  obtain ⟨aw, nw, cw, aa, na, ca, h1, h2⟩ := h
  unfold ExD at h2
  exact ⟨aw, nw, cw, aa, na, ca, h1, h2⟩

theorem IsEx.mk {w : World} {op lo hi : Int} {name : ByteArray} {words : List ByteArray} {args : List Ex} {aw : Option Addr} {nw cw : Nat} {aa : Option Addr} {na ca : Nat}
    (h1 : IsStrs w words aw nw cw) (h2 : na = args.length) (h3 : na ≤ ca) (h4 : OkAddr aa ca) (h5 : ExsD w args aa) : IsEx w (.mk op name words lo hi args) (exV op name aw nw cw lo hi aa na ca) :=
  ⟨aw, nw, cw, aa, na, ca, rfl, by unfold ExD; exact ⟨h1, h2, h3, h4, h5⟩⟩

/-- The k-th argument, in memory: its six cells, and that they read as the expression. -/
theorem ExsD.at {w : World} : (l : List Ex) → (a : Option Addr) → ExsD w l a → (k : Nat) → (hk : k < l.length) →
    ∃ b off, a = some ⟨b, off, none⟩ ∧ ∃ aw nw cw aa na ca, w.cell? ⟨b, off + k * 6, none⟩ = some (.int .i64 l[k].op) ∧ w.cell? ⟨b, off + k * 6 + 1, none⟩ = some (.string l[k].name) ∧ w.cell? ⟨b, off + k * 6 + 2, none⟩ = some (.slice aw nw cw) ∧
      w.cell? ⟨b, off + k * 6 + 3, none⟩ = some (.int .i64 l[k].lo) ∧ w.cell? ⟨b, off + k * 6 + 4, none⟩ = some (.int .i64 l[k].hi) ∧ w.cell? ⟨b, off + k * 6 + 5, none⟩ = some (.slice aa na ca) ∧
      IsEx w l[k] (exV l[k].op l[k].name aw nw cw l[k].lo l[k].hi aa na ca)
  | [], _, _, k, hk => by simp at hk
  | .mk op name words lo hi args :: r, a, h, 0, _ => by
    unfold ExsD at h
    obtain ⟨b, off, rfl, ⟨aw, nw, cw, aa, na, ca, h0, h1, h2, h3, h4, h5, h6, h7, h8, h9, h10⟩, hr⟩ := h
    refine ⟨b, off, rfl, aw, nw, cw, aa, na, ca, ?_⟩
    simp only [Nat.zero_mul, Nat.add_zero]
    exact ⟨h0, h1, h2, h3, h4, h5, IsEx.mk h6 h7 h8 h9 h10⟩
  | .mk op name words lo hi args :: r, a, h, k + 1, hk => by
    unfold ExsD at h
    obtain ⟨b, off, rfl, _, hr⟩ := h
    obtain ⟨b', off', e1, rest⟩ := ExsD.at r _ hr k (by simpa using hk)
    simp at e1
    obtain ⟨rfl, rfl⟩ := e1
    have e1 : off + 6 + k * 6 = off + (k + 1) * 6 := by omega
    rw [e1] at rest
    exact ⟨b, off, rfl, by simpa using rest⟩

mutual
def Ex.size : Ex → Nat
  | .mk _ _ _ _ _ args => 1 + sizes args
def sizes : List Ex → Nat
  | [] => 0
  | e :: r => e.size + sizes r
end

theorem sizes_take_succ : (l : List Ex) → (k : Nat) → (hk : k < l.length) → sizes (l.take (k + 1)) = sizes (l.take k) + l[k].size
  | [], k, hk => by simp at hk
  | e :: r, 0, _ => by simp [sizes]
  | e :: r, k + 1, hk => by
    have := sizes_take_succ r k (by simpa using hk)
    simp [sizes] at this ⊢
    omega
theorem sizes_take_le : (l : List Ex) → (k : Nat) → sizes (l.take k) ≤ sizes l
  | [], k => by simp [sizes]
  | e :: r, 0 => by simp [sizes]
  | e :: r, k + 1 => by
    have := sizes_take_le r k
    simp [sizes]; omega
theorem length_le_sizes : (l : List Ex) → l.length ≤ sizes l
  | [] => by simp
  | .mk _ _ _ _ _ _ :: r => by
    have := length_le_sizes r
    simp [sizes, Ex.size]; omega
end Go.Proofs.Ytfjlglefodndjaa

namespace Go.Proofs.Ytfjlglefodndjaa
open Go.RowKit

def letterB (c : Int) : Bool := decide (97 ≤ c ∧ c ≤ 122)
def digitB (c : Int) : Bool := decide (48 ≤ c ∧ c ≤ 57)
def inWordB (c : Int) : Bool := letterB c || digitB c || (c == 45)
def inHourB (c : Int) : Bool := digitB c || (c == 45) || (c == 84)
def inLineB (c : Int) : Bool := c != 10
def markB (c : Int) : Bool := (c == 59) || (c == 58) || (c == 44) || (c == 40) || (c == 41)

/-- The call returns v and leaves the world alone. -/
def Gives (v : Value) (w : World) (e : Ending) (w' : World) : Prop := e = .returned v ∧ w = w'
theorem gives_bool {a b : Bool} {w : World} (h : a = b) : Gives (.bool b) w (.returned (.bool a)) w := by subst h; exact ⟨rfl, rfl⟩
theorem gives_int {k : IntKind} {a b : Int} {w : World} (h : a = b) : Gives (.int k b) w (.returned (.int k a)) w := by subst h; exact ⟨rfl, rfl⟩

/-- The call returns v; nothing that was in memory has changed. -/
def GivesE (v : Value) (w : World) (e : Ending) (w' : World) : Prop := e = .returned v ∧ Ext w w'
theorem givesE_bool {a b : Bool} {w w' : World} (h : a = b) (hx : Ext w w') : GivesE (.bool b) w (.returned (.bool a)) w' := by subst h; exact ⟨rfl, hx⟩
theorem givesE_int {k : IntKind} {a b : Int} {w w' : World} (h : a = b) (hx : Ext w w') : GivesE (.int k b) w (.returned (.int k a)) w' := by subst h; exact ⟨rfl, hx⟩

/-- A function value for span: it answers p, and leaves the world alone. -/
def Kind (f : FuncId) (p : Int → Bool) : Prop := ∀ (c : Int) (w : World), Calls Try.prog f #[.int .u8 c] w (Gives (.bool (p c)) w)

/-- The offset of the first byte from i on that is not of a kind. -/
def spanF (p : Int → Bool) (s : ByteArray) : Nat → Nat → Nat
  | 0, i => i
  | n + 1, i => if h : i < s.size then (if p (s[i].toNat : Int) then spanF p s n (i + 1) else i) else i

theorem spanF_step {p : Int → Bool} {s : ByteArray} {k : Nat} (h : k < s.size) (hp : p (s[k].toNat : Int) = true) : spanF p s (s.size - k) k = spanF p s (s.size - (k + 1)) (k + 1) := by
  obtain ⟨n, hn⟩ : ∃ n, s.size - k = n + 1 := ⟨s.size - k - 1, by omega⟩
  rw [hn, show s.size - (k + 1) = n by omega, spanF, dif_pos h, if_pos hp]
theorem spanF_stop {p : Int → Bool} {s : ByteArray} {k : Nat} (h : k < s.size) (hp : p (s[k].toNat : Int) = false) : spanF p s (s.size - k) k = k := by
  obtain ⟨n, hn⟩ : ∃ n, s.size - k = n + 1 := ⟨s.size - k - 1, by omega⟩
  rw [hn, spanF, dif_pos h, if_neg (by simp [hp])]
theorem spanF_end {p : Int → Bool} {s : ByteArray} {k : Nat} (h : ¬ k < s.size) : spanF p s (s.size - k) k = k := by
  rw [show s.size - k = 0 by omega, spanF]

def reservedWords : List (List UInt8) := [[97, 110, 100], [97, 118, 101, 114, 97, 103, 101], [99, 111, 105, 110, 115, 117, 114, 97, 110, 99, 101], [99, 111, 110, 100, 105, 116, 105, 111, 110], [99, 111, 118, 101, 114], [100, 101, 100, 117, 99, 116, 105, 98, 108, 101], [100, 101, 102, 105, 110, 101], [101, 110, 100], [101, 110, 100, 111, 114, 115, 101], [101, 120, 99, 108, 117, 100, 101], [102, 97, 108, 115, 101], [102, 114, 97, 110, 99, 104, 105, 115, 101], [102, 114, 111, 109], [105, 110], [108, 105, 109, 105, 116], [110, 111, 116], [111, 114], [114, 101, 109, 111, 118, 101], [115, 117, 98, 108, 105, 109, 105, 116], [116, 111], [116, 114, 117, 101], [117, 110, 108, 101, 115, 115], [119, 104, 101, 110]]
def reservedB (s : ByteArray) : Bool := reservedWords.any fun x => s.toList == x
end Go.Proofs.Ytfjlglefodndjaa

namespace Go.Proofs.Ytfjlglefodndjaa
open Go.RowKit

/-- The byte at i, as a number; 0 beyond the end. -/
def byteAt (s : ByteArray) (i : Nat) : Int := if h : i < s.size then (s[i].toNat : Int) else 0
theorem byteAt_lt {s : ByteArray} {i : Nat} (h : i < s.size) : byteAt s i = (s[i].toNat : Int) := by simp [byteAt, h]

def wordB (s : ByteArray) : Bool := s.size != 0 && decide (s.size ≤ 16) && letterB (byteAt s 0) && (byteAt s (s.size - 1) != 45) && spanF inWordB s s.size 0 == s.size

def nameB (s : ByteArray) : Bool := wordB s && !reservedB s
end Go.Proofs.Ytfjlglefodndjaa

namespace Go.Proofs.Ytfjlglefodndjaa
open Go.RowKit

def numberB (n : Int) : Bool := decide (-1000000000 ≤ n ∧ n ≤ 1000000000)
/-- The index of the first string of l from k on that is x; -1 if there is none. -/
def indexF (l : List ByteArray) (x : ByteArray) : Int := match l.findIdx? (fun y => decide (y = x)) with | some i => i | none => -1

theorem indexF_of {l : List ByteArray} {x : ByteArray} {k : Nat} (hk : k < l.length) (h1 : ∀ j (hj : j < l.length), j < k → l[j] ≠ x) (h2 : l[k] = x) : indexF l x = k := by
  unfold indexF
  have : l.findIdx? (fun y => decide (y = x)) = some k := by
    rw [List.findIdx?_eq_some_iff_getElem]
    exact ⟨hk, by simp [h2], fun j hj => by simpa using h1 j (by omega) hj⟩
  rw [this]
theorem indexF_none {l : List ByteArray} {x : ByteArray} (h1 : ∀ j (hj : j < l.length), l[j] ≠ x) : indexF l x = -1 := by
  unfold indexF
  have : l.findIdx? (fun y => decide (y = x)) = none := by
    rw [List.findIdx?_eq_none_iff]
    intro y hy
    obtain ⟨j, hj, rfl⟩ := List.getElem_of_mem hy
    simpa using h1 j hj
  rw [this]
theorem indexF_nonneg {l : List ByteArray} {x : ByteArray} : (0 ≤ indexF l x) ↔ x ∈ l := by
  unfold indexF
  cases h : l.findIdx? (fun y => decide (y = x)) with
  | none =>
    rw [List.findIdx?_eq_none_iff] at h
    constructor
    · intro h'; simp at h'
    · intro h'; have := h x h'; simp at this
  | some i =>
    rw [List.findIdx?_eq_some_iff_getElem] at h
    obtain ⟨hi, h2, _⟩ := h
    constructor
    · intro _; simp at h2; rw [← h2]; exact List.getElem_mem hi
    · intro _; simp

/-- The first k words of a list, as a slice of it. -/
theorem IsStrs.take {w : World} {l : List ByteArray} {a : Option Addr} {n c : Nat} (h : IsStrs w l a n c) {k : Nat} (hk : k ≤ n) : IsStrs w (l.take k) a k c := by
  obtain ⟨h1, h2, h3, h4⟩ := h
  refine ⟨by simp; omega, by omega, h3, fun i hi => ?_⟩
  have : i < l.length := by simp at hi; omega
  obtain ⟨b, off, e1, e2⟩ := h4 i this
  exact ⟨b, off, e1, by simpa using e2⟩

def wordsB (l : List ByteArray) : Bool := l.length != 0 && decide (l.length ≤ 12) && (l.all nameB) && decide l.Nodup

/-- What has been looked at: k words, all of them names, no two alike. -/
def Looked (l : List ByteArray) (k : Nat) : Prop := (∀ x ∈ l.take k, nameB x = true) ∧ (l.take k).Nodup

theorem Looked.next {l : List ByteArray} {k : Nat} (h : Looked l k) (hk : k < l.length) (h1 : nameB l[k] = true) (h2 : l[k] ∉ l.take k) : Looked l (k + 1) := by
  unfold Looked at *
  rw [List.take_succ_eq_append_getElem hk]
  refine ⟨fun x hx => ?_, ?_⟩
  · rcases List.mem_append.1 hx with hx | hx
    · exact h.1 x hx
    · simp at hx; subst hx; exact h1
  · rw [List.nodup_append]
    exact ⟨h.2, by simp, fun a ha b hb => by simp at hb; subst hb; intro e; subst e; exact h2 ha⟩
theorem wordsB_of {l : List ByteArray} (h : Looked l l.length) (h0 : l.length ≠ 0) (h1 : l.length ≤ 12) : wordsB l = true := by
  unfold Looked at h
  simp at h
  simp [wordsB, h0, h1, h.2]
  exact h.1
theorem wordsB_no {l : List ByteArray} {k : Nat} (hk : k < l.length) (h : nameB l[k] = false ∨ l[k] ∈ l.take k) : wordsB l = false := by
  cases hb : wordsB l
  · rfl
  simp [wordsB] at hb
  obtain ⟨⟨_, h3⟩, h4⟩ := hb
  rcases h with h | h
  · rw [h3 _ (List.getElem_mem hk)] at h; cases h
  · have : (l.take (k + 1)).Nodup := h4.sublist (List.take_sublist _ _)
    rw [List.take_succ_eq_append_getElem hk, List.nodup_append] at this
    exact absurd rfl (this.2.2 _ h _ (by simp))

end Go.Proofs.Ytfjlglefodndjaa

namespace Go.Proofs.Ytfjlglefodndjaa
open Go.RowKit

/-- The table of the operators: the words, whether they have a name, how many arguments, and how strongly they bind. -/
def opWord (k : Nat) : ByteArray := ⟨(([[], [116, 114, 117, 101], [102, 97, 108, 115, 101], [], [105, 110], [102, 114, 111, 109], [110, 111, 116], [97, 110, 100], [111, 114]] : List (List UInt8)).getD k []).toArray⟩
def opNamed (k : Nat) : Bool := [false, false, false, true, true, true, false, false, false].getD k false
def opLeast (k : Nat) : Int := [0, 0, 0, 0, 0, 0, 1, 2, 2].getD k 0
def opMost (k : Nat) : Int := [0, 0, 0, 0, 0, 0, 1, 300, 300].getD k 0
def opBinds (k : Nat) : Int := [0, 0, 0, 0, 0, 0, 3, 2, 1].getD k 0

theorem block_lt {w : World} {p : Addr} {v : Value} (hp : w.cell? p = some v) : p.block < w.heap.size := by
  unfold World.cell? at hp
  by_cases hlt : p.block < w.heap.size
  · exact hlt
  · rw [Array.getElem?_eq_none (by omega)] at hp; cases hp
def nodeB (e : Ex) : Bool :=
  decide (1 ≤ e.op ∧ e.op ≤ 8) && (decide (opLeast e.op.toNat ≤ e.args.length) && decide ((e.args.length : Int) ≤ opMost e.op.toNat)) &&
  (if opNamed e.op.toNat then nameB e.name else e.name.toList.isEmpty) && (if e.op == 4 then wordsB e.words else e.words.isEmpty) &&
  (if e.op == 5 then numberB e.lo && numberB e.hi && decide (e.lo ≤ e.hi) else (e.lo == 0) && (e.hi == 0))


theorem nodeB_eq (op lo hi : Int) (name : ByteArray) (words : List ByteArray) (args : List Ex) (nw na : Nat) (h1 : nw = words.length) (h2 : na = args.length) : nodeB (.mk op name words lo hi args) =
  (decide (1 ≤ op ∧ op ≤ 8) && (decide (opLeast op.toNat ≤ na) && decide ((na : Int) ≤ opMost op.toNat)) &&
  (if opNamed op.toNat then nameB name else name.toList.isEmpty) && (if op == 4 then wordsB words else decide (nw = 0)) &&
  (if op == 5 then numberB lo && numberB hi && decide (lo ≤ hi) else (lo == 0) && (hi == 0))) := by
  subst h1 h2
  have : words.isEmpty = decide (words.length = 0) := by cases words <;> simp
  simp only [nodeB, Ex.op, Ex.name, Ex.words, Ex.lo, Ex.hi, Ex.args, this]
  rfl
theorem nodeB_nat (k : Nat) (lo hi : Int) (name : ByteArray) (words : List ByteArray) (args : List Ex) (nw na : Nat) (h1 : nw = words.length) (h2 : na = args.length) (hk : 1 ≤ k ∧ k < 9) : nodeB (.mk k name words lo hi args) =
  ((decide (opLeast k ≤ na) && decide ((na : Int) ≤ opMost k)) &&
  (if opNamed k then nameB name else name.toList.isEmpty) && (if (k : Int) == 4 then wordsB words else decide (nw = 0)) &&
  (if (k : Int) == 5 then numberB lo && numberB hi && decide (lo ≤ hi) else (lo == 0) && (hi == 0))) := by
  rw [nodeB_eq _ _ _ _ _ _ nw na h1 h2, Int.toNat_natCast, decide_eq_true (show 1 ≤ (k : Int) ∧ (k : Int) ≤ 8 by omega), Bool.true_and]

end Go.Proofs.Ytfjlglefodndjaa

namespace Go.Proofs.Ytfjlglefodndjaa
open Go.ChangeShapes Go.WideShapes Go.ChangeAt Go.WideMaps Go.WideElems Go.RowKit

theorem own : ownKnob Try.prog.godebug = none := by kernel_rfl
theorem cS : Try.prog.cellsOf 9 = 1 := by kernel_rfl
theorem cB : Try.prog.cellsOf 4 = 1 := by kernel_rfl
theorem cI : Try.prog.cellsOf 3 = 1 := by kernel_rfl
theorem uS : Try.prog.underlying 9 = some .string := by kernel_rfl
theorem uB : Try.prog.underlying 4 = some .bool := by kernel_rfl
theorem uI : Try.prog.underlying 3 = some (.int .i64) := by kernel_rfl

theorem op_field {opFields : Array Field} (j : Nat) (t : TypeId) (o : Nat) (h : (opFields.toList.map (fun f => (f.type, f.offset)))[j]? = some (t, o)) : ∃ f, opFields[j]? = some f ∧ f.type = t ∧ f.offset = o := by
  rw [List.getElem?_map] at h
  cases hf : opFields.toList[j]? with
  | none => rw [hf] at h; cases h
  | some f =>
    rw [hf] at h
    simp only [Option.map_some, Option.some.injEq, Prod.mk.injEq] at h
    exact ⟨f, by simpa using hf, h.1, h.2⟩

theorem list5 {α : Type} (l : List α) (h : l.length = 5) : ∃ a b c d e, l = [a, b, c, d, e] := by
  rcases l with _ | ⟨a, _ | ⟨b, _ | ⟨c, _ | ⟨d, _ | ⟨e, _ | ⟨f, r⟩⟩⟩⟩⟩⟩ <;> simp at h
  exact ⟨a, b, c, d, e, rfl⟩
end Go.Proofs.Ytfjlglefodndjaa
