/-
  Texts of the claim, joined: Made2, Conv, Upto, Clause, Cla, Ref1.
-/
import Derived.Test.YtfjlglefodndjaaDoorDo08
import Derived.Test.YtfjlglefodndjaaDoorDo01
import Derived.Laws.BytesString
import Derived.Test.YtfjlglefodndjaaDoorDo06
import Derived.Test.YtfjlglefodndjaaDoorDo02
import Derived.Test.YtfjlglefodndjaaDoorDo03
namespace Go.Proofs.YtfjlglefodndjaaDoor
open Go.RowKit

/-- An expression of at most a depth over a schema and names, as the generator makes it. -/
def MadeE (attrs : List Attr) (names : List ByteArray) : Nat → Ex → Prop
  | 0, _ => False
  | d + 1, e => AtomOf attrs names e ∨ ((e.op = 6 ∧ e.args.length = 1 ∨ (e.op = 7 ∨ e.op = 8) ∧ 2 ≤ e.args.length ∧ e.args.length ≤ 3) ∧ e.name = ⟨#[]⟩ ∧ e.words = [] ∧ e.lo = 0 ∧ e.hi = 0 ∧ ∀ x ∈ e.args, MadeE attrs names d x)
theorem MadeE.atom {attrs : List Attr} {names : List ByteArray} {d : Nat} {e : Ex} (h : AtomOf attrs names e) (hd : 0 < d) : MadeE attrs names d e := by
  obtain ⟨d, rfl⟩ : ∃ k, d = k + 1 := ⟨d - 1, by omega⟩
  exact Or.inl h
/-- What the operations of 'e.Args = append(e.Args, d.Expr(s, names, deep-1))' leave. -/
def Rd15 (attrs : List Attr) (names : List ByteArray) (d be bd : Nat) (v : Value) (a : Option Addr) (n c : Nat) (an : Option Addr) (nn cn : Nat) (j : Nat) (xs : List ExV) (K : List Nat) (wr : World) : Nat → Value → World → Prop
  | 0, u, _ => u = .pointer (some ⟨be, 5, none⟩)
  | 1, u, _ => u = v
  | 2, u, _ => u = .pointer (some ⟨bd, 0, none⟩)
  | 3, u, _ => u = .agg #[.slice a n c]
  | 4, u, _ => u = .slice an nn cn
  | 5, u, _ => u = .int .i64 ((d : Int) + 1)
  | 6, u, _ => u = .int .i64 (d : Int)
  | 7, u, W => ∃ (e : Ex) (x : ExV), u = x.val ∧ MadeE attrs names d e ∧ IsEx (mask W K) e x.val
  | 8, u, W => ∃ (x0 : Nat) (e : Ex) (x : ExV), u = .slice (some ⟨x0, 0, none⟩) 1 1 ∧ W.heap[x0]? = some (.cells x.cells.toArray 25 (0, 0)) ∧ MadeE attrs names d e ∧ IsEx (mask W K) e x.val ∧ W.ownsRow (be + 1) 25 6 v j (xs.flatMap ExV.cells)
  | 9, u, W => ∃ (g cap : Nat) (e : Ex) (x : ExV), u = .slice (some ⟨g, 0, none⟩) (j + 1) cap ∧ W.ownsRow (be + 1) 25 6 (.slice (some ⟨g, 0, none⟩) (j + 1) cap) (j + 1) ((xs ++ [x]).flatMap ExV.cells) ∧ MadeE attrs names d e ∧ IsEx (mask W (K ++ [g])) e x.val ∧ (v.ownBlock = some g ∨ wr.heap.size ≤ g)
  | 10, u, _ => u = .pointer (some ⟨be, 5, none⟩)
  | _, _, _ => True
def E15 (k : Nat) (W W' : World) : Prop := k = 7 ∨ k = 8 ∨ k = 9 ∨ W = W'
theorem rd15_keeps {ops : Array Oper} {attrs : List Attr} {names : List ByteArray} {d be bd : Nat} {v : Value} {a : Option Addr} {n c : Nat} {an : Option Addr} {nn cn j : Nat} {xs : List ExV} {K : List Nat} {wr : World}
    (hops : (!outlasts ops 11 [9, 10] 7 8 && !outlasts ops 11 [9, 10] 7 9 && !outlasts ops 11 [9, 10] 8 7 && !outlasts ops 11 [9, 10] 8 9 && !outlasts ops 11 [9, 10] 9 7 && !outlasts ops 11 [9, 10] 9 8) = true) :
    ∀ i k u W W', i < 11 → k < 11 → i ≠ k → outlasts ops 11 [9, 10] i k = true → Rd15 attrs names d be bd v a n c an nn cn j xs K wr i u W → E15 k W W' → Rd15 attrs names d be bd v a n c an nn cn j xs K wr i u W' := by
  intro i k u W W' hi hk hne ho hR hE
  simp only [Bool.and_eq_true, Bool.not_eq_true'] at hops
  obtain ⟨⟨⟨⟨⟨q1, q2⟩, q3⟩, q4⟩, q5⟩, q6⟩ := hops
  have hi' : i = 0 ∨ i = 1 ∨ i = 2 ∨ i = 3 ∨ i = 4 ∨ i = 5 ∨ i = 6 ∨ i = 7 ∨ i = 8 ∨ i = 9 ∨ i = 10 := by omega
  have key : ∀ (h : i = 7 ∨ i = 8 ∨ i = 9), W = W' := by
    intro h
    rcases hE with rfl | rfl | rfl | e
    · rcases h with rfl | rfl | rfl
      · exact absurd rfl hne
      · rw [q3] at ho; cases ho
      · rw [q5] at ho; cases ho
    · rcases h with rfl | rfl | rfl
      · rw [q1] at ho; cases ho
      · exact absurd rfl hne
      · rw [q6] at ho; cases ho
    · rcases h with rfl | rfl | rfl
      · rw [q2] at ho; cases ho
      · rw [q4] at ho; cases ho
      · exact absurd rfl hne
    · exact e
  rcases hi' with rfl | rfl | rfl | rfl | rfl | rfl | rfl | rfl | rfl | rfl | rfl
  case inr.inr.inr.inr.inr.inr.inr.inl => rw [← key (by simp)]; exact hR
  case inr.inr.inr.inr.inr.inr.inr.inr.inl => rw [← key (by simp)]; exact hR
  case inr.inr.inr.inr.inr.inr.inr.inr.inr.inl => rw [← key (by simp)]; exact hR
  all_goals exact hR

def notV (g : Nat) : ExV := ⟨6, ⟨#[]⟩, none, 0, 0, 0, 0, some ⟨g, 0, none⟩, 1, 1⟩
end Go.Proofs.YtfjlglefodndjaaDoor

namespace Go.Proofs.YtfjlglefodndjaaDoor
open Go.RowKit

theorem uBy : Tryd.prog.underlying 5 = some (.int .u8) := by kernel_rfl
theorem uBs : Tryd.prog.underlying 30 = some (.slice 5) := by kernel_rfl
theorem uSt : Tryd.prog.underlying 9 = some .string := by kernel_rfl
/-- string([]byte{c}) -/
theorem conv_byte (w : World) (x : Nat) (hx : x = w.heap.size) (c : Int) (t : TypeId) : Sem.run Tryd.prog (convert 30 9 (.slice (some ⟨x, 0, none⟩) 1 1)) (w.alloc (.cells #[.int .u8 c] t)) = .ok (.string ⟨#[UInt8.ofNat c.toNat]⟩) (w.alloc (.cells #[.int .u8 c] t)) := by
  subst hx
  rw [run_convert_bytes_string _ _ _ 5 _ _ _ uBs uBy uSt]
  have := run_bytesToString (P := Tryd.prog) (w.alloc (.cells #[.int .u8 c] t)) ⟨w.heap.size, 0, none⟩ 1 1 [c] (by
    refine run_loadCells_list (P := Tryd.prog) _ _ [.int .u8 c] (fun j v hj => ?_)
    have hj0 : j = 0 := by
      have := (List.getElem?_eq_some_iff.1 hj).1
      simpa using this
    subst hj0
    have : (⟨w.heap.size, 0, none⟩ : Addr).add 0 = ⟨w.heap.size, 0, none⟩ := by unfold Addr.add; split <;> simp_all
    rw [this, World.cell?_alloc_at _ _ _ _ rfl]
    simpa using hj)
  rw [this]
  rfl
end Go.Proofs.YtfjlglefodndjaaDoor

namespace Go.Proofs.YtfjlglefodndjaaDoor
open Go.RowKit

/-! The generator: Upto, Left, letters. -/
def LeftQ (w : World) (e : Ending) (w' : World) : Prop := ∃ b : Bool, e = .returned (.bool b) ∧ Ext w w'
/-- string([]byte{a, b}) -/
theorem conv_two (w : World) (x : Nat) (hx : x = w.heap.size) (c d : Int) (t : TypeId) : Sem.run Tryd.prog (convert 30 9 (.slice (some ⟨x, 0, none⟩) 2 2)) (w.alloc (.cells #[.int .u8 c, .int .u8 d] t)) = .ok (.string ⟨#[UInt8.ofNat c.toNat, UInt8.ofNat d.toNat]⟩) (w.alloc (.cells #[.int .u8 c, .int .u8 d] t)) := by
  subst hx
  rw [run_convert_bytes_string _ _ _ 5 _ _ _ uBs uBy uSt]
  have := run_bytesToString (P := Tryd.prog) (w.alloc (.cells #[.int .u8 c, .int .u8 d] t)) ⟨w.heap.size, 0, none⟩ 2 2 [c, d] (by
    refine run_loadCells_list (P := Tryd.prog) _ _ [.int .u8 c, .int .u8 d] (fun j v hj => ?_)
    have : (⟨w.heap.size, 0, none⟩ : Addr).add j = ⟨w.heap.size, j, none⟩ := by unfold Addr.add; split <;> simp_all
    rw [this, World.cell?_alloc_at _ _ _ _ rfl]
    simpa using hj)
  rw [this]
  rfl
def lettersB (p : ByteArray) (k : Nat) : ByteArray := p ++ ⟨#[97 + UInt8.ofNat (k / 26 % 26), 97 + UInt8.ofNat (k % 26)]⟩
theorem lettersB_size (p : ByteArray) (k : Nat) : (lettersB p k).size = p.size + 2 := by unfold lettersB; rw [ByteArray.size_append]; rfl
def LettersQ (p : ByteArray) (k : Nat) (w : World) (e : Ending) (w' : World) : Prop := e = .returned (.string (lettersB p k)) ∧ Ext w w'
end Go.Proofs.YtfjlglefodndjaaDoor

namespace Go.Proofs.YtfjlglefodndjaaDoor
open Go.RowKit

/-- A clause's cells: its kind, its name, its condition's value, its write-backs, its amount. -/
structure ClV where
  kind : Int
  name : ByteArray
  x : ExV
  au : Option Addr
  nu : Nat
  cu : Nat
  amount : Int
def ClV.cells (c : ClV) : List Value := [.int .i64 c.kind, .string c.name, .int .i64 c.x.op, .string c.x.name, .slice c.x.aw c.x.nw c.x.cw, .int .i64 c.x.lo, .int .i64 c.x.hi, .slice c.x.aa c.x.na c.x.ca, .slice c.au c.nu c.cu, .int .i64 c.amount]
theorem ClV.len (c : ClV) : c.cells.length = 10 := rfl
/-- What Order looks at in a clause. -/
structure Cl where
  kind : Int
  name : ByteArray
  cond : Ex
/-- Clauses in a slice: kinds, names, conditions; what the write-backs lead to is left open. -/
def IsCls (w : World) (l : List Cl) (a : Option Addr) (n c : Nat) : Prop :=
  ∃ vs : List ClV, IsRows w 10 ClV.cells vs a n c ∧ l.length = vs.length ∧ ∀ i (h1 : i < l.length) (h2 : i < vs.length), vs[i].kind = l[i].kind ∧ vs[i].name = l[i].name ∧ IsEx w l[i].cond vs[i].x.val
theorem IsCls.mono {w w' : World} {l : List Cl} {a : Option Addr} {n c : Nat} (h : IsCls w l a n c) (hs : Sub w w') : IsCls w' l a n c := by
  obtain ⟨vs, h1, h2, h3⟩ := h
  exact ⟨vs, h1.mono hs, h2, fun i hi hv => ⟨(h3 i hi hv).1, (h3 i hi hv).2.1, (h3 i hi hv).2.2.mono hs⟩⟩
theorem IsCls.ext {w w' : World} {l : List Cl} {a : Option Addr} {n c : Nat} (h : IsCls w l a n c) (he : Ext w w') : IsCls w' l a n c := h.mono he.sub
theorem IsCls.len {w : World} {l : List Cl} {a : Option Addr} {n c : Nat} (h : IsCls w l a n c) : n = l.length := by
  obtain ⟨vs, h1, h2, _⟩ := h
  rw [h2]; exact h1.1
/-- The k-th clause: its ten cells. -/
theorem IsCls.at {w : World} {l : List Cl} {a : Option Addr} {n c : Nat} (h : IsCls w l a n c) {k : Nat} (hk : k < l.length) : ∃ (b off : Nat) (v : ClV), a = some ⟨b, off, none⟩ ∧ v.kind = l[k].kind ∧ v.name = l[k].name ∧ IsEx w l[k].cond v.x.val ∧ ∀ j (hj : j < v.cells.length), w.cell? ⟨b, off + k * 10 + j, none⟩ = some v.cells[j] := by
  obtain ⟨vs, h1, h2, h3⟩ := h
  have hk' : k < vs.length := by omega
  obtain ⟨b, off, e, hc⟩ := h1.2.2.2 k hk'
  obtain ⟨q1, q2, q3⟩ := h3 k hk hk'
  exact ⟨b, off, vs[k], e, q1, q2, q3, hc⟩
theorem IsCls.at10 {w : World} {l : List Cl} {a : Option Addr} {n c : Nat} (h : IsCls w l a n c) {k : Nat} (hk : k < l.length) : ∃ (b off : Nat) (v : ClV), a = some ⟨b, off, none⟩ ∧ v.kind = l[k].kind ∧ v.name = l[k].name ∧ IsEx w l[k].cond v.x.val ∧
    w.cell? ⟨b, off + k * 10, none⟩ = some (.int .i64 v.kind) ∧ w.cell? ⟨b, off + k * 10 + 1, none⟩ = some (.string v.name) ∧ w.cell? ⟨b, off + k * 10 + 2, none⟩ = some (.int .i64 v.x.op) ∧ w.cell? ⟨b, off + k * 10 + 3, none⟩ = some (.string v.x.name) ∧
    w.cell? ⟨b, off + k * 10 + 4, none⟩ = some (.slice v.x.aw v.x.nw v.x.cw) ∧ w.cell? ⟨b, off + k * 10 + 5, none⟩ = some (.int .i64 v.x.lo) ∧ w.cell? ⟨b, off + k * 10 + 6, none⟩ = some (.int .i64 v.x.hi) ∧ w.cell? ⟨b, off + k * 10 + 7, none⟩ = some (.slice v.x.aa v.x.na v.x.ca) ∧
    w.cell? ⟨b, off + k * 10 + 8, none⟩ = some (.slice v.au v.nu v.cu) ∧ w.cell? ⟨b, off + k * 10 + 9, none⟩ = some (.int .i64 v.amount) := by
  obtain ⟨b, off, v, e, q1, q2, q3, hc⟩ := h.at hk
  exact ⟨b, off, v, e, q1, q2, q3, hc 0 (by simp [ClV.len]), hc 1 (by simp [ClV.len]), hc 2 (by simp [ClV.len]), hc 3 (by simp [ClV.len]), hc 4 (by simp [ClV.len]), hc 5 (by simp [ClV.len]), hc 6 (by simp [ClV.len]), hc 7 (by simp [ClV.len]), hc 8 (by simp [ClV.len]), hc 9 (by simp [ClV.len])⟩
end Go.Proofs.YtfjlglefodndjaaDoor

namespace Go.Proofs.YtfjlglefodndjaaDoor
open Go.RowKit

/-! Clauses with their write-backs, in memory. -/
inductive Wb where
  | mk (name : ByteArray) (cond : Ex) (unl : List Wb)
def Wb.name : Wb → ByteArray | .mk n _ _ => n
def Wb.cond : Wb → Ex | .mk _ c _ => c
def Wb.unl : Wb → List Wb | .mk _ _ u => u
structure Cla where
  kind : Int
  name : ByteArray
  cond : Ex
  unl : List Wb
  amount : Int
def Cla.cl (c : Cla) : Cl := ⟨c.kind, c.name, c.cond⟩

/-- A write-back's cells. -/
structure WbV where
  name : ByteArray
  x : ExV
  au : Option Addr
  nu : Nat
  cu : Nat
def WbV.cells (v : WbV) : List Value := [.string v.name, .int .i64 v.x.op, .string v.x.name, .slice v.x.aw v.x.nw v.x.cw, .int .i64 v.x.lo, .int .i64 v.x.hi, .slice v.x.aa v.x.na v.x.ca, .slice v.au v.nu v.cu]
theorem WbV.len (c : WbV) : c.cells.length = 8 := rfl

/-- A row of v.cells.length cells from off on. -/
def RowAt (w : World) (b off : Nat) (cs : List Value) : Prop := ∀ j (h : j < cs.length), w.cell? ⟨b, off + j, none⟩ = some cs[j]
theorem RowAt.mono {w w' : World} {b off : Nat} {cs : List Value} (h : RowAt w b off cs) (hs : Sub w w') : RowAt w' b off cs := fun j hj => hs _ _ (h j hj)

mutual
def WbD (w : World) : Wb → Option Addr → Nat → Nat → Prop
  | .mk _ _ unl, au, nu, cu => nu = unl.length ∧ nu ≤ cu ∧ OkAddr au cu ∧ WbsD w unl au
def WbsD (w : World) : List Wb → Option Addr → Prop
  | [], _ => True
  | .mk name cond unl :: r, a => ∃ b off, a = some ⟨b, off, none⟩ ∧ (∃ v : WbV, v.name = name ∧ RowAt w b off v.cells ∧ IsEx w cond v.x.val ∧ v.nu = unl.length ∧ v.nu ≤ v.cu ∧ OkAddr v.au v.cu ∧ WbsD w unl v.au) ∧ WbsD w r (some ⟨b, off + 8, none⟩)
end
mutual
theorem WbD.mono {w w' : World} (he : Sub w w') : (e : Wb) → (au : Option Addr) → (nu cu : Nat) → WbD w e au nu cu → WbD w' e au nu cu
  | .mk name cond unl, au, nu, cu, h => by
    unfold WbD at h ⊢
    exact ⟨h.1, h.2.1, h.2.2.1, WbsD.mono he unl au h.2.2.2⟩
theorem WbsD.mono {w w' : World} (he : Sub w w') : (l : List Wb) → (a : Option Addr) → WbsD w l a → WbsD w' l a
  | [], _, _ => by unfold WbsD; trivial
  | .mk name cond unl :: r, a, h => by
    unfold WbsD at h ⊢
    obtain ⟨b, off, rfl, ⟨v, h0, h1, h2, h3, h4, h5, h6⟩, hr⟩ := h
    exact ⟨b, off, rfl, ⟨v, h0, h1.mono he, h2.mono he, h3, h4, h5, WbsD.mono he unl v.au h6⟩, WbsD.mono he r _ hr⟩
end
/-- The k-th write-back. -/
theorem WbsD.at {w : World} : (l : List Wb) → (a : Option Addr) → WbsD w l a → (k : Nat) → (hk : k < l.length) →
    ∃ b off, a = some ⟨b, off, none⟩ ∧ ∃ v : WbV, v.name = l[k].name ∧ RowAt w b (off + k * 8) v.cells ∧ IsEx w l[k].cond v.x.val ∧ v.nu = l[k].unl.length ∧ v.nu ≤ v.cu ∧ OkAddr v.au v.cu ∧ WbsD w l[k].unl v.au
  | [], _, _, k, hk => by simp at hk
  | .mk name cond unl :: r, a, h, 0, _ => by
    unfold WbsD at h
    obtain ⟨b, off, rfl, ⟨v, h0, h1, h2, h3, h4, h5, h6⟩, hr⟩ := h
    refine ⟨b, off, rfl, v, ?_⟩
    simp only [Nat.zero_mul, Nat.add_zero]
    exact ⟨h0, h1, h2, h3, h4, h5, h6⟩
  | .mk name cond unl :: r, a, h, k + 1, hk => by
    unfold WbsD at h
    obtain ⟨b, off, rfl, _, hr⟩ := h
    obtain ⟨b', off', e1, rest⟩ := WbsD.at r _ hr k (by simpa using hk)
    simp at e1
    obtain ⟨rfl, rfl⟩ := e1
    have e1 : off + 8 + k * 8 = off + (k + 1) * 8 := by omega
    rw [e1] at rest
    exact ⟨b, off, rfl, by simpa using rest⟩
/-- Write-backs laid one by one. -/
theorem WbsD.of {w : World} {b : Nat} : (l : List Wb) → (off : Nat) → (vs : List WbV) → l.length = vs.length → (∀ i (h1 : i < l.length) (h2 : i < vs.length), vs[i].name = l[i].name ∧ RowAt w b (off + i * 8) vs[i].cells ∧ IsEx w l[i].cond vs[i].x.val ∧ vs[i].nu = l[i].unl.length ∧ vs[i].nu ≤ vs[i].cu ∧ OkAddr vs[i].au vs[i].cu ∧ WbsD w l[i].unl vs[i].au) → WbsD w l (some ⟨b, off, none⟩)
  | [], _, _, _, _ => by unfold WbsD; trivial
  | .mk name cond unl :: r, off, [], hl, _ => by simp at hl
  | .mk name cond unl :: r, off, v :: vs, hl, h => by
    unfold WbsD
    obtain ⟨h0, h1, h2, h3, h4, h5, h6⟩ := h 0 (by simp) (by simp)
    simp only [List.getElem_cons_zero, Nat.zero_mul, Nat.add_zero] at h0 h1 h2 h3 h4 h5 h6
    refine ⟨b, off, rfl, ⟨v, h0, h1, h2, h3, h4, h5, h6⟩, WbsD.of r (off + 8) vs (by simpa using hl) fun i g1 g2 => ?_⟩
    have := h (i + 1) (by simpa using g1) (by simpa using g2)
    have e1 : off + (i + 1) * 8 = off + 8 + i * 8 := by omega
    rw [e1] at this
    simpa using this

/-- A clause and its cells. -/
def IsCla (w : World) (c : Cla) (v : ClV) : Prop := v.kind = c.kind ∧ v.name = c.name ∧ IsEx w c.cond v.x.val ∧ v.nu = c.unl.length ∧ v.nu ≤ v.cu ∧ OkAddr v.au v.cu ∧ WbsD w c.unl v.au ∧ v.amount = c.amount
theorem IsCla.mono {w w' : World} {c : Cla} {v : ClV} (h : IsCla w c v) (hs : Sub w w') : IsCla w' c v :=
  ⟨h.1, h.2.1, h.2.2.1.mono hs, h.2.2.2.1, h.2.2.2.2.1, h.2.2.2.2.2.1, WbsD.mono hs _ _ h.2.2.2.2.2.2.1, h.2.2.2.2.2.2.2⟩
/-- Clauses in a slice. -/
def IsClas (w : World) (l : List Cla) (a : Option Addr) (n c : Nat) : Prop :=
  ∃ vs : List ClV, IsRows w 10 ClV.cells vs a n c ∧ l.length = vs.length ∧ ∀ i (h1 : i < l.length) (h2 : i < vs.length), IsCla w l[i] vs[i]
theorem IsClas.mono {w w' : World} {l : List Cla} {a : Option Addr} {n c : Nat} (h : IsClas w l a n c) (hs : Sub w w') : IsClas w' l a n c := by
  obtain ⟨vs, h1, h2, h3⟩ := h
  exact ⟨vs, h1.mono hs, h2, fun i hi hv => (h3 i hi hv).mono hs⟩
theorem IsClas.ext {w w' : World} {l : List Cla} {a : Option Addr} {n c : Nat} (h : IsClas w l a n c) (he : Ext w w') : IsClas w' l a n c := h.mono he.sub
theorem IsClas.len {w : World} {l : List Cla} {a : Option Addr} {n c : Nat} (h : IsClas w l a n c) : n = l.length := by
  obtain ⟨vs, h1, h2, _⟩ := h
  rw [h2]; exact h1.1
theorem IsClas.nil (w : World) : IsClas w [] none 0 0 := ⟨[], ⟨rfl, Nat.le_refl _, Or.inl ⟨rfl, rfl⟩, fun i h => by simp at h⟩, rfl, fun i h => by simp at h⟩
theorem IsClas.cls {w : World} {l : List Cla} {a : Option Addr} {n c : Nat} (h : IsClas w l a n c) : IsCls w (l.map Cla.cl) a n c := by
  obtain ⟨vs, h1, h2, h3⟩ := h
  refine ⟨vs, h1, by simpa using h2, fun i hi hv => ?_⟩
  have hi' : i < l.length := by simpa using hi
  have := h3 i hi' hv
  simp only [List.getElem_map, Cla.cl]
  exact ⟨this.1, this.2.1, this.2.2.1⟩
/-- The first k clauses. -/
theorem IsClas.take {w : World} {l : List Cla} {a : Option Addr} {n c : Nat} (h : IsClas w l a n c) {k : Nat} (hk : k ≤ n) : IsClas w (l.take k) a k c := by
  have hn := h.len
  obtain ⟨vs, ⟨g1, g2, g3, g4⟩, h2, h3⟩ := h
  refine ⟨vs.take k, ⟨by simp; omega, by omega, g3, fun i hi => ?_⟩, by simp [h2], fun i hi hv => ?_⟩
  · have hi' : i < vs.length := by simp at hi; omega
    obtain ⟨b, off, e, hc⟩ := g4 i hi'
    refine ⟨b, off, e, fun j hj => ?_⟩
    simp only [List.getElem_take] at hj ⊢
    exact hc j hj
  · simp only [List.getElem_take]
    exact h3 i (by simp at hi; omega) (by simp at hv; omega)
/-- The k-th clause: its ten cells. -/
theorem IsClas.at {w : World} {l : List Cla} {a : Option Addr} {n c : Nat} (h : IsClas w l a n c) {k : Nat} (hk : k < l.length) : ∃ (b off : Nat) (v : ClV), a = some ⟨b, off, none⟩ ∧ IsCla w l[k] v ∧ RowAt w b (off + k * 10) v.cells := by
  obtain ⟨vs, h1, h2, h3⟩ := h
  have hk' : k < vs.length := by omega
  obtain ⟨b, off, e, hc⟩ := h1.2.2.2 k hk'
  exact ⟨b, off, vs[k], e, h3 k hk hk', hc⟩
theorem RowAt.ten {w : World} {b off : Nat} {v : ClV} (h : RowAt w b off v.cells) : w.cell? ⟨b, off, none⟩ = some (.int .i64 v.kind) ∧ w.cell? ⟨b, off + 1, none⟩ = some (.string v.name) ∧ w.cell? ⟨b, off + 2, none⟩ = some (.int .i64 v.x.op) ∧ w.cell? ⟨b, off + 3, none⟩ = some (.string v.x.name) ∧
    w.cell? ⟨b, off + 4, none⟩ = some (.slice v.x.aw v.x.nw v.x.cw) ∧ w.cell? ⟨b, off + 5, none⟩ = some (.int .i64 v.x.lo) ∧ w.cell? ⟨b, off + 6, none⟩ = some (.int .i64 v.x.hi) ∧ w.cell? ⟨b, off + 7, none⟩ = some (.slice v.x.aa v.x.na v.x.ca) ∧
    w.cell? ⟨b, off + 8, none⟩ = some (.slice v.au v.nu v.cu) ∧ w.cell? ⟨b, off + 9, none⟩ = some (.int .i64 v.amount) :=
  ⟨h 0 (by simp [ClV.len]), h 1 (by simp [ClV.len]), h 2 (by simp [ClV.len]), h 3 (by simp [ClV.len]), h 4 (by simp [ClV.len]), h 5 (by simp [ClV.len]), h 6 (by simp [ClV.len]), h 7 (by simp [ClV.len]), h 8 (by simp [ClV.len]), h 9 (by simp [ClV.len])⟩
theorem RowAt.eight {w : World} {b off : Nat} {v : WbV} (h : RowAt w b off v.cells) : w.cell? ⟨b, off, none⟩ = some (.string v.name) ∧ w.cell? ⟨b, off + 1, none⟩ = some (.int .i64 v.x.op) ∧ w.cell? ⟨b, off + 2, none⟩ = some (.string v.x.name) ∧
    w.cell? ⟨b, off + 3, none⟩ = some (.slice v.x.aw v.x.nw v.x.cw) ∧ w.cell? ⟨b, off + 4, none⟩ = some (.int .i64 v.x.lo) ∧ w.cell? ⟨b, off + 5, none⟩ = some (.int .i64 v.x.hi) ∧ w.cell? ⟨b, off + 6, none⟩ = some (.slice v.x.aa v.x.na v.x.ca) ∧ w.cell? ⟨b, off + 7, none⟩ = some (.slice v.au v.nu v.cu) :=
  ⟨h 0 (by simp [WbV.len]), h 1 (by simp [WbV.len]), h 2 (by simp [WbV.len]), h 3 (by simp [WbV.len]), h 4 (by simp [WbV.len]), h 5 (by simp [WbV.len]), h 6 (by simp [WbV.len]), h 7 (by simp [WbV.len])⟩
end Go.Proofs.YtfjlglefodndjaaDoor

namespace Go.Proofs.YtfjlglefodndjaaDoor
open Go.RowKit

theorem spanF_every (p : Int → Bool) (s : ByteArray) : ∀ (m k : Nat), s.size - k = m → k ≤ s.size → (spanF p s (s.size - k) k = s.size ↔ ∀ j (h : j < s.size), k ≤ j → p (s[j].toNat : Int) = true) := by
  intro m
  induction m with
  | zero =>
    intro k hm hk
    rw [spanF_end (by omega)]
    exact ⟨fun _ j h hj => by omega, fun _ => by omega⟩
  | succ m ih =>
    intro k hm hk
    have hlt : k < s.size := by omega
    cases hp : p (s[k].toNat : Int)
    · rw [spanF_stop hlt hp]
      exact ⟨fun h => by omega, fun h => by rw [h k hlt (Nat.le_refl _)] at hp; cases hp⟩
    · rw [spanF_step hlt hp, ih (k + 1) (by omega) (by omega)]
      refine ⟨fun h j hj hkj => ?_, fun h j hj hkj => h j hj (by omega)⟩
      by_cases e : j = k
      · subst e; exact hp
      · exact h j hj (by omega)
theorem wordB_of {s : ByteArray} (h0 : s.size ≠ 0) (h1 : s.size ≤ 16) (h2 : letterB (byteAt s 0) = true) (h3 : byteAt s (s.size - 1) ≠ 45) (h : ∀ j (hj : j < s.size), inWordB (s[j].toNat : Int) = true) : wordB s = true := by
  have := (spanF_every inWordB s _ 0 rfl (by omega)).2 (fun j hj _ => h j hj)
  rw [Nat.sub_zero] at this
  simp [wordB, h0, h1, h2, h3, this]
theorem wordB_no {s : ByteArray} {j : Nat} (hj : j < s.size) (h : inWordB (s[j].toNat : Int) = false) : wordB s = false := by
  cases hb : wordB s
  · rfl
  simp only [wordB, Bool.and_eq_true, beq_iff_eq] at hb
  have := (spanF_every inWordB s _ 0 rfl (by omega)).1 (by rw [Nat.sub_zero]; exact hb.2) j hj (by omega)
  rw [h] at this; cases this

theorem nodup_of {l : List ByteArray} {n : Nat} (hn : n = l.length) (h : ∀ i j (hi : i < l.length) (hj : j < l.length), i < n → j < i → l[i] ≠ l[j]) : l.Nodup := by
  rw [List.Nodup, List.pairwise_iff_getElem]
  intro i j hi hj hij e
  exact h j i hj hi (by omega) hij e.symm

/-- A value is handed back; memory is as it was. -/
def GivesD (v : Value) (w : World) (e : Ending) (w' : World) : Prop := e = .returned v ∧ ∃ n, w' = w.drewN n
theorem drewN_drewN (w : World) (a b : Nat) : (w.drewN a).drewN b = w.drewN (a + b) := by simp [World.drewN, Nat.add_assoc]
theorem givesD_bool {a b : Bool} {w w' : World} (h : a = b) (hx : ∃ n, w' = w.drewN n) : GivesD (.bool b) w (.returned (.bool a)) w' := by subst h; exact ⟨rfl, hx⟩
end Go.Proofs.YtfjlglefodndjaaDoor
