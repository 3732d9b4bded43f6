/-
  Texts of the claim, joined: RExp, RBack, RBack2, RClause, MadeP, Grow3.
-/
import Derived.Test.YtfjlglefodndjaaDoorDo11
import Derived.Test.YtfjlglefodndjaaDoorDo10
import Derived.Test.YtfjlglefodndjaaDoorDo09
import Derived.Test.YtfjlglefodndjaaDoorDo07
namespace Go.Proofs.YtfjlglefodndjaaDoor
open Go.RowKit

theorem defAt_ltR {l : List Cla} {s : ByteArray} {d : Nat} (h : defAt l s = some d) : d < l.length := by
  unfold defAt at h
  rw [List.findIdx?_eq_some_iff_getElem] at h
  exact h.1
def dOf (l : List Cla) (f : Nat) : ByteArray → Option Nat := fun s => (defAt l s).map fun d => expF l f (l.getD d cla0).cond
theorem expF_succ (l : List Cla) (f : Nat) (e : Ex) : expF l (f + 1) e = expE (dOf l f) e := rfl
/-- What a loop over the arguments keeps. -/
def ExpL (D : ByteArray → Option Nat) (base na : Nat) (args : List Ex) (w1 : World) (t i : Value) (wr : World) : Prop := ∃ k : Nat, i = .int .i64 k ∧ k ≤ na ∧ t = .int .i64 ((base + expL D (args.take k) : Nat) : Int) ∧ base + expL D (args.take k) ≤ 4001 ∧ Ext w1 wr
theorem exp_end {D : ByteArray → Option Nat} {base k : Nat} {args : List Ex} (h : 2000 < base + expL D (args.take k) ∨ args.length ≤ k) : min (base + expL D (args.take k)) 2001 = min (base + expL D args) 2001 := by
  rcases h with h | h
  · have := expL_take_le D args k
    omega
  · rw [List.take_of_length_le h]
end Go.Proofs.YtfjlglefodndjaaDoor

namespace Go.Proofs.YtfjlglefodndjaaDoor
open Go.RowKit

/-- How many write-backs there are. -/
def wbN : List Wb → Nat
  | [] => 0
  | .mk _ _ u :: r => 1 + wbN u + wbN r
theorem wbN_at : (l : List Wb) → (k : Nat) → (hk : k < l.length) → wbN l[k].unl + 1 ≤ wbN l
  | [], k, hk => by simp at hk
  | .mk n c u :: r, 0, _ => by simp only [List.getElem_cons_zero, Wb.unl, wbN]; omega
  | .mk n c u :: r, k + 1, hk => by
    have := wbN_at r k (by simpa using hk)
    simp only [List.getElem_cons_succ, wbN]; omega
theorem wbN_len : (l : List Wb) → l.length ≤ wbN l
  | [] => by simp [wbN]
  | .mk n c u :: r => by have := wbN_len r; simp only [List.length_cons, wbN]; omega
def bkSum : List Wb → Nat
  | [] => 0
  | .mk _ _ u :: r => min (cntBacks u) 41 + bkSum r
theorem cnt_sum : (l : List Wb) → cntBacks l = l.length + bkSum l
  | [] => by simp [cntBacks, bkSum]
  | .mk n c u :: r => by rw [cntBacks, bkSum, cnt_sum r]; simp; omega
theorem bkSum_take_succ : (l : List Wb) → (k : Nat) → (hk : k < l.length) → bkSum (l.take (k + 1)) = bkSum (l.take k) + min (cntBacks l[k].unl) 41
  | [], k, hk => by simp at hk
  | .mk n c u :: r, 0, _ => by simp [bkSum, Wb.unl]
  | .mk n c u :: r, k + 1, hk => by
    have := bkSum_take_succ r k (by simpa using hk)
    simp [bkSum] at this ⊢
    omega
theorem bkSum_take_le : (l : List Wb) → (k : Nat) → bkSum (l.take k) ≤ bkSum l
  | [], k => by simp [bkSum]
  | .mk n c u :: r, 0 => by simp [bkSum]
  | .mk n c u :: r, k + 1 => by have := bkSum_take_le r k; simp [bkSum]; omega
/-- Bounds on what is read. -/
def wbOk : List Wb → Prop
  | [] => True
  | .mk n c u :: r => n.size ≤ 1000000000000000 ∧ c.fits ∧ c.few ∧ c.size ≤ 1000000000000000 ∧ wbOk u ∧ wbOk r
theorem wbOk_at : (l : List Wb) → wbOk l → (k : Nat) → (hk : k < l.length) → l[k].name.size ≤ 1000000000000000 ∧ l[k].cond.fits ∧ l[k].cond.few ∧ l[k].cond.size ≤ 1000000000000000 ∧ wbOk l[k].unl
  | [], _, k, hk => by simp at hk
  | .mk n c u :: r, h, 0, _ => by rw [wbOk] at h; exact ⟨h.1, h.2.1, h.2.2.1, h.2.2.2.1, h.2.2.2.2.1⟩
  | .mk n c u :: r, h, k + 1, hk => by rw [wbOk] at h; simpa using wbOk_at r h.2.2.2.2.2 k (by simpa using hk)
/-- Bounds on write-backs that came in: only lengths. -/
def wbFits : List Wb → Prop
  | [] => True
  | .mk n c u :: r => n.size ≤ 1000000000000000 ∧ c.fits ∧ c.few ∧ c.slim ∧ u.length ≤ 1000000000000000 ∧ wbFits u ∧ wbFits r
def Wb.fit (x : Wb) : Prop := x.name.size ≤ 1000000000000000 ∧ x.cond.fits ∧ x.cond.few ∧ x.cond.slim ∧ x.unl.length ≤ 1000000000000000 ∧ wbFits x.unl
theorem wbFits_of : (l : List Wb) → (∀ x ∈ l, x.fit) → wbFits l
  | [], _ => by unfold wbFits; trivial
  | .mk n c u :: r, h => by
    unfold wbFits
    obtain ⟨h1, h2, h3, h4, h5, h6⟩ := h _ List.mem_cons_self
    exact ⟨h1, h2, h3, h4, h5, h6, wbFits_of r fun x hx => h x (by simp [hx])⟩
theorem wbFits_at : (l : List Wb) → wbFits l → (k : Nat) → (hk : k < l.length) → l[k].fit
  | [], _, k, hk => by simp at hk
  | .mk n c u :: r, h, 0, _ => by rw [wbFits] at h; exact ⟨h.1, h.2.1, h.2.2.1, h.2.2.2.1, h.2.2.2.2.1, h.2.2.2.2.2.1⟩
  | .mk n c u :: r, h, k + 1, hk => by rw [wbFits] at h; simpa using wbFits_at r h.2.2.2.2.2.2 k (by simpa using hk)
theorem wbFits_of_ok : (l : List Wb) → wbOk l → wbN l ≤ 1000000000000000 → wbFits l
  | [], _, _ => by unfold wbFits; trivial
  | .mk n c u :: r, h, hn => by
    rw [wbOk] at h
    rw [wbN] at hn
    have hu := wbN_len u
    unfold wbFits
    exact ⟨h.1, h.2.1, h.2.2.1, slim_of_size c h.2.2.2.1, by omega, wbFits_of_ok u h.2.2.2.2.1 (by omega), wbFits_of_ok r h.2.2.2.2.2 (by omega)⟩
end Go.Proofs.YtfjlglefodndjaaDoor

namespace Go.Proofs.YtfjlglefodndjaaDoor
open Go.RowKit

def itemB (d : Nat) (x : Wb) : Bool := nameB x.name && refExprB x.cond && backsB (d - 1) x.unl
theorem backsB_eq (d : Nat) : (l : List Wb) → backsB d l = ((decide (l.length = 0) || decide (d ≠ 0)) && l.all (itemB d))
  | [] => by simp [backsB]
  | .mk n c u :: r => by
    rw [backsB, backsB_eq d r]
    simp only [List.length_cons, List.all_cons, itemB, Wb.name, Wb.cond, Wb.unl]
    by_cases hd : d = 0
    · simp [hd]
    · simp [hd, Bool.and_assoc]
theorem givesE_b {a b : Bool} {w w' : World} (h : a = b) (hx : Ext w w') : GivesE (.bool b) w (.returned (.bool a)) w' := by subst h; exact ⟨rfl, hx⟩
end Go.Proofs.YtfjlglefodndjaaDoor

namespace Go.Proofs.YtfjlglefodndjaaDoor
open Go.RowKit

theorem blk10r {w : World} {b : Nat} {v0 v1 v2 v3 v4 v5 v6 v7 v8 v9 : Value} {t : TypeId} (h : w.heap[b]? = some (.cells #[v0, v1, v2, v3, v4, v5, v6, v7, v8, v9] t (0, 0))) :
    w.cell? ⟨b, 0, none⟩ = some v0 ∧ w.cell? ⟨b, 1, none⟩ = some v1 ∧ w.cell? ⟨b, 2, none⟩ = some v2 ∧ w.cell? ⟨b, 3, none⟩ = some v3 ∧ w.cell? ⟨b, 4, none⟩ = some v4 ∧ w.cell? ⟨b, 5, none⟩ = some v5 ∧ w.cell? ⟨b, 6, none⟩ = some v6 ∧ w.cell? ⟨b, 7, none⟩ = some v7 ∧ w.cell? ⟨b, 8, none⟩ = some v8 ∧ w.cell? ⟨b, 9, none⟩ = some v9 ∧ (∀ j, w.frozen? ⟨b, j, none⟩ = false) :=
  ⟨blk_cell h 0, blk_cell h 1, blk_cell h 2, blk_cell h 3, blk_cell h 4, blk_cell h 5, blk_cell h 6, blk_cell h 7, blk_cell h 8, blk_cell h 9, fun j => blk_free h j⟩
/-- Bounds on a clause. -/
def Cla.ok (c : Cla) : Prop := c.name.size ≤ 1000000000000000 ∧ c.cond.fits ∧ c.cond.few ∧ c.cond.size ≤ 1000000000000000 ∧ wbOk c.unl ∧ wbN c.unl ≤ 1000000000000000
/-- Bounds on a clause that came in: only lengths. -/
def Cla.fit (c : Cla) : Prop := c.name.size ≤ 1000000000000000 ∧ c.cond.fits ∧ c.cond.few ∧ c.cond.slim ∧ c.unl.length ≤ 1000000000000000 ∧ wbFits c.unl
theorem Cla.ok.fit {c : Cla} (h : c.ok) : c.fit := ⟨h.1, h.2.1, h.2.2.1, slim_of_size _ h.2.2.2.1, Nat.le_trans (wbN_len _) h.2.2.2.2.2, wbFits_of_ok _ h.2.2.2.2.1 h.2.2.2.2.2⟩
def amountB (m amount : Int) : Bool := (decide (m = 0) && (amount == 0)) || (decide (0 < m) && decide (1 ≤ amount) && decide (amount ≤ m))
end Go.Proofs.YtfjlglefodndjaaDoor

namespace Go.Proofs.YtfjlglefodndjaaDoor

/-! Plain bounds of the expressions that are made, whatever the names are. -/
def bndS : Nat → Nat | 0 => 0 | 1 => 1 | d + 2 => 3 * bndS (d + 1) + 1
theorem schemas_ok3 : (schemas.all fun l => l.all fun a => decide (a.name.size ≤ 1000) && (decide (a.words.length ≤ 1000) && a.words.all fun x => decide (x.size ≤ 1000))) = true := by decide +kernel
theorem fitsAll_of : (l : List Ex) → (∀ x ∈ l, x.fits) → fitsAll l
  | [], _ => by unfold fitsAll; trivial
  | e :: r, h => by unfold fitsAll; exact ⟨h e (by simp), fitsAll_of r fun x hx => h x (by simp [hx])⟩
theorem fewAll_of : (l : List Ex) → (∀ x ∈ l, x.few) → fewAll l
  | [], _ => by unfold fewAll; trivial
  | e :: r, h => by unfold fewAll; exact ⟨h e (by simp), fewAll_of r fun x hx => h x (by simp [hx])⟩
theorem bareL_of : (l : List Ex) → (∀ x ∈ l, bareE x = true) → bareL l = true
  | [], _ => by unfold bareL; rfl
  | e :: r, h => by unfold bareL; rw [h e (by simp), bareL_of r fun x hx => h x (by simp [hx])]; rfl
theorem sizes_of {k : Nat} : (l : List Ex) → (∀ x ∈ l, x.size ≤ k) → sizes l ≤ l.length * k
  | [], _ => by simp [sizes]
  | e :: r, h => by
    have h1 := h e (by simp)
    have h2 := sizes_of r fun x hx => h x (by simp [hx])
    simp only [sizes, List.length_cons, Nat.succ_mul]
    omega
structure MadeOk (d : Nat) (e : Ex) : Prop where
  fits : e.fits
  few : e.few
  size : e.size ≤ bndS d
  bare : bareE e = true
theorem bndS_pos (d : Nat) : 1 ≤ bndS (d + 1) := by cases d with | zero => exact Nat.le_refl _ | succ d => simp only [bndS]; omega
theorem atom_okay {attrs : List Attr} (hs : attrs ∈ schemas) {names : List ByteArray} (hn : ∀ x ∈ names, x.size ≤ 1000) {e : Ex} (h : AtomOf attrs names e) (d : Nat) : MadeOk (d + 1) e := by
  have hat : ∀ a ∈ attrs, _ := fun a ha => List.all_eq_true.1 (List.all_eq_true.1 schemas_ok3 attrs hs) a ha
  obtain ⟨op, name, words, lo, hi, args⟩ := e
  obtain ⟨ha, h⟩ := h
  simp only [Ex.args] at ha
  subst ha
  simp only [Ex.op, Ex.name, Ex.words, Ex.lo, Ex.hi] at h
  have key : name.size ≤ 1000 ∧ words.length ≤ 1000 ∧ ∀ x ∈ words, x.size ≤ 1000 := by
    rcases h with ⟨h1, h2, h3, h4, h5⟩ | ⟨h1, h2, h3, h4, h5⟩ | ⟨h1, h2, h3, h4, h5⟩ | ⟨h1, ⟨a, haa, hk, hnm, hne, hnd, hin⟩, h4, h5⟩ | ⟨h1, ⟨a, haa, hk, hnm, hl1, hl2, hl3⟩, h3⟩
    · subst h2 h3; exact ⟨by decide, by simp, by simp⟩
    · subst h2 h3; exact ⟨by decide, by simp, by simp⟩
    · subst h3
      refine ⟨?_, by simp, by simp⟩
      rcases h2 with h2 | ⟨a, haa, _, h2⟩
      · exact hn _ h2
      · have := hat a haa
        simp only [Bool.and_eq_true, decide_eq_true_eq] at this
        rw [h2]; exact this.1
    · have hq := hat a haa
      simp only [Bool.and_eq_true, decide_eq_true_eq, List.all_eq_true] at hq
      exact ⟨by rw [hnm]; exact hq.1, Nat.le_trans (List.Nodup.length_le_of_subset hnd (fun x hx => hin x hx)) hq.2.1, fun x hx => hq.2.2 x (hin x hx)⟩
    · have hq := hat a haa
      simp only [Bool.and_eq_true, decide_eq_true_eq] at hq
      subst h3
      exact ⟨by rw [hnm]; exact hq.1, by simp, by simp⟩
  obtain ⟨k1, k2, k3⟩ := key
  have hb := bndS_pos d
  refine ⟨?_, ?_, ?_, ?_⟩
  · unfold Ex.fits; exact ⟨by omega, fun x hx => by have := k3 x hx; omega, by unfold fitsAll; trivial⟩
  · unfold Ex.few; exact ⟨by omega, by unfold fewAll; trivial⟩
  · simp [Ex.size, sizes]; omega
  · unfold bareE; simp [bareL]
theorem made_okay {attrs : List Attr} (hs : attrs ∈ schemas) {names : List ByteArray} (hn : ∀ x ∈ names, x.size ≤ 1000) : (d : Nat) → (e : Ex) → MadeE attrs names d e → MadeOk d e
  | 0, e, h => h.elim
  | d + 1, e, h => by
    rcases h with h | ⟨hl, h1, h2, h3, h4, h⟩
    · exact atom_okay hs hn h d
    · have ih := fun x hx => made_okay hs hn d x (h x hx)
      have hne : e.args ≠ [] := by intro e0; rw [e0] at hl; simp at hl
      obtain ⟨d, rfl⟩ : ∃ k, d = k + 1 := by
        cases d with
        | succ k => exact ⟨k, rfl⟩
        | zero =>
          obtain ⟨x, hx⟩ := List.exists_mem_of_ne_nil _ hne
          exact (h x hx).elim
      have h3l : e.args.length ≤ 3 := by omega
      have hop : e.op ≠ 3 := by omega
      clear hl
      obtain ⟨op, name, words, lo, hi, args⟩ := e
      simp only [Ex.args, Ex.name, Ex.words, Ex.op] at *
      subst h1 h2
      refine ⟨?_, ?_, ?_, ?_⟩
      · unfold Ex.fits; exact ⟨by show (0 : Nat) ≤ _; omega, by simp, fitsAll_of _ fun x hx => (ih x hx).fits⟩
      · unfold Ex.few; exact ⟨by simp, fewAll_of _ fun x hx => (ih x hx).few⟩
      · have := sizes_of args fun x hx => (ih x hx).size
        have h5 : args.length * bndS (d + 1) ≤ 3 * bndS (d + 1) := Nat.mul_le_mul_right _ h3l
        simp only [Ex.size, bndS]; omega
      · unfold bareE; rw [bareL_of _ fun x hx => (ih x hx).bare]; simp [hop]
end Go.Proofs.YtfjlglefodndjaaDoor

namespace Go.Proofs.YtfjlglefodndjaaDoor

/-! Plain predicates for wp_region_grow, as wip/gen/growpf.py uses them. -/
def GrG (wr W : World) : Prop := Ext wr W
def GrE (_ : Nat) (W W' : World) : Prop := Ext W W'
def GrR (f : Nat → Value) (j : Nat) (u : Value) (_ : World) : Prop := u = f j
def GrP (R : Nat → Value → World → Prop) (j : Nat) (u : Value) (W : World) : Prop := R j u W
theorem wpOp_lastG {P : Program} {ops : Array Oper} {Q : Exit → Act → World → Prop} {a : Act} {w : World} {i : Nat} {o : Oper} (ho : ops[i]? = some o) (h : wpList P ops Q [o] a w) : wpOp P ops Q i (fun a w => Q .normal a w) a w := by
  unfold wpOp
  rw [ho]
  exact h
end Go.Proofs.YtfjlglefodndjaaDoor
