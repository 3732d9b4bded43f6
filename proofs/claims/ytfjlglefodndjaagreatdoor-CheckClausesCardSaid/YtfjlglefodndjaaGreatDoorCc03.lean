/-
  Texts of the claim, joined: Lex4, Scan, Parse1, Parse2, Parse3, Parse4.
-/
import Derived.Test.YtfjlglefodndjaaGreatDoorCc02
import Derived.WalkMore
import Derived.Deep.LoopGhost
namespace Go.Proofs.YtfjlglefodndjaaGreatDoor
open Go.RowKit

structure Tok where
  kind : Int
  text : ByteArray
  num : Int
  pos : Int

def tokV (t : Tok) : Value := .agg #[.int .i64 t.kind, .string t.text, .int .i64 t.num, .int .i64 t.pos]
def tok0 : Tok := ⟨0, ⟨#[]⟩, 0, 0⟩

theorem spanF_bd (p : Int → Bool) (s : ByteArray) : ∀ (n i : Nat), i ≤ s.size → i ≤ spanF p s n i ∧ spanF p s n i ≤ s.size
  | 0, i, h => by simp [spanF]; omega
  | n + 1, i, h => by
    rw [spanF]
    split
    · split
      · have := spanF_bd p s n (i + 1) (by omega); omega
      · omega
    · omega
theorem spanF_all (p : Int → Bool) (s : ByteArray) : ∀ (n i : Nat), ∀ j (hj : j < s.size), i ≤ j → j < spanF p s n i → p (s[j].toNat : Int) = true
  | 0, i, j, hj, h1, h2 => by simp [spanF] at h2; omega
  | n + 1, i, j, hj, h1, h2 => by
    rw [spanF] at h2
    split at h2
    · split at h2
      · rename_i h3 h4
        by_cases he : j = i
        · subst he; exact h4
        · exact spanF_all p s n (i + 1) j hj (by omega) h2
      · omega
    · omega

/-- The token at an offset, the offset after it, and the error; no hours. -/
def tokenF (s : ByteArray) (i : Nat) : Tok × Int × Int :=
  if letterB (byteAt s i) then
    (if wordB (s.extract i (spanF inWordB s (s.size - i) i)) then (⟨1, s.extract i (spanF inWordB s (s.size - i) i), 0, i⟩, (spanF inWordB s (s.size - i) i : Nat), 0) else (tok0, 0, 6))
  else if digitB (byteAt s i) || byteAt s i == 45 then
    (if (numberF (s.extract i (spanF digitB s (s.size - (i + 1)) (i + 1)))).2 = 0 then (⟨2, ⟨#[]⟩, (numberF (s.extract i (spanF digitB s (s.size - (i + 1)) (i + 1)))).1, i⟩, (spanF digitB s (s.size - (i + 1)) (i + 1) : Nat), 0)
     else (tok0, 0, (numberF (s.extract i (spanF digitB s (s.size - (i + 1)) (i + 1)))).2))
  else if markB (byteAt s i) then (⟨4, s.extract i (i + 1), 0, i⟩, (i + 1 : Nat), 0)
  else (tok0, 0, 5)

theorem numText_extract {s : ByteArray} {i : Nat} (hi : i < s.size) (hc : (digitB (byteAt s i) || byteAt s i == 45) = true) : NumText (s.extract i (spanF digitB s (s.size - (i + 1)) (i + 1))) := by
  have hb := spanF_bd digitB s (s.size - (i + 1)) (i + 1) (by omega)
  have ha := spanF_all digitB s (s.size - (i + 1)) (i + 1)
  generalize spanF digitB s (s.size - (i + 1)) (i + 1) = e at *
  have hsz : (s.extract i e).size = e - i := by simp; omega
  have h0 : byteAt (s.extract i e) 0 = byteAt s i := by
    rw [byteAt_lt hi, byteAt_lt (by omega), ByteArray.getElem_extract]
    rfl
  refine ⟨by omega, ?_⟩
  have hrest : ∀ j (hj : j < (s.extract i e).size), 1 ≤ j → 48 ≤ ((s.extract i e)[j].toNat : Int) ∧ ((s.extract i e)[j].toNat : Int) ≤ 57 := by
    intro j hj h1
    have := ha (i + j) (by omega) (by omega) (by omega)
    simp [digitB] at this
    rw [ByteArray.getElem_extract]
    exact this
  split
  · rename_i h1
    intro j hj
    have hs2 := size_tail (s.extract i e)
    rw [getElem_tail (s.extract i e) j hj]
    exact hrest (j + 1) (by omega) (by omega)
  · rename_i h1
    intro j hj
    by_cases hj0 : j = 0
    · subst hj0
      rw [h0] at h1
      simp [h1, digitB] at hc
      rw [byteAt_lt hi] at hc
      rw [ByteArray.getElem_extract]
      exact hc
    · exact hrest j hj (by omega)

/-- Three results, the first one a token. -/
def GivesT (r : Tok × Int × Int) (w : World) (e : Ending) (w' : World) : Prop := e = .returned (.tuple #[tokV r.1, .int .i64 r.2.1, .int .i64 r.2.2]) ∧ Ext w w'

theorem givesT {r : Tok × Int × Int} {t : Tok} {a b : Int} {w w' : World} (h : r = (t, a, b)) (hx : Ext w w') : GivesT r w (.returned (.tuple #[tokV t, .int .i64 a, .int .i64 b])) w' := by subst h; exact ⟨rfl, hx⟩

end Go.Proofs.YtfjlglefodndjaaGreatDoor

namespace Go.Proofs.YtfjlglefodndjaaGreatDoor
open Go.RowKit

def tokCells (t : Tok) : List Value := [.int .i64 t.kind, .string t.text, .int .i64 t.num, .int .i64 t.pos]
abbrev IsToks (w : World) (l : List Tok) (a : Option Addr) (n c : Nat) : Prop := IsRows w 4 tokCells l a n c

/-- The tokens of a text from i on, after those of acc: the tokens, the offset of an error, and the error. -/
def scanF (s : ByteArray) : Nat → Nat → List Tok → List Tok × Int × Int
  | 0, _, acc => (acc, 0, 0)
  | f + 1, i, acc =>
    if s.size ≤ i then (acc, 0, 0) else
    if byteAt s i == 32 || byteAt s i == 10 then scanF s f (i + 1) acc else
    if byteAt s i == 35 then scanF s f (spanF inLineB s (s.size - i) i) acc else
    if (tokenF s i).2.2 ≠ 0 then ([], i, (tokenF s i).2.2) else
    if acc.length = 4000 then ([], i, 4) else
    if (tokenF s i).1.kind = 2 ∧ (tokenF s i).2.1 < s.size ∧ (letterB (byteAt s (tokenF s i).2.1.toNat) || byteAt s (tokenF s i).2.1.toNat == 45) then ([], (tokenF s i).2.1, 5) else
    scanF s f (tokenF s i).2.1.toNat (acc ++ [(tokenF s i).1])

/-- What is done with a token. -/
def tokStep (s : ByteArray) (g k : Nat) (acc : List Tok) (T : Tok × Int × Int) : List Tok × Int × Int :=
  if T.2.2 ≠ 0 then ([], (k : Int), T.2.2) else
  if acc.length = 4000 then ([], (k : Int), 4) else
  if T.1.kind = 2 ∧ T.2.1 < s.size ∧ (letterB (byteAt s T.2.1.toNat) || byteAt s T.2.1.toNat == 45) then ([], T.2.1, 5) else
  scanF s g T.2.1.toNat (acc ++ [T.1])
theorem scanF_tok {s : ByteArray} {g k : Nat} {acc : List Tok} (hlt : k < s.size) (h1 : (byteAt s k == 32) = false) (h2 : (byteAt s k == 10) = false) (h3 : (byteAt s k == 35) = false) :
    scanF s (g + 1) k acc = tokStep s g k acc (tokenF s k) := by
  rw [scanF, if_neg (show ¬ s.size ≤ k by omega), if_neg (show ¬ (byteAt s k == 32 || byteAt s k == 10) = true by simp [h1, h2]), if_neg (show ¬ (byteAt s k == 35) = true by simp [h3])]
  rfl

theorem tokStep_stop {s : ByteArray} {g k n : Nat} {acc : List Tok} {T : Tok} (h4 : ¬ acc.length = 4000) (h1 : (T.kind == 2) = true) (h2 : n < s.size) (h3 : letterB (s[n].toNat : Int) = true ∨ ((s[n].toNat : Int) == 45) = true) :
    tokStep s g k acc (T, (n : Int), 0) = ([], (n : Int), 5) := by
  rw [tokStep, if_neg (by simp), if_neg h4, if_pos]
  refine ⟨by simpa using h1, by simpa using h2, ?_⟩
  simp only [Int.toNat_natCast]
  rw [byteAt_lt h2]
  rcases h3 with h3 | h3 <;> simp [h3]
theorem tokStep_go {s : ByteArray} {g k n : Nat} {acc : List Tok} {T : Tok} (h4 : ¬ acc.length = 4000) (h : (T.kind == 2) = false ∨ ¬ n < s.size ∨ ∃ h2 : n < s.size, letterB (s[n].toNat : Int) = false ∧ ((s[n].toNat : Int) == 45) = false) :
    tokStep s g k acc (T, (n : Int), 0) = scanF s g n (acc ++ [T]) := by
  rw [tokStep, if_neg (by simp), if_neg h4, if_neg]
  · simp only [Int.toNat_natCast]
  · rintro ⟨h1, h2, h3⟩
    rcases h with h | h | ⟨h5, h6, h7⟩
    · simp at h; exact h h1
    · exact h (by simpa using h2)
    · simp only [Int.toNat_natCast] at h3
      rw [byteAt_lt h5, h6, h7] at h3
      simp at h3

theorem tokenF_next {s : ByteArray} {i : Nat} (hi : i < s.size) (h : (tokenF s i).2.2 = 0) : ∃ n : Nat, (tokenF s i).2.1 = n ∧ i < n ∧ n ≤ s.size := by
  unfold tokenF at *
  have h1 := spanF_bd inWordB s (s.size - i) i (by omega)
  have h2 := spanF_bd digitB s (s.size - (i + 1)) (i + 1) (by omega)
  split
  · rename_i hl
    split
    · refine ⟨_, rfl, ?_, h1.2⟩
      have hw : inWordB (s[i].toNat : Int) = true := by rw [← byteAt_lt hi]; simp [inWordB, hl]
      have := spanF_step (p := inWordB) hi hw
      have h3 := spanF_bd inWordB s (s.size - (i + 1)) (i + 1) (by omega)
      omega
    · rename_i hw; rw [if_pos hl, if_neg hw] at h; simp at h
  · rename_i hl
    split
    · rename_i hd
      split
      · exact ⟨_, rfl, by omega, h2.2⟩
      · rename_i hn; rw [if_neg hl, if_pos hd, if_neg hn] at h; exact absurd h hn
    · rename_i hd
      split
      · exact ⟨i + 1, rfl, by omega, by omega⟩
      · rename_i hm; rw [if_neg hl, if_neg hd, if_neg hm] at h; simp at h

/-- What Scan hands back. -/
def ScanQ (R : List Tok × Int × Int) (w : World) (e : Ending) (w' : World) : Prop :=
  ∃ a n c, e = .returned (.tuple #[.slice a n c, .int .i64 R.2.1, .int .i64 R.2.2]) ∧ IsToks w' R.1 a n c ∧ Ext w w'
theorem isRows_nil {α : Type} (w : World) (size : Nat) (f : α → List Value) : IsRows w size f [] none 0 0 := ⟨rfl, by omega, Or.inl ⟨rfl, rfl⟩, fun i hi => by simp at hi⟩
theorem scanQ_err {R : List Tok × Int × Int} {a b : Int} {w w' : World} (h : R = ([], a, b)) (hx : Ext w w') : ScanQ R w (.returned (.tuple #[.slice none 0 0, .int .i64 a, .int .i64 b])) w' := by
  subst h; exact ⟨none, 0, 0, rfl, isRows_nil _ _ _, hx⟩

end Go.Proofs.YtfjlglefodndjaaGreatDoor

namespace Go.Proofs.YtfjlglefodndjaaGreatDoor
open Go.RowKit

/-- From w to w' only blocks of N have changed, and blocks have been added. -/
structure Chg (N : List Nat) (w w' : World) : Prop where
  os : w'.os = w.os
  tape : w'.tape = w.tape
  output : w'.output = w.output
  size : w.heap.size ≤ w'.heap.size
  block : ∀ k, k < w.heap.size → k ∉ N → w'.heap[k]? = w.heap[k]?

theorem Chg.refl (N : List Nat) (w : World) : Chg N w w := ⟨rfl, rfl, rfl, Nat.le_refl _, fun _ _ _ => rfl⟩
theorem Chg.trans {N N' : List Nat} {a b c : World} (h : Chg N a b) (k : Chg N' b c) (hN : ∀ x ∈ N', x ∈ N ∨ a.heap.size ≤ x) : Chg N a c :=
  ⟨k.os.trans h.os, k.tape.trans h.tape, k.output.trans h.output, Nat.le_trans h.size k.size, fun i hi hn =>
    (k.block i (Nat.lt_of_lt_of_le hi h.size) (fun h' => by rcases hN i h' with h' | h'; exact hn h'; omega)).trans (h.block i hi hn)⟩
theorem Ext.chg {w w' : World} (h : Ext w w') (N : List Nat) : Chg N w w' := ⟨h.os, h.tape, h.output, h.size, fun k hk _ => h.block k hk⟩
theorem Chg.ext {N : List Nat} {w0 w w' : World} (h : Chg N w w') (h0 : Ext w0 w) (hN : ∀ x ∈ N, w0.heap.size ≤ x) : Ext w0 w' :=
  ⟨h.os.trans h0.os, h.tape.trans h0.tape, h.output.trans h0.output, Nat.le_trans h0.size h.size, fun k hk =>
    (h.block k (Nat.lt_of_lt_of_le hk h0.size) (fun h' => by have := hN k h'; omega)).trans (h0.block k hk)⟩
theorem Chg.setCell {N : List Nat} {a w : World} (h : Chg N a w) {p : Addr} (hp : p.block ∈ N ∨ a.heap.size ≤ p.block) (v : Value) : Chg N a (w.setCell p v) :=
  ⟨h.os, h.tape, h.output, by simpa using h.size, fun k hk hn => (heap_setCell_other w p k v (fun e => by subst e; rcases hp with hp | hp; exact hn hp; omega)).trans (h.block k hk hn)⟩
theorem Chg.alloc {N : List Nat} {a w : World} (h : Chg N a w) (o : Obj) : Chg N a (w.alloc o) :=
  ⟨h.os, h.tape, h.output, by have := h.size; simp; omega, fun k hk hn => (Below.heap_alloc w o k (by have := h.size; omega)).trans (h.block k hk hn)⟩
theorem Chg.drew {N : List Nat} {a w : World} (h : Chg N a w) : Chg N a w.drew := ⟨h.os, h.tape, h.output, h.size, h.block⟩
theorem Ext.drewN {a w : World} (h : Ext a w) (n : Nat) : Ext a (w.drewN n) := ⟨h.os, h.tape, h.output, h.size, h.block⟩
theorem drewN_heap (w : World) (n : Nat) : (w.drewN n).heap = w.heap := rfl
theorem Chg.drewN {N : List Nat} {a w : World} (h : Chg N a w) (n : Nat) : Chg N a (w.drewN n) := ⟨h.os, h.tape, h.output, h.size, h.block⟩

def acceptB (toks : List Tok) (k : Nat) (kind : Int) (text : ByteArray) : Bool := match toks[k]? with | some t => (t.kind == kind) && decide (t.text = text) | none => false

end Go.Proofs.YtfjlglefodndjaaGreatDoor

namespace Go.Proofs.YtfjlglefodndjaaGreatDoor
open Go.RowKit

theorem quiet_gives {f : FuncId} {args : Array Value} {w : World} {n : Nat} {v : Value} (h : Calls Tryz.prog f args (w.drewN n) (Gives v (w.drewN n))) : Calls Tryz.prog f args (w.drewN n) fun e w'' => e = .returned v ∧ ∃ m, w'' = w.drewN m :=
  h.mono fun _ _ ⟨he, hm⟩ => ⟨he, n, hm.symm⟩

def nameTokB (toks : List Tok) (k : Nat) : Bool := match toks[k]? with | some t => (t.kind == 1) && nameB t.text | none => false

/-- The number, the error and the place after a bound. -/
def boundF (toks : List Tok) (k : Nat) (least : Int) : Int × Int × Nat := match toks[k]? with
  | some t => if t.kind = 2 then (if numberB t.num = true ∧ least ≤ t.num then (t.num, 0, k + 1) else (0, 1, k)) else (0, 5, k)
  | none => (0, 5, k)

/-- The two numbers, the error and the place after an interval. -/
def intervalF (toks : List Tok) (k : Nat) : Int × Int × Int × Nat :=
  let a := boundF toks k (-1000000000)
  if a.2.1 ≠ 0 then (0, 0, a.2.1, a.2.2) else
  if acceptB toks a.2.2 1 ⟨#[116, 111]⟩ = false then (0, 0, 5, a.2.2) else
  let b := boundF toks (a.2.2 + 1) a.1
  (a.1, b.1, b.2.1, b.2.2)

theorem Chg.then {N : List Nat} {a b c : World} (h : Chg N a b) (k : Chg N b c) : Chg N a c := h.trans k fun _ hx => Or.inl hx

end Go.Proofs.YtfjlglefodndjaaGreatDoor

namespace Go.Proofs.YtfjlglefodndjaaGreatDoor
open Go.RowKit

theorem elemStr : ElemT 26 9 (.string ⟨#[]⟩) 1 16 := ⟨by kernel_rfl, by kernel_rfl, rfl, by decide⟩

theorem owns_chg {N : List Nat} {w w' : World} {base : Nat} {e : TypeId} {size : Nat} {v : Value} {n : Nat} {xs : List Value} (h : w.ownsRow base e size v n xs) (hc : Chg N w w') (hN : ∀ k, v.ownBlock = some k → k ∉ N) : w'.ownsRow base e size v n xs := by
  refine ⟨h.1, ?_⟩
  rcases h.2 with hn | ⟨g, cap, cur, rfl, hb, hgg, rest⟩
  · exact .inl hn
  · refine .inr ⟨g, cap, cur, rfl, hb, ?_, rest⟩
    rw [hc.block g (Array.getElem?_eq_some_iff.1 hgg).1 (hN g rfl)]
    exact hgg
/-- What an append may have changed. -/
def rowOf (v : Value) : List Nat := match v.ownBlock with | some k => [k] | none => []
theorem mem_rowOf {v : Value} {k : Nat} : k ∈ rowOf v ↔ v.ownBlock = some k := by
  unfold rowOf
  cases v.ownBlock with
  | none => simp
  | some x => simp [eq_comm]
theorem grown_chg {w w' : World} {v : Value} (h : w.grownBy w' v.ownBlock) : Chg (rowOf v) w w' :=
  ⟨h.os, h.tape, h.output, h.size, fun k hk hn => h.block k hk (fun e => hn (mem_rowOf.2 e.symm))⟩

def strCells (s : ByteArray) : List Value := [.string s]
theorem strs_of_owns {w : World} {base : Nat} {l : List ByteArray} {v : Value} (h : w.ownsRow base 9 1 v l.length (l.flatMap strCells)) (M : List Nat) (hM : ∀ x ∈ M, x < base) : ∃ a c, v = .slice a l.length c ∧ IsStrs (mask w M) l a l.length c ∧ IsStrs w l a l.length c := by
  have hlt := h.lt
  obtain ⟨a, c, rfl, hr⟩ := IsRows.of_owns (f := strCells) (fun _ => rfl) h
  have hs : IsStrs w l a l.length c := ⟨hr.1, hr.2.1, hr.2.2.1, fun i hi => by
    obtain ⟨b, off, e1, e2⟩ := hr.2.2.2 i hi
    have := e2 0 (by simp [strCells])
    simp only [strCells, List.getElem_cons_zero, Nat.mul_one, Nat.add_zero] at this
    exact ⟨b, off, e1, this⟩⟩
  refine ⟨a, c, rfl, ⟨hs.1, hs.2.1, hs.2.2.1, fun i hi => ?_⟩, hs⟩
  obtain ⟨b, off, e1, e2⟩ := hs.2.2.2 i hi
  refine ⟨b, off, e1, ?_⟩
  rw [mask_cell, if_neg, e2]
  intro hm
  have h1 := hM _ hm
  have h2 := (hlt b (by rw [e1]; rfl)).1
  simp only at h1
  omega

def textAt (toks : List Tok) (k : Nat) : ByteArray := match toks[k]? with | some t => t.text | none => ⟨#[]⟩
/-- The words of a list from the k-th token on, after acc: the words, the error, the place. -/
def listLoop (toks : List Tok) : Nat → Nat → List ByteArray → List ByteArray × Int × Nat
  | 0, k, _ => ([], 5, k)
  | f + 1, k, acc =>
    if nameTokB toks k = false then ([], 5, k) else
    if acc.length = 12 then ([], 4, k) else
    if textAt toks k ∈ acc then ([], 8, k) else
    if acceptB toks (k + 1) 4 ⟨#[44]⟩ = true then listLoop toks f (k + 2) (acc ++ [textAt toks k]) else
    if acceptB toks (k + 1) 4 ⟨#[41]⟩ = true then (acc ++ [textAt toks k], 0, k + 2) else ([], 5, k + 1)
def listF (toks : List Tok) (k : Nat) : List ByteArray × Int × Nat := if acceptB toks k 4 ⟨#[40]⟩ = true then listLoop toks 14 (k + 1) [] else ([], 5, k)

end Go.Proofs.YtfjlglefodndjaaGreatDoor

namespace Go.Proofs.YtfjlglefodndjaaGreatDoor
open Go.RowKit

def wTrue : ByteArray := ⟨#[116, 114, 117, 101]⟩
def wFalse : ByteArray := ⟨#[102, 97, 108, 115, 101]⟩
def wIn : ByteArray := ⟨#[105, 110]⟩
def wFrom : ByteArray := ⟨#[102, 114, 111, 109]⟩
def wNot : ByteArray := ⟨#[110, 111, 116]⟩
def wAnd : ByteArray := ⟨#[97, 110, 100]⟩
def wOr : ByteArray := ⟨#[111, 114]⟩

/-- The words of the operators, where the program reads them. -/
theorem opsAt {w0 w : World} (h : HasOps w0) (hx : Ext w0 w) : w.cell? ⟨0, 5, none⟩ = some (.string wTrue) ∧ w.cell? ⟨0, 10, none⟩ = some (.string wFalse) ∧ w.cell? ⟨0, 20, none⟩ = some (.string wIn) ∧
    w.cell? ⟨0, 25, none⟩ = some (.string wFrom) ∧ w.cell? ⟨0, 30, none⟩ = some (.string wNot) ∧ w.cell? ⟨0, 35, none⟩ = some (.string wAnd) ∧ w.cell? ⟨0, 40, none⟩ = some (.string wOr) ∧ 0 < w.heap.size :=
  ⟨hx.cell (h 1 (by omega)).1, hx.cell (h 2 (by omega)).1, hx.cell (h 4 (by omega)).1, hx.cell (h 5 (by omega)).1, hx.cell (h 6 (by omega)).1, hx.cell (h 7 (by omega)).1, hx.cell (h 8 (by omega)).1, block_lt (hx.cell (h 1 (by omega)).1)⟩

/-- The operand at the k-th token, the error, and the place after it. -/
def operandF (toks : List Tok) (k : Nat) : Part × Int × Nat :=
  if acceptB toks k 1 wTrue = true then (⟨.mk 1 ⟨#[]⟩ [] 0 0 [], 1, 1⟩, 0, k + 1) else
  if acceptB toks k 1 wFalse = true then (⟨.mk 2 ⟨#[]⟩ [] 0 0 [], 1, 1⟩, 0, k + 1) else
  if nameTokB toks k = false then (⟨ex0, 0, 0⟩, 5, k) else
  if acceptB toks (k + 1) 1 wIn = true then (⟨.mk 4 (textAt toks k) (listF toks (k + 2)).1 0 0 [], 1, 1⟩, (listF toks (k + 2)).2.1, (listF toks (k + 2)).2.2) else
  if acceptB toks (k + 1) 1 wFrom = true then (⟨.mk 5 (textAt toks k) [] (intervalF toks (k + 2)).1 (intervalF toks (k + 2)).2.1 [], 1, 1⟩, (intervalF toks (k + 2)).2.2.1, (intervalF toks (k + 2)).2.2.2) else
  (⟨.mk 3 (textAt toks k) [] 0 0 [], 1, 1⟩, 0, k + 1)

theorem isEx_plain (w : World) (op lo hi : Int) (name : ByteArray) : IsEx w (.mk op name [] lo hi []) (exV op name none 0 0 lo hi none 0 0) := by
  refine IsEx.mk ⟨rfl, by omega, Or.inl ⟨rfl, rfl⟩, fun i hi => by simp at hi⟩ rfl (by omega) (Or.inl ⟨rfl, rfl⟩) ?_
  unfold ExsD
  trivial
theorem isEx_words {w : World} {words : List ByteArray} {a : Option Addr} {n c : Nat} (h : IsStrs w words a n c) (op lo hi : Int) (name : ByteArray) : IsEx w (.mk op name words lo hi []) (exV op name a n c lo hi none 0 0) := by
  refine IsEx.mk h rfl (by omega) (Or.inl ⟨rfl, rfl⟩) ?_
  unfold ExsD
  trivial

/-- The two blocks of operand: its result and its expression. -/
theorem blk6 {w : World} {b : Nat} {v0 v1 v2 v3 v4 v5 : Value} {t : TypeId} (h : w.heap[b]? = some (.cells #[v0, v1, v2, v3, v4, v5] t (0, 0))) :
    w.cell? ⟨b, 0, none⟩ = some v0 ∧ w.cell? ⟨b, 1, none⟩ = some v1 ∧ w.cell? ⟨b, 2, none⟩ = some v2 ∧ w.cell? ⟨b, 3, none⟩ = some v3 ∧ w.cell? ⟨b, 4, none⟩ = some v4 ∧ w.cell? ⟨b, 5, none⟩ = some v5 ∧ (∀ j, w.frozen? ⟨b, j, none⟩ = false) :=
  ⟨blk_cell h 0, blk_cell h 1, blk_cell h 2, blk_cell h 3, blk_cell h 4, blk_cell h 5, fun j => blk_free h j⟩
theorem Chg.blk {N : List Nat} {w w' : World} (h : Chg N w w') {b : Nat} {o : Obj} (hb : w.heap[b]? = some o) (hn : b ∉ N) : w'.heap[b]? = some o := (h.block b (blk_lt hb) hn).trans hb

theorem mask_sub2 {x y : Nat} {w w' : World} (M : List Nat) (h : Chg [x, y] w w') : Sub (mask w (x :: y :: M)) (mask w' M) :=
  mask_sub_mask fun k hk hn => by
    simp only [List.mem_cons, not_or] at hn
    exact ⟨hn.2.2, h.block k hk (by simp; exact ⟨hn.1, hn.2.1⟩)⟩

end Go.Proofs.YtfjlglefodndjaaGreatDoor
