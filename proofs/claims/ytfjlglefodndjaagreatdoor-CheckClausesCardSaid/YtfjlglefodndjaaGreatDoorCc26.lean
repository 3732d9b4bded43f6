/-
  Texts of the claim, joined: Plain2, CNodes, CCla.
-/
import Derived.Test.YtfjlglefodndjaaGreatDoorCc25
import Derived.Test.YtfjlglefodndjaaGreatDoorCc09
import Derived.Test.YtfjlglefodndjaaGreatDoorCc24
import Derived.Test.YtfjlglefodndjaaGreatDoorCc12
import Derived.Test.YtfjlglefodndjaaGreatDoorCc22
import Derived.Test.YtfjlglefodndjaaGreatDoorCc13
import Derived.Test.YtfjlglefodndjaaGreatDoorCc23
import Derived.Test.YtfjlglefodndjaaGreatDoorCc16
namespace Go.Proofs.YtfjlglefodndjaaGreatDoor

theorem goodT_name {s : ByteArray} (h : wordB s = true) : goodT (nameT s) := ⟨rfl, Or.inl ⟨rfl, h, rfl⟩⟩
theorem goodT_mark {c : UInt8} (h : markB (c.toNat : Int) = true) : goodT (markT c) := ⟨rfl, Or.inr (Or.inr ⟨rfl, rfl, c, rfl, h⟩)⟩
theorem goodT_num {n : Int} (h : numberB n = true) : goodT (numT n) := by
  simp [numberB] at h
  exact ⟨rfl, Or.inr (Or.inl ⟨rfl, rfl, by simp only [numT]; omega, by simp only [numT]; omega⟩)⟩
theorem nameB_wordB {s : ByteArray} (h : nameB s = true) : wordB s = true := by simp only [nameB, Bool.and_eq_true] at h; exact h.1
theorem words_ok : wordB wTrue = true ∧ wordB wFalse = true ∧ wordB wIn = true ∧ wordB wFrom = true ∧ wordB wTo = true ∧ wordB wNot = true ∧ wordB wAnd = true ∧ wordB wOr = true := by decide +kernel
theorem good_listed : (l : List ByteArray) → (∀ x ∈ l, nameB x = true) → ∀ t ∈ listedT l, goodT t
  | [], _, t, h => by simp [listedT] at h
  | [a], hn, t, h => by simp [listedT] at h; subst h; exact goodT_name (nameB_wordB (hn a (by simp)))
  | a :: b :: r, hn, t, h => by
    rw [listedT] at h
    rcases List.mem_cons.1 h with rfl | h
    · exact goodT_name (nameB_wordB (hn a (by simp)))
    · rcases List.mem_cons.1 h with rfl | h
      · exact goodT_mark (by decide)
      · exact good_listed (b :: r) (fun x hx => hn x (List.mem_cons_of_mem _ hx)) t h
    all_goals simp
theorem good_argT {op : Int} {a : Ex} (h : ∀ t ∈ tokE a, goodT t) : ∀ t ∈ argT op a, goodT t := by
  intro t ht
  unfold argT at ht
  split at ht
  · simp only [List.mem_append, List.mem_singleton] at ht
    rcases ht with (rfl | ht) | rfl
    · exact goodT_mark (by decide)
    · exact h t ht
    · exact goodT_mark (by decide)
  · exact h t ht
theorem good_tokMore {op : Int} : (l : List Ex) → (∀ a ∈ l, ∀ t ∈ tokE a, goodT t) → ∀ t ∈ tokMore op l, goodT t
  | [], _, t, h => by simp [tokMore] at h
  | a :: r, ha, t, h => by
    rw [tokMore_cons] at h
    rcases List.mem_cons.1 h with rfl | h
    · split
      · exact goodT_name words_ok.2.2.2.2.2.2.1
      · exact goodT_name words_ok.2.2.2.2.2.2.2
    · rcases List.mem_append.1 h with h | h
      · exact good_argT (ha a (by simp)) t h
      · exact good_tokMore r (fun x hx => ha x (List.mem_cons_of_mem _ hx)) t h
theorem good_tokArgs {op : Int} (l : List Ex) (ha : ∀ a ∈ l, ∀ t ∈ tokE a, goodT t) : ∀ t ∈ tokArgs op l, goodT t := by
  intro t h
  cases l with
  | nil => simp [tokArgs] at h
  | cons a r =>
    rw [tokArgs_cons] at h
    rcases List.mem_append.1 h with h | h
    · exact good_argT (ha a (by simp)) t h
    · exact good_tokMore r (fun x hx => ha x (List.mem_cons_of_mem _ hx)) t h
theorem okTree_parts {e : Ex} (h : okTree e) : okNode e ∧ ∀ x ∈ e.args, okTree x := by
  cases e; unfold okTree at h; exact ⟨h.1, okTrees_mem h.2⟩
theorem okTree_mk {e : Ex} (h1 : okNode e) (h2 : ∀ x ∈ e.args, okTree x) : okTree e := by
  cases e with
  | mk op name words lo hi args =>
    unfold okTree
    refine ⟨h1, ?_⟩
    simp only [Ex.args] at h2
    clear h1
    induction args with
    | nil => unfold okTrees; trivial
    | cons a r ih => unfold okTrees; exact ⟨h2 a (by simp), ih (fun x hx => h2 x (List.mem_cons_of_mem _ hx))⟩
/-- The tokens of an expression, by its operator. -/
theorem tokE_eq (e : Ex) : tokE e = if e.op = 1 then [nameT wTrue] else if e.op = 2 then [nameT wFalse] else if e.op = 3 then [nameT e.name] else
    if e.op = 4 then [nameT e.name, nameT wIn, markT 40] ++ listedT e.words ++ [markT 41] else
    if e.op = 5 then [nameT e.name, nameT wFrom, numT e.lo, nameT wTo, numT e.hi] else
    (if e.op = 6 then [nameT wNot] else []) ++ tokArgs e.op e.args := by cases e; rw [tokE]; rfl
/-- The tokens of a valid expression can be written. -/
theorem good_tokE (m : Nat) : ∀ e : Ex, e.size ≤ m → okTree e → ∀ t ∈ tokE e, goodT t := by
  induction m with
  | zero => intro e h; have := e.size_eq; omega
  | succ m ih =>
    intro e hm hok
    obtain ⟨hn, ha⟩ := okTree_parts hok
    have hargs : ∀ a ∈ e.args, ∀ t ∈ tokE a, goodT t := fun a haa => ih a (by have := sizes_mem haa; have := e.size_eq; omega) (ha a haa)
    intro t ht
    rw [tokE_eq] at ht
    rcases hn with ⟨h1, _⟩ | ⟨h1, _⟩ | ⟨h1, h2, _⟩ | ⟨h1, h2, h3, _⟩ | ⟨h1, h2, _, h4, h5, _⟩ | ⟨h1, _⟩ | ⟨h1, _⟩
    · simp [h1] at ht; subst ht; exact goodT_name words_ok.1
    · simp [h1] at ht; subst ht; exact goodT_name words_ok.2.1
    · simp [h1] at ht; subst ht; exact goodT_name (nameB_wordB h2)
    · rw [h1] at ht
      simp only [wordsB, Bool.and_eq_true, List.all_eq_true] at h3
      simp [-List.append_assoc] at ht
      rcases ht with rfl | rfl | rfl | ht | rfl
      · exact goodT_name (nameB_wordB h2)
      · exact goodT_name words_ok.2.2.1
      · exact goodT_mark (by decide)
      · exact good_listed _ h3.1.2 t ht
      · exact goodT_mark (by decide)
    · rw [h1] at ht
      simp at ht
      rcases ht with rfl | rfl | rfl | rfl | rfl
      · exact goodT_name (nameB_wordB h2)
      · exact goodT_name words_ok.2.2.2.1
      · exact goodT_num h4
      · exact goodT_name words_ok.2.2.2.2.1
      · exact goodT_num h5
    · rw [h1] at ht
      simp at ht
      rcases ht with rfl | ht
      · exact goodT_name words_ok.2.2.2.2.2.1
      · exact good_tokArgs _ hargs t ht
    · have ht' : t ∈ tokArgs e.op e.args := by rcases h1 with h1 | h1 <;> (rw [h1] at ht ⊢; simpa using ht)
      exact good_tokArgs _ hargs t ht'

/-- Bytes of tokens, with a blank each. -/
def wts : List Tok → Nat
  | [] => 0
  | t :: r => (tokB t).length + 1 + wts r
theorem wts_append : (a b : List Tok) → wts (a ++ b) = wts a + wts b
  | [], b => by simp [wts]
  | t :: r, b => by simp [wts, wts_append r b]; omega
theorem pcsB_joinPc_le : (l : List Tok) → (g : Bool) → (pcsB (joinPc g l)).length ≤ wts l
  | [], g => by simp [joinPc, pcsB]
  | t :: r, g => by
    have ih := pcsB_joinPc_le r (tokB t == [40])
    rw [joinPc, pcsB_append, List.length_append, wts]
    split
    · simp [pcsB, Pc.bytes] at ih ⊢; omega
    · simp [pcsB, Pc.bytes] at ih ⊢; omega
theorem digs_len : (f n k : Nat) → n < 10 ^ (k + 1) → (digs f n).length ≤ k + 1
  | 0, n, k, _ => by simp [digs]
  | f + 1, n, k, h => by
    rw [digs]
    split
    · simp
    · cases k with
      | zero => rename_i hn; simp at h; omega
      | succ k =>
        have := digs_len f (n / 10) k (by rw [Nat.pow_succ] at h; omega)
        simp; omega
theorem wts_num {n : Int} (h : numberB n = true) (r : List Tok) : wts (numT n :: r) ≤ 12 + wts r := by
  simp [numberB] at h
  have := digs_len 20 n.natAbs 9 (by omega)
  have h2 : (decB n).length ≤ 11 := by
    unfold decB
    split
    · simp only [List.length_cons]; omega
    · omega
  have e : tokB (numT n) = decB n := by rw [tokB, if_pos (show (numT n).kind = 2 from rfl)]; rfl
  simp only [wts, e] ; omega
theorem wts_name (s : ByteArray) (r : List Tok) : wts (nameT s :: r) = s.size + 1 + wts r := by
  have e : tokB (nameT s) = s.data.toList := by rw [tokB, if_neg (by simp [nameT])]; rfl
  simp only [wts, e, Array.length_toList]; rfl
theorem wts_mark (c : UInt8) (r : List Tok) : wts (markT c :: r) = 2 + wts r := by
  have e : tokB (markT c) = [c] := by rw [tokB, if_neg (by simp [markT])]; rfl
  simp only [wts, e]; rfl

theorem wts_nil : wts [] = 0 := rfl
def okAttr2 (a : Attr) : Bool := nameB a.name && decide (a.name.size ≤ 7) && (a.kind != 1 || (decide (a.words.length ≤ 4) && a.words.all fun x => nameB x && decide (x.size ≤ 5))) && (a.kind != 2 || (decide (-1000000000 ≤ a.lo) && decide (a.hi ≤ 1000000000)))
theorem schemas_ok2 : (schemas.all fun l => l.all okAttr2) = true := by decide +kernel
theorem defOld_ok : (defOld.all fun x => nameB x && decide (x.size ≤ 7)) = true := by decide +kernel
def boundT : Nat → Nat | 0 => 11 | d + 1 => 3 * boundT d + 8
def boundB : Nat → Nat | 0 => 45 | d + 1 => 3 * boundB d + 20
def boundS : Nat → Nat | 0 => 1 | d + 1 => 3 * boundS d + 1
/-- What is known of an expression that was made. -/
structure Fine (d : Nat) (e : Ex) : Prop where
  ok : okTree e
  len : (tokE e).length ≤ boundT d
  wt : wts (tokE e) ≤ boundB d
  size : e.size ≤ boundS d
  depth : e.depth ≤ d + 1
theorem boundT_le (d : Nat) : 11 ≤ boundT d := by induction d with | zero => simp [boundT] | succ d ih => simp only [boundT]; omega
theorem boundB_le (d : Nat) : 45 ≤ boundB d := by induction d with | zero => simp [boundB] | succ d ih => simp only [boundB]; omega
theorem boundS_le (d : Nat) : 1 ≤ boundS d := by induction d with | zero => simp [boundS] | succ d ih => simp only [boundS]; omega
theorem fine_leaf {d : Nat} {e : Ex} (ha : e.args = []) (hn : okNode e) (h1 : (tokE e).length ≤ 11) (h2 : wts (tokE e) ≤ 45) : Fine d e where
  ok := okTree_mk hn (by rw [ha]; simp)
  len := by have := boundT_le d; omega
  wt := by have := boundB_le d; omega
  size := by have := boundS_le d; rw [e.size_eq, ha]; simp [sizes]; omega
  depth := by rw [e.depth_eq, ha]; simp [depths]
theorem listedT_wts : (l : List ByteArray) → (∀ x ∈ l, x.size ≤ 5) → wts (listedT l) ≤ 8 * l.length
  | [], _ => by simp [listedT, wts_nil]
  | [a], h => by have := h a (by simp); simp only [listedT, wts_name, wts_nil, List.length_singleton]; omega
  | a :: b :: r, h => by
    have h1 := h a (by simp)
    have := listedT_wts (b :: r) (fun x hx => h x (List.mem_cons_of_mem _ hx))
    rw [listedT, wts_name, wts_mark]
    simp only [List.length_cons] at this ⊢
    omega
    all_goals simp
theorem listedT_len2 : (l : List ByteArray) → (listedT l).length ≤ 2 * l.length
  | [] => by simp [listedT]
  | [a] => by simp [listedT]
  | a :: b :: r => by have := listedT_len2 (b :: r); simp only [listedT, List.length_cons] at this ⊢; omega
theorem atom_fine {attrs : List Attr} (hs : attrs ∈ schemas) {e : Ex} (h : AtomOf attrs defOld e) (d : Nat) : Fine d e := by
  have hat : ∀ a ∈ attrs, okAttr2 a = true := fun a ha => List.all_eq_true.1 (List.all_eq_true.1 schemas_ok2 attrs hs) a ha
  obtain ⟨ha, h⟩ := h
  rcases h with ⟨h1, h2, h3, h4, h5⟩ | ⟨h1, h2, h3, h4, h5⟩ | ⟨h1, h2, h3, h4, h5⟩ | ⟨h1, ⟨a, haa, hk, hnm, hne, hnd, hin⟩, h4, h5⟩ | ⟨h1, ⟨a, haa, hk, hnm, hl1, hl2, hl3⟩, h3⟩
  · have e1 : tokE e = [nameT wTrue] := by rw [tokE_eq, if_pos h1]
    exact fine_leaf ha (Or.inl ⟨h1, h2, h3, h4, h5, ha⟩) (by rw [e1]; simp) (by rw [e1, wts_name]; simp only [wts_nil]; decide)
  · have e1 : tokE e = [nameT wFalse] := by rw [tokE_eq, h1]; rfl
    exact fine_leaf ha (Or.inr (Or.inl ⟨h1, h2, h3, h4, h5, ha⟩)) (by rw [e1]; simp) (by rw [e1, wts_name]; simp only [wts_nil]; decide)
  · have e1 : tokE e = [nameT e.name] := by rw [tokE_eq, h1]; rfl
    have hn : nameB e.name = true ∧ e.name.size ≤ 7 := by
      rcases h2 with h2 | ⟨a, haa, _, h2⟩
      · have := List.all_eq_true.1 defOld_ok _ h2
        simpa using this
      · have := hat a haa
        simp only [okAttr2, Bool.and_eq_true, decide_eq_true_eq] at this
        rw [h2]; exact this.1.1
    exact fine_leaf ha (Or.inr (Or.inr (Or.inl ⟨h1, hn.1, h3, h4, h5, ha⟩))) (by rw [e1]; simp) (by rw [e1, wts_name]; simp only [wts_nil]; omega)
  · have e1 : tokE e = [nameT e.name, nameT wIn, markT 40] ++ listedT e.words ++ [markT 41] := by rw [tokE_eq, h1]; rfl
    have hq := hat a haa
    simp only [okAttr2, hk, Bool.and_eq_true, decide_eq_true_eq, bne_self_eq_false, Bool.false_or, List.all_eq_true] at hq
    obtain ⟨⟨⟨hq1, hq2⟩, hq3, hq4⟩, _⟩ := hq
    have hlen : e.words.length ≤ 4 := Nat.le_trans (List.Nodup.length_le_of_subset hnd (fun x hx => hin x hx)) hq3
    have hl0 : e.words.length ≠ 0 := fun h => hne (List.eq_nil_of_length_eq_zero h)
    refine fine_leaf ha (Or.inr (Or.inr (Or.inr (Or.inl ⟨h1, by rw [hnm]; exact hq1, ?_, h4, h5, ha⟩)))) ?_ ?_
    · simp only [wordsB, Bool.and_eq_true, bne_iff_ne, decide_eq_true_eq, List.all_eq_true]
      exact ⟨⟨⟨by simpa using hl0, by omega⟩, fun x hx => (hq4 x (hin x hx)).1⟩, hnd⟩
    · have := listedT_len2 e.words
      rw [e1]; simp; 
      have h8 : (listedT e.words).length ≤ 7 := by
        match e.words, hlen, hl0 with
        | [_], _, _ => simp [listedT]
        | [_, _], _, _ => simp [listedT]
        | [_, _, _], _, _ => simp [listedT]
        | [_, _, _, _], _, _ => simp [listedT]
      omega
    · have := listedT_wts e.words (fun x hx => (hq4 x (hin x hx)).2)
      have h7 : e.name.size ≤ 7 := by rw [hnm]; exact hq2
      have hz : wIn.size = 2 := rfl
      have h9 : wts (listedT e.words) ≤ 30 := by
        have hx : ∀ x ∈ e.words, x.size ≤ 5 := fun x hx => (hq4 x (hin x hx)).2
        revert hx
        match e.words, hlen, hl0 with
        | [a], _, _ => intro hx; have := hx a (by simp); simp only [listedT, wts_name, wts_nil]; omega
        | [a, b], _, _ => intro hx; have := hx a (by simp); have := hx b (by simp); simp only [listedT, wts_name, wts_mark, wts_nil]; omega
        | [a, b, c], _, _ => intro hx; have := hx a (by simp); have := hx b (by simp); have := hx c (by simp); simp only [listedT, wts_name, wts_mark, wts_nil]; omega
        | [a, b, c, d], _, _ => intro hx; have := hx a (by simp); have := hx b (by simp); have := hx c (by simp); have := hx d (by simp); simp only [listedT, wts_name, wts_mark, wts_nil]; omega
      rw [e1, wts_append, wts_append, wts_name, wts_name, wts_mark, wts_mark]; simp only [wts_nil]; omega
  · have e1 : tokE e = [nameT e.name, nameT wFrom, numT e.lo, nameT wTo, numT e.hi] := by rw [tokE_eq, h1]; rfl
    have hq := hat a haa
    simp only [okAttr2, hk, Bool.and_eq_true, decide_eq_true_eq, bne_self_eq_false, Bool.false_or] at hq
    obtain ⟨⟨⟨hq1, hq2⟩, _⟩, hq3, hq4⟩ := hq
    have hlo : numberB e.lo = true := by simp [numberB]; omega
    have hhi : numberB e.hi = true := by simp [numberB]; omega
    refine fine_leaf ha (Or.inr (Or.inr (Or.inr (Or.inr (Or.inl ⟨h1, by rw [hnm]; exact hq1, h3, hlo, hhi, hl2, ha⟩))))) (by rw [e1]; simp) ?_
    have h7 : e.name.size ≤ 7 := by rw [hnm]; exact hq2
    have hz : wFrom.size = 4 := rfl
    have hz2 : wTo.size = 2 := rfl
    have w5 := wts_num hhi []
    have w3 := wts_num hlo [nameT wTo, numT e.hi]
    rw [e1, wts_name, wts_name]
    rw [wts_name] at w3
    simp only [wts_nil] at w5
    omega
theorem argT_len (op : Int) (a : Ex) : (argT op a).length ≤ (tokE a).length + 2 ∧ wts (argT op a) ≤ wts (tokE a) + 4 := by
  unfold argT
  split
  · rw [wts_append, wts_append, wts_mark, wts_mark]; simp [wts_nil]; omega
  · omega
theorem fine_step {d : Nat} {e : Ex} (h : e.op = 6 ∧ e.args.length = 1 ∨ (e.op = 7 ∨ e.op = 8) ∧ 2 ≤ e.args.length ∧ e.args.length ≤ 3) (h1 : e.name = ⟨#[]⟩) (h2 : e.words = []) (h3 : e.lo = 0) (h4 : e.hi = 0) (ha : ∀ x ∈ e.args, Fine d x) : Fine (d + 1) e := by
  have hw : ∀ op : Int, (nameT (if op = 7 then wAnd else wOr)).text.size ≤ 3 := fun op => by split <;> decide
  have hwt : ∀ (op : Int) (r : List Tok), wts (nameT (if op = 7 then wAnd else wOr) :: r) ≤ 4 + wts r := fun op r => by rw [wts_name]; have := hw op; simp only [nameT] at this; omega
  have hb := boundT_le d
  have hb2 := boundB_le d
  rcases h with ⟨hop, hl⟩ | ⟨hop, hl, hl3⟩
  · obtain ⟨x, hx⟩ : ∃ x, e.args = [x] := by
      match e.args, hl with
      | [x], _ => exact ⟨x, rfl⟩
    have fx := ha x (by rw [hx]; simp)
    have hal := argT_len 6 x
    have e1 : tokE e = nameT wNot :: argT 6 x := by rw [tokE_eq, hop, hx]; simp [tokArgs_cons, tokMore]
    refine ⟨okTree_mk (Or.inr (Or.inr (Or.inr (Or.inr (Or.inr (Or.inl ⟨hop, h1, h2, h3, h4, hl⟩)))))) (fun y hy => (ha y hy).ok), ?_, ?_, ?_, ?_⟩
    · have := fx.len; rw [e1]; simp only [boundT, List.length_cons]; omega
    · have := fx.wt
      have hz : wNot.size = 3 := rfl
      rw [e1, wts_name]; simp only [boundB]; omega
    · have := fx.size; rw [e.size_eq, hx]; simp only [sizes, boundS]; omega
    · have := fx.depth; rw [e.depth_eq, hx]; simp only [depths]; omega
  · have e1 : tokE e = tokArgs e.op e.args := by rw [tokE_eq]; rcases hop with hop | hop <;> (rw [hop]; rfl)
    refine ⟨okTree_mk (Or.inr (Or.inr (Or.inr (Or.inr (Or.inr (Or.inr ⟨hop, h1, h2, h3, h4, hl⟩)))))) (fun y hy => (ha y hy).ok), ?_, ?_, ?_, ?_⟩
    all_goals
      obtain ⟨x, y, hxy⟩ | ⟨x, y, z, hxyz⟩ : (∃ x y, e.args = [x, y]) ∨ ∃ x y z, e.args = [x, y, z] := by
        match e.args, hl, hl3 with
        | [x, y], _, _ => exact Or.inl ⟨x, y, rfl⟩
        | [x, y, z], _, _ => exact Or.inr ⟨x, y, z, rfl⟩
    · have fx := (ha x (by rw [hxy]; simp)).len; have fy := (ha y (by rw [hxy]; simp)).len
      have ax := argT_len e.op x; have ay := argT_len e.op y
      rw [e1, hxy, tokArgs_cons, tokMore_cons]; simp only [tokMore, List.length_append, List.length_cons, List.length_nil, boundT]; omega
    · have fx := (ha x (by rw [hxyz]; simp)).len; have fy := (ha y (by rw [hxyz]; simp)).len; have fz := (ha z (by rw [hxyz]; simp)).len
      have ax := argT_len e.op x; have ay := argT_len e.op y; have az := argT_len e.op z
      rw [e1, hxyz, tokArgs_cons, tokMore_cons, tokMore_cons]; simp only [tokMore, List.length_append, List.length_cons, List.length_nil, boundT]; omega
    · have fx := (ha x (by rw [hxy]; simp)).wt; have fy := (ha y (by rw [hxy]; simp)).wt
      have ax := argT_len e.op x; have ay := argT_len e.op y
      have w1 := hwt e.op (argT e.op y ++ [])
      rw [e1, hxy, tokArgs_cons, tokMore_cons, wts_append]; simp only [tokMore, boundB, wts_append, wts_nil] at w1 ⊢; omega
    · have fx := (ha x (by rw [hxyz]; simp)).wt; have fy := (ha y (by rw [hxyz]; simp)).wt; have fz := (ha z (by rw [hxyz]; simp)).wt
      have ax := argT_len e.op x; have ay := argT_len e.op y; have az := argT_len e.op z
      have w1 := hwt e.op (argT e.op y ++ tokMore e.op [z])
      have w2 := hwt e.op (argT e.op z ++ [])
      rw [e1, hxyz, tokArgs_cons, tokMore_cons, wts_append]
      rw [tokMore_cons] at w1 ⊢
      simp only [tokMore, boundB, wts_append, wts_nil] at w1 w2 ⊢; omega
    · have fx := (ha x (by rw [hxy]; simp)).size; have fy := (ha y (by rw [hxy]; simp)).size
      rw [e.size_eq, hxy]; simp only [sizes, boundS]; omega
    · have fx := (ha x (by rw [hxyz]; simp)).size; have fy := (ha y (by rw [hxyz]; simp)).size; have fz := (ha z (by rw [hxyz]; simp)).size
      rw [e.size_eq, hxyz]; simp only [sizes, boundS]; omega
    · have fx := (ha x (by rw [hxy]; simp)).depth; have fy := (ha y (by rw [hxy]; simp)).depth
      rw [e.depth_eq, hxy]; simp only [depths]; omega
    · have fx := (ha x (by rw [hxyz]; simp)).depth; have fy := (ha y (by rw [hxyz]; simp)).depth; have fz := (ha z (by rw [hxyz]; simp)).depth
      rw [e.depth_eq, hxyz]; simp only [depths]; omega
theorem made_fine {attrs : List Attr} (hs : attrs ∈ schemas) : (d : Nat) → (e : Ex) → MadeE attrs defOld (d + 1) e → Fine d e
  | 0, e, h => by
    rcases h with h | ⟨hl, _, _, _, _, h⟩
    · exact atom_fine hs h 0
    · exfalso
      cases hx : e.args with
      | nil => rw [hx] at hl; simp at hl
      | cons x r => exact h x (by rw [hx]; simp)
  | d + 1, e, h => by
    rcases h with h | ⟨hl, h1, h2, h3, h4, h⟩
    · exact atom_fine hs h _
    · exact fine_step hl h1 h2 h3 h4 (fun x hx => made_fine hs d x (h x hx))
end Go.Proofs.YtfjlglefodndjaaGreatDoor

namespace Go.Proofs.YtfjlglefodndjaaGreatDoor
open Go.RowKit Go.Maps

/-! check.nodes, check.expression, check.Expr. -/
theorem firstI_all {f : Nat → Int} {n : Nat} (h : (firstI f n).2 = 0) : ∀ j, j < n → f j = 0 := by
  induction n with
  | zero => intro j hj; omega
  | succ n ih =>
    intro j hj
    rw [firstI] at h
    by_cases h1 : (firstI f n).2 ≠ 0
    · rw [if_pos h1] at h; exact absurd h h1
    · rw [if_neg h1] at h
      by_cases h2 : f n ≠ 0
      · rw [if_pos h2] at h; exact absurd h h2
      · by_cases e : j = n
        · subst e; simpa using h2
        · exact ih (by simpa using h1) j (by omega)
theorem schema_attrErr {s : List Attr} (h : schemaErr s = 0) {i : Nat} (hi : i < s.length) : attrErr s[i] = 0 := by
  unfold schemaErr at h
  by_cases h0 : s.length = 0
  · rw [if_pos h0] at h; cases h
  · rw [if_neg h0] at h
    by_cases h6 : 6 < s.length
    · rw [if_pos h6] at h; cases h
    · rw [if_neg h6] at h
      have := firstI_all h i hi
      unfold attrIErr at this
      rw [getD_attr hi] at this
      split at this
      · cases this
      · split at this
        · cases this
        · exact this
theorem attr_lohi {a : Attr} (h : attrErr a = 0) (hk : a.kind = 1 ∨ a.kind = 3) : a.lo = 0 ∧ a.hi = 0 := by
  unfold attrErr at h
  rcases hk with hk | hk
  · rw [if_pos hk] at h
    split at h
    · cases h
    · rename_i h1
      omega
  · rw [if_neg (by omega), if_neg (by omega), if_pos hk] at h
    split at h
    · cases h
    · rename_i h1
      omega
theorem cnode_eq {s : List Attr} {l : List Cla} (hs : schemaErr s = 0) {e : Ex} (he : okNode e) : cnodeErr s l e.op e.name e.words e.lo e.hi = nodeErr s l e.op e.name e.words e.lo e.hi := by
  have key : ∀ (ws vs : List ByteArray), (ws.all fun x => decide (x ∈ vs)) = ws.all fun x => vs.any fun y => decide (y = x) := by
    intro ws vs
    congr 1
    funext x
    rw [Bool.eq_iff_iff]
    simp
  rcases he with ⟨h1, h2, h3, h4, h5, h6⟩ | ⟨h1, h2, h3, h4, h5, h6⟩ | ⟨h1, h2, h3, h4, h5, h6⟩ | ⟨h1, h2, h3, h4, h5, h6⟩ | ⟨h1, h2, h3, h4, h5, h6⟩ | ⟨h1, h2, h3, h4, h5, h6⟩ | ⟨h1, h2, h3, h4, h5, h6⟩
  · rw [h1]; rfl
  · rw [h1]; rfl
  · rw [h1, h3, h4, h5]
    cases ho : attrAt s e.name with
    | none =>
      rw [cnode_none (by decide) ho]
      simp [nodeErr, ho]
    | some i =>
      have hi := attrAt_lt ho
      have e5 : nodeErr s l 3 e.name [] 0 0 = if s[i].kind ≠ 3 then 9 else 0 := by
        unfold nodeErr
        rw [if_pos rfl, ho]
        simp only [getD_attr hi]
      rw [cnode_some (by decide) ho hi, e5, show kindFor 3 = 3 from rfl]
      by_cases hk : s[i].kind = 3
      · have := attr_lohi (schema_attrErr hs hi) (Or.inr hk)
        rw [this.1, this.2]
        simp [hk]
      · rw [if_pos hk, if_pos hk]
  · rw [h1, h4, h5]
    cases ho : attrAt s e.name with
    | none =>
      rw [cnode_none (by decide) ho]
      simp [nodeErr, ho]
    | some i =>
      have hi := attrAt_lt ho
      have e5 : nodeErr s l 4 e.name e.words 0 0 = if s[i].kind ≠ 1 then 9 else if (e.words.all fun x => s[i].words.any fun y => decide (y = x)) = false then 7 else 0 := by
        unfold nodeErr
        rw [if_neg (show ¬ (4 : Int) = 3 by decide), if_pos rfl, ho]
        simp only [getD_attr hi]
      rw [cnode_some (by decide) ho hi, e5, show kindFor 4 = 1 from rfl]
      by_cases hk : s[i].kind = 1
      · have := attr_lohi (schema_attrErr hs hi) (Or.inl hk)
        rw [this.1, this.2, key]
        simp [hk]
      · rw [if_pos hk, if_pos hk]
  · rw [h1, h3]
    cases ho : attrAt s e.name with
    | none =>
      rw [cnode_none (by decide) ho]
      simp [nodeErr, ho]
    | some i =>
      have hi := attrAt_lt ho
      have e5 : nodeErr s l 5 e.name [] e.lo e.hi = if s[i].kind ≠ 2 then 9 else if e.lo < s[i].lo ∨ s[i].hi < e.hi then 1 else 0 := by
        unfold nodeErr
        rw [if_neg (show ¬ (5 : Int) = 3 by decide), if_neg (show ¬ (5 : Int) = 4 by decide), if_pos rfl, ho]
        simp only [getD_attr hi]
      rw [cnode_some (by decide) ho hi, e5, show kindFor 5 = 2 from rfl]
      simp
  · rw [h1]; rfl
  · rcases h1 with h1 | h1 <;> (rw [h1]; rfl)
set_option maxRecDepth 100000 in
set_option maxHeartbeats 4000000 in
theorem cnodes_calls (s : List Attr) (hse : schemaErr s = 0) (l : List Cla) (hf : ∀ x ∈ s, x.fits) (hsl : s.length ≤ 1000000000000000) (bm nm : Nat) (m : Nat) : ∀ (e : Ex) (ev sv : Value) (w : World), e.size ≤ m → m ≤ 1000000000000000 → e.few → e.fits → okTree e → IsSchema w s sv → DefsAt w l bm nm → IsEx w e ev →
    Calls Tryz.prog 53 #[sv, .map (some bm), ev] w (GivesE (.int .i64 (nodesErr s l e)) w) := by
  induction m with
  | zero => intro e ev sv w h; have := size_pos e; omega
  | succ m ih =>
    intro e ev sv w hm hMM hfew hfit hok hs hd he
    obtain ⟨sa, sn, sc, rfl, hsn⟩ := hs.slice
    obtain ⟨hfw, hfa⟩ := few_parts hfew
    obtain ⟨hen, hft⟩ := fits_parts2 hfit
    have HN0 := Lib.hid (fun (W : World) (h1 : IsSchema W s (.agg #[.slice sa sn sc])) (h2 : DefsAt W l bm nm) (h3 : IsEx W e ev) => cnode_calls s (.agg #[.slice sa sn sc]) l bm nm e ev W h1 hf hsl h2 h3 hfw hen)
    rw [cnode_eq hse (okTree_parts hok).1] at HN0
    obtain ⟨aw, nw, cw, aa, na, ca, rfl, hw, hna, hca, ha, hx⟩ := he.parts
    have hS : e.size = 1 + sizes e.args := e.size_eq
    have hla := length_le_sizes e.args
    have hna2 : na ≤ 1000000000000000 := by omega
    have hsz : sizes e.args ≤ m := by omega
    have HE := Lib.hid he
    have HS := Lib.hid hs
    have HD := Lib.hid hd
    have HX := Lib.hid hx
    have HNA := Lib.hid hna
    have HFT := Lib.hid hft
    have HFA := Lib.hid hfa
    have HOK := Lib.hid (okTree_parts hok).2
    have HEQ := Lib.hid (nodesErr_eq s l e)
    have IH := Lib.hid ih
    clear hs hd he hx hna hw hca ha hS hla hsn hfw hfa hfew ih hf hm hft hfit hok
    unfold exV at *
    obtain ⟨wa, hwa⟩ : ∃ wa, wa = (w.alloc (.cells #[.slice sa sn sc] 24)).alloc (.cells #[.int .i64 e.op, .string e.name, .slice aw nw cw, .int .i64 e.lo, .int .i64 e.hi, .slice aa na ca] 29) := ⟨_, rfl⟩
    have hxa : Ext w wa := by rw [hwa]; exact ((Ext.refl _).alloc _).alloc _
    have hb0 : wa.heap[w.heap.size]? = some (.cells #[.slice sa sn sc] 24 (0, 0)) := by rw [hwa]; exact blk_alloc (alloc_new w _)
    have hb1 : wa.heap[w.heap.size + 1]? = some (.cells #[.int .i64 e.op, .string e.name, .slice aw nw cw, .int .i64 e.lo, .int .i64 e.hi, .slice aa na ca] 29 (0, 0)) := by rw [hwa]; exact alloc_atR (by simp)
    have HXA := Lib.hid hxa
    have HB0 := Lib.hid hb0
    have HB1 := Lib.hid hb1
    obtain ⟨a0, af⟩ := blk1 hb0
    obtain ⟨b0, b1, b2, b3, b4, b5, bf⟩ := blk6 hb1
    have hlt1 := blk_lt hb1
    have HN1 := Lib.hid (HN0.out wa (HS.out.ext hxa) (HD.out.ext hxa) (HE.out.ext hxa))
    clear hxa hb0 hb1 HN0
    obtain ⟨N, hN⟩ : ∃ N, N = nodeErr s l e.op e.name e.words e.lo e.hi := ⟨_, rfl⟩
    rw [← hN] at HN1 HEQ
    obtain ⟨E, hE⟩ : ∃ E, E = nodesErr s l e := ⟨_, rfl⟩
    rw [← hE] at HEQ ⊢
    clear hN hE
    go_enter Tryz.func53, Tryz.ntmps53
    go_upto_region 1 with fail
    rw [← hwa]
    clear hwa
    go_wp2_with fail
    refine HN1.out.mono ?_
    rintro r w3 ⟨rfl, hx3⟩
    have HX3 := Lib.hid (HXA.out.trans hx3)
    have HB03 := Lib.hid (hx3.blk HB0.out)
    have HB13 := Lib.hid (hx3.blk HB1.out)
    clear hx3 a0 af b0 b1 b2 b3 b4 b5 bf hlt1
    by_cases hz : N = 0
    case neg =>
      have tz : (N != 0) = true := by simp [hz]
      have HQ := Lib.hid (show E = N by rw [HEQ.out, if_pos hz])
      clear hz
      go_wp2_with fail
      go_ret
      exact givesE_of (by rw [HQ.out]) HX3.out
    have tz : (N != 0) = false := by simp [hz]
    have HQ := Lib.hid (show E = nodesErrL s l e.args by rw [HEQ.out, if_neg (by simpa using hz)])
    clear hz HEQ
    obtain ⟨b0, b1, b2, b3, b4, b5, bf⟩ := blk6 HB13.out
    have hlt1 := blk_lt HB13.out
    go_wp2_with fail
    clear b0 b1 b2 b3 b4 b5 bf hlt1
    go_loopw [21] (fun t wr => ∃ k : Nat, t = .int .i64 k ∧ k ≤ na ∧ (∀ j (h : j < e.args.length), j < k → nodesErr s l e.args[j] = 0) ∧ wr.heap[w.heap.size]? = some (.cells #[.slice sa sn sc] 24 (0, 0)) ∧ Ext w wr) (fun t _ => na - (intOf t).toNat)
    case atStart => exact ⟨0, rfl, by omega, fun j _ h => by omega, HB03.out, HX3.out⟩
    case round =>
      obtain ⟨k, rfl, hk, hall, hbx, hxr⟩ := hrel
      have HALL := Lib.hid hall
      have HBX := Lib.hid hbx
      have HXR := Lib.hid hxr
      obtain ⟨a0, af⟩ := blk1 hbx
      have hlt0 := blk_lt hbx
      clear hall hbx hxr
      by_cases hkn : k < na
      · have hka : k < e.args.length := by have := HNA.out; omega
        have t1 : decide ((k : Int) < (na : Int)) = true := decide_eq_true (by omega)
        obtain ⟨b, off, rfl, aw1, nw1, cw1, aa1, na1, ca1, h0, h1, h2, h3, h4, h5, h6⟩ := ExsD.at e.args _ (ExsD.ext HXR.out e.args _ HX.out) k hka
        have hs1 := sizes_take_succ e.args k hka
        have hs2 := sizes_take_le e.args (k + 1)
        have hk1 : e.args[k].size ≤ m := by omega
        have hblt := block_lt h0
        simp only at hblt
        have HC := Lib.hid (fun (W : World) (hW : Ext wr W) => IH.out e.args[k] _ (.agg #[.slice sa sn sc]) W hk1 (by omega) (fewAll_at _ HFA.out k hka) (HFT.out _ (List.getElem_mem hka)) (HOK.out _ (List.getElem_mem hka)) (HS.out.ext (HXR.out.trans hW)) (HD.out.ext (HXR.out.trans hW)) (h6.ext hW))
        unfold exV at HC
        clear h6 hs1 hs2
        obtain ⟨E1, hE1⟩ : ∃ E1, E1 = nodesErr s l e.args[k] := ⟨_, rfl⟩
        rw [← hE1] at HC
        have HE1 := Lib.hid hE1
        clear hE1
        go_wp2_with fail
        refine (HC.out _ ((Ext.refl wr).alloc _)).mono ?_
        rintro r w5 ⟨rfl, hx5⟩
        have HX5 := Lib.hid ((HXR.out.alloc _).trans hx5)
        have HB5 := Lib.hid (hx5.blk (blk_alloc HBX.out))
        clear hx5 h0 h1 h2 h3 h4 h5 a0 af hlt0 HC
        by_cases hz1 : E1 = 0
        · have tz1 : (E1 != 0) = false := by simp [hz1]
          have HZ1 := Lib.hid (HE1.out.symm.trans hz1)
          clear hz1
          go_wp2_with fail
          go_roundw
          case rel =>
            refine ⟨k + 1, by go_num, by omega, fun j hj hjk => ?_, HB5.out, HX5.out⟩
            by_cases e0 : j = k
            · subst e0; exact HZ1.out
            · exact HALL.out j hj (by omega)
          case measure => simp [intOf]; omega
        · have tz1 : (E1 != 0) = true := by simp [hz1]
          have HR := Lib.hid (show E = E1 by rw [HQ.out, nodesErrL_hit e.args k hka (by rw [← HE1.out]; exact hz1) (fun j hj => HALL.out j (by omega) hj), HE1.out])
          clear hz1
          go_wp2_with fail
          go_ret
          exact givesE_of (by rw [HR.out]) HX5.out
      · have t1 : decide ((k : Int) < (na : Int)) = false := decide_eq_false (by omega)
        have HR := Lib.hid (show E = 0 by rw [HQ.out, nodesErrL_zero e.args fun j hj => HALL.out j hj (by have := HNA.out; omega)])
        go_wp2_with fail
        go_ret
        exact givesE_of (by rw [HR.out]) HXR.out
def exprnErr (s : List Attr) (l : List Cla) (e : Ex) : Int := if refExprB e = false then 5 else nodesErr s l e
def exprErr (s : List Attr) (l : List Cla) (e : Ex) : Int := if schemaErr s ≠ 0 then schemaErr s else exprnErr s l e
theorem ref_okTree {e : Ex} (h : refExprB e = true) : okTree e := by
  rw [refExprB, Bool.and_eq_true, Bool.and_eq_true] at h
  exact (nodes_ok e).1 h.2
set_option maxRecDepth 100000 in
set_option maxHeartbeats 4000000 in
theorem cexpression_calls (s : List Attr) (hse : schemaErr s = 0) (l : List Cla) (hf : ∀ x ∈ s, x.fits) (hsl : s.length ≤ 1000000000000000) (bm nm : Nat) (e : Ex) (ev sv : Value) (w : World) (hfew : e.few) (hfit : e.fits) (ho : HasOps w) (hs : IsSchema w s sv) (hd : DefsAt w l bm nm) (he : IsEx w e ev) :
    Calls Tryz.prog 24 #[sv, .map (some bm), ev] w (GivesE (.int .i64 (exprnErr s l e)) w) := by
  obtain ⟨sa, sn, sc, rfl, hsn⟩ := hs.slice
  have HV := Lib.hid (fun (W : World) (hW : Ext w W) => Valid_calls e ev W (he.ext hW) (ho.ext hW) hfit)
  have HNC := Lib.hid (fun (W : World) (hW : Ext w W) (hz : refExprB e = true) => cnodes_calls s hse l hf hsl bm nm e.size e ev (.agg #[.slice sa sn sc]) W (Nat.le_refl _) (by
    rw [refExprB, Bool.and_eq_true, Bool.and_eq_true] at hz
    have h2 := hz.1.2
    simp only [decide_eq_true_eq] at h2
    unfold refSize at h2; omega) hfew hfit (ref_okTree hz) (hs.ext hW) (hd.ext hW) (he.ext hW))
  rw [validB_ref] at HV
  obtain ⟨aw, nw, cw, aa, na, ca, rfl, -⟩ := he.parts
  obtain ⟨R, hR⟩ : ∃ R, R = exprnErr s l e := ⟨_, rfl⟩
  rw [← hR]
  have HR := Lib.hid (show R = if refExprB e = false then 5 else nodesErr s l e from hR)
  clear hf hfew hfit ho hs hd he hR hsn
  unfold exV at *
  obtain ⟨wa, hwa⟩ : ∃ wa, wa = (w.alloc (.cells #[.slice sa sn sc] 24)).alloc (.cells #[.int .i64 e.op, .string e.name, .slice aw nw cw, .int .i64 e.lo, .int .i64 e.hi, .slice aa na ca] 29) := ⟨_, rfl⟩
  have hxa : Ext w wa := by rw [hwa]; exact ((Ext.refl _).alloc _).alloc _
  have hb0 : wa.heap[w.heap.size]? = some (.cells #[.slice sa sn sc] 24 (0, 0)) := by rw [hwa]; exact blk_alloc (alloc_new w _)
  have hb1 : wa.heap[w.heap.size + 1]? = some (.cells #[.int .i64 e.op, .string e.name, .slice aw nw cw, .int .i64 e.lo, .int .i64 e.hi, .slice aa na ca] 29 (0, 0)) := by rw [hwa]; exact alloc_atR (by simp)
  have HXA := Lib.hid hxa
  have HB0 := Lib.hid hb0
  have HB1 := Lib.hid hb1
  obtain ⟨b0, b1, b2, b3, b4, b5, bf⟩ := blk6 hb1
  have hlt1 := blk_lt hb1
  have HV1 := Lib.hid (HV.out wa hxa)
  clear hxa hb0 hb1 HV
  obtain ⟨B, hB⟩ : ∃ B, B = refExprB e := ⟨_, rfl⟩
  rw [← hB] at HV1 HR
  have HBB := Lib.hid hB
  clear hB
  go_enter Tryz.func24, Tryz.ntmps24
  go_upto_region 1 with fail
  rw [← hwa]
  clear hwa
  go_wp2_with fail
  refine HV1.out.mono ?_
  rintro r w3 ⟨rfl, hx3⟩
  have HX3 := Lib.hid (HXA.out.trans hx3)
  have HB03 := Lib.hid (hx3.blk HB0.out)
  have HB13 := Lib.hid (hx3.blk HB1.out)
  clear hx3 b0 b1 b2 b3 b4 b5 bf hlt1
  cases B
  · have HF := Lib.hid (show R = 5 by rw [HR.out]; rfl)
    go_wp2_with fail
    go_ret
    exact givesE_of (by rw [HF.out]) HX3.out
  · have HF := Lib.hid (show R = nodesErr s l e by rw [HR.out]; rfl)
    obtain ⟨b0, b1, b2, b3, b4, b5, bf⟩ := blk6 HB13.out
    obtain ⟨a0, af⟩ := blk1 HB03.out
    have hlt1 := blk_lt HB13.out
    go_wp2_with fail
    refine (HNC.out w3 HX3.out HBB.out.symm).mono ?_
    rintro r w5 ⟨rfl, hx5⟩
    have HX5 := Lib.hid (HX3.out.trans hx5)
    clear hx5
    go_wp2_with fail
    go_ret
    exact givesE_of (by rw [HF.out]) HX5.out
end Go.Proofs.YtfjlglefodndjaaGreatDoor

namespace Go.Proofs.YtfjlglefodndjaaGreatDoor
open Go.RowKit Go.Maps

/-! check.conditions, check.clause. -/
def condsC (c : Cla) : List Ex := c.cond :: condsW c.unl
theorem condsC_len (c : Cla) : (condsC c).length = 1 + wbN c.unl := by simp [condsC, condsW_len]; omega
theorem sub_mask_nil (w : World) : Sub w (mask w []) := fun p v hp => by rw [mask_cell, if_neg (by simp)]; exact hp
theorem owns_newC (w : World) (arr : Array Value) (e : TypeId) {size n base : Nat} (hs : arr.size = n * size) (hn : n ≤ maxLen) (hb : base ≤ w.heap.size) : (w.alloc (.cells arr e)).ownsRow base e size (.slice (some ⟨w.heap.size, 0, none⟩) n n) n arr.toList :=
  ⟨by simpa using hs, Or.inr ⟨w.heap.size, n, arr, rfl, hb, alloc_new w _, Nat.le_refl _, hn, hs, by rw [List.take_of_length_le (by simp; omega)]⟩⟩
def CondQ (c : Cla) (w : World) (e : Ending) (w' : World) : Prop := ∃ a n k, e = .returned (.slice a n k) ∧ n = (condsC c).length ∧ n ≤ k ∧ ExsD w' (condsC c) a ∧ Ext w w'
set_option maxRecDepth 100000 in
set_option maxHeartbeats 4000000 in
theorem conditions_calls (c : Cla) (v : ClV) (w : World) (hc : IsCla w c v) (hn : wbN c.unl ≤ 9000) :
    Calls Tryz.prog 31 #[.agg #[.int .i64 v.kind, .string v.name, .int .i64 v.x.op, .string v.x.name, .slice v.x.aw v.x.nw v.x.cw, .int .i64 v.x.lo, .int .i64 v.x.hi, .slice v.x.aa v.x.na v.x.ca, .slice v.au v.nu v.cu, .int .i64 v.amount]] w (CondQ c w) := by
  obtain ⟨-, -, hex, hnu, -, -, hwb, -⟩ := hc
  have HEX := Lib.hid hex
  have HWB := Lib.hid hwb
  have HNU := Lib.hid hnu
  obtain ⟨wa, hwa⟩ : ∃ wa, wa = w.alloc (.cells #[.int .i64 v.kind, .string v.name, .int .i64 v.x.op, .string v.x.name, .slice v.x.aw v.x.nw v.x.cw, .int .i64 v.x.lo, .int .i64 v.x.hi, .slice v.x.aa v.x.na v.x.ca, .slice v.au v.nu v.cu, .int .i64 v.amount] 38) := ⟨_, rfl⟩
  have hxa : Ext w wa := by rw [hwa]; exact (Ext.refl _).alloc _
  have hb : wa.heap[w.heap.size]? = some (.cells #[.int .i64 v.kind, .string v.name, .int .i64 v.x.op, .string v.x.name, .slice v.x.aw v.x.nw v.x.cw, .int .i64 v.x.lo, .int .i64 v.x.hi, .slice v.x.aa v.x.na v.x.ca, .slice v.au v.nu v.cu, .int .i64 v.amount] 38 (0, 0)) := by rw [hwa]; exact alloc_new w _
  have HXA := Lib.hid hxa
  obtain ⟨b0, b1, b2, b3, b4, b5, b6, b7, b8, b9, bf⟩ := blk10r hb
  have hltw := blk_lt hb
  clear hxa hb hex hwb hnu
  go_enter Tryz.func31, Tryz.ntmps31
  go_upto_region 1 with fail
  rw [← hwa]
  clear hwa
  obtain ⟨wx, hwx⟩ : ∃ wx, wx = wa.alloc (.cells #[.int .i64 v.x.op, .string v.x.name, .slice v.x.aw v.x.nw v.x.cw, .int .i64 v.x.lo, .int .i64 v.x.hi, .slice v.x.aa v.x.na v.x.ca] 29) := ⟨_, rfl⟩
  have HXX := Lib.hid (show Ext wa wx by rw [hwx]; exact (Ext.refl _).alloc _)
  have HOW := Lib.hid (show wx.ownsRow wa.heap.size 29 6 (.slice (some ⟨wa.heap.size, 0, none⟩) 1 1) 1 v.x.cells by rw [hwx]; exact owns_newC wa #[.int .i64 v.x.op, .string v.x.name, .slice v.x.aw v.x.nw v.x.cw, .int .i64 v.x.lo, .int .i64 v.x.hi, .slice v.x.aa v.x.na v.x.ca] 29 (by simp) (by unfold maxLen; omega) (Nat.le_refl _))
  have HEC := Lib.hid (exceptions_calls (wbN c.unl + 1) c.unl v.au v.nu v.cu wa.heap.size (.slice (some ⟨wa.heap.size, 0, none⟩) 1 1) 1 v.x.cells wx (by omega) HNU.out (by omega) HWB.out (HXA.out.trans HXX.out) HXA.out.size HXX.out.size HOW.out)
  go_wp2_with fail
  rw [← hwx]
  clear hwx
  refine HEC.out.mono ?_
  rintro r w3 ⟨v3, ys, rfl, hown, hys, hch, hfr⟩
  have HO3 := Lib.hid hown
  have HY3 := Lib.hid hys
  have HX3 := Lib.hid (show Ext w w3 from hch.ext (HXA.out.trans HXX.out) (fun y hy => by have h1 := (HOW.out.lt y (mem_rowOf.1 hy)).1; have := HXA.out.size; omega))
  clear hown hys hch hfr b0 b1 b2 b3 b4 b5 b6 b7 b8 b9 bf hltw HEC
  obtain ⟨a3, c3, hv3⟩ := owns_formG HO3.out
  subst hv3
  go_wp2_with fail
  go_ret
  have hl : (condsC c).length = 1 + wbN c.unl := condsC_len c
  have hR : ExsR w (condsC c) (v.x :: ys) := by
    have h1 : ExsR w [c.cond] [v.x] := (ExsR.nil w).snoc HEX.out
    simpa [condsC] using h1.app HY3.out
  obtain ⟨a', c', e', h1, h2, h3⟩ := exs_owns (M := []) (l := condsC c) (xs := v.x :: ys) (by rw [hl]; simpa using HO3.out) (by simp) (hR.mono (HX3.out.sub.trans (sub_mask_nil _)))
  rw [hl] at e'
  simp only [Value.slice.injEq, true_and] at e'
  obtain ⟨rfl, rfl⟩ := e'
  exact ⟨_, _, _, rfl, hl.symm, by rw [← hl]; exact h1, ExsD.mono (mask_sub _ _) _ _ h3, HX3.out⟩
theorem nodesErrL_app (s : List Attr) (l : List Cla) : (a b : List Ex) → nodesErrL s l (a ++ b) = if nodesErrL s l a ≠ 0 then nodesErrL s l a else nodesErrL s l b
  | [], b => by simp [nodesErrL]
  | e :: r, b => by
    have ih := nodesErrL_app s l r b
    simp only [List.cons_append]
    rw [nodesErrL, nodesErrL, ih]
    by_cases h : nodesErr s l e ≠ 0
    · rw [if_pos h, if_pos h, if_pos h]
    · rw [if_neg h, if_neg h]
theorem backsErr_conds (s : List Attr) (l : List Cla) : (u : List Wb) → backsErr s l u = nodesErrL s l (condsW u)
  | [] => by rw [backsErr, condsW, nodesErrL]
  | .mk n c u :: r => by
    rw [backsErr, condsW, nodesErrL, nodesErrL_app, backsErr_conds s l u, backsErr_conds s l r]
theorem backsLarge_conds (l : List Cla) : (u : List Wb) → backsLarge l u = (condsW u).any fun x => decide (2000 < expanded l x)
  | [] => by rw [backsLarge, condsW]; rfl
  | .mk n c u :: r => by
    rw [backsLarge, condsW, backsLarge_conds l u, backsLarge_conds l r]
    simp [List.any_append, Bool.or_assoc]
theorem backs_refs : (d : Nat) → (u : List Wb) → backsB d u = true → ∀ x ∈ condsW u, refExprB x = true
  | _, [], _, x, hx => by simp [condsW] at hx
  | d, .mk n c u :: r, h, x, hx => by
    rw [backsB] at h
    simp only [Bool.and_eq_true] at h
    rw [condsW] at hx
    rcases List.mem_cons.1 hx with rfl | hx
    · exact h.1.1.2
    · rcases List.mem_append.1 hx with hx | hx
      · exact backs_refs _ u h.1.2 x hx
      · exact backs_refs _ r h.2 x hx
theorem clause_refs {c : Cla} (h : clauseB c = true) : (∀ x ∈ condsC c, refExprB x = true) ∧ wbN c.unl ≤ 40 := by
  have h0 := clauseB_cond h
  rw [clauseB_eq] at h
  simp only [Bool.and_eq_true, decide_eq_true_eq] at h
  refine ⟨fun x hx => ?_, by have := h.2.2; omega⟩
  rcases List.mem_cons.1 hx with rfl | hx
  · exact h0
  · exact backs_refs _ _ h.2.1 x hx
theorem conds_fit : (u : List Wb) → wbFits u → ∀ x ∈ condsW u, x.fits ∧ x.few
  | [], _, x, hx => by simp [condsW] at hx
  | .mk n c u :: r, h, x, hx => by
    rw [wbFits] at h
    rw [condsW] at hx
    rcases List.mem_cons.1 hx with rfl | hx
    · exact ⟨h.2.1, h.2.2.1⟩
    · rcases List.mem_append.1 hx with hx | hx
      · exact conds_fit u h.2.2.2.2.2.1 x hx
      · exact conds_fit r h.2.2.2.2.2.2 x hx
theorem condsC_fit {c : Cla} (h : c.fit) : ∀ x ∈ condsC c, x.fits ∧ x.few := fun x hx => by
  rcases List.mem_cons.1 hx with rfl | hx
  · exact ⟨h.2.1, h.2.2.1⟩
  · exact conds_fit _ h.2.2.2.2.2 x hx
def ccErr (s : List Attr) (l : List Cla) (bef : List Cla) (c : Cla) : Int :=
  if clauseB c = false then 5 else if (findAt bef c.name).isSome then 8 else if (attrAt s c.name).isSome then 8 else nodesErrL s l (condsC c)
theorem ccErr_eq (s : List Attr) (l : List Cla) {i : Nat} (hi : i < l.length) : ccErr s l (l.take i) l[i] = claErr s l i := by
  unfold ccErr claErr
  rw [getD_cla hi]
  have hf : (findAt (l.take i) l[i].name).isSome = decide ((findAt l l[i].name).getD 0 < i) := by
    unfold findAt
    cases h : l.findIdx? (fun c => decide (c.name = l[i].name)) with
    | none =>
      rw [List.findIdx?_eq_none_iff] at h
      have := h l[i] (List.getElem_mem hi)
      simp at this
    | some f =>
      rw [List.findIdx?_eq_some_iff_getElem] at h
      obtain ⟨hf, h1, h2⟩ := h
      by_cases hfi : f < i
      · have : (l.take i).findIdx? (fun c => decide (c.name = l[i].name)) = some f := by
          rw [List.findIdx?_eq_some_iff_getElem]
          exact ⟨by simp; omega, by simpa using h1, fun j hj => by simpa using h2 j hj⟩
        rw [this]
        simp [hfi]
      · have : (l.take i).findIdx? (fun c => decide (c.name = l[i].name)) = none := by
          rw [List.findIdx?_eq_none_iff]
          intro x hx
          obtain ⟨j, hj, rfl⟩ := List.mem_iff_getElem.1 hx
          have := h2 j (by simp at hj; omega)
          simpa using this
        rw [this]
        simp [hfi]
  rw [hf, backsErr_conds]
  have hc : nodesErrL s l (condsC l[i]) = if nodesErr s l l[i].cond ≠ 0 then nodesErr s l l[i].cond else nodesErrL s l (condsW l[i].unl) := by rw [condsC, nodesErrL]
  rw [hc]
  simp only [decide_eq_true_eq]
set_option maxRecDepth 100000 in
set_option maxHeartbeats 8000000 in
theorem cclause_calls (s : List Attr) (hse : schemaErr s = 0) (l bef : List Cla) (hf : ∀ x ∈ s, x.fits) (hsl : s.length ≤ 1000000000000000) (bm nm : Nat) (ba : Option Addr) (bn bc : Nat) (c : Cla) (v : ClV) (sv : Value) (w : World) (hok : c.fit) (ho : HasOps w) (hs : IsSchema w s sv) (hd : DefsAt w l bm nm) (hb : IsClas w bef ba bn bc) (hbn : bn ≤ 1000000000000000) (hc : IsCla w c v) :
    Calls Tryz.prog 29 #[sv, .map (some bm), .slice ba bn bc, .agg #[.int .i64 v.kind, .string v.name, .int .i64 v.x.op, .string v.x.name, .slice v.x.aw v.x.nw v.x.cw, .int .i64 v.x.lo, .int .i64 v.x.hi, .slice v.x.aa v.x.na v.x.ca, .slice v.au v.nu v.cu, .int .i64 v.amount]] w (GivesE (.int .i64 (ccErr s l bef c)) w) := by
  obtain ⟨sa, sn, sc, rfl, hsn⟩ := hs.slice
  have HS := Lib.hid hs
  have HD := Lib.hid hd
  have HC := Lib.hid hc
  have HOK := Lib.hid hok
  have HVA := Lib.hid (fun (W : World) (hW : Ext w W) (g : Nat) (hg : W.heap[g]? = some (.cells v.cells.toArray 38 (0, 0))) => sValid1_calls [c] (some ⟨g, 0, none⟩) 1 1 W (isCla_one hg (hc.mono hW.sub)) (ho.ext hW) (by simpa using hok) (by omega))
  have HFI := Lib.hid (fun (W : World) (hW : Ext w W) => sFind_calls bef ba bn bc v.name W (hb.ext hW) hbn)
  have HIX := Lib.hid (fun (W : World) (hW : Ext w W) => sIndex_calls s (.agg #[.slice sa sn sc]) v.name W (hs.ext hW) hsl)
  have HXE := Lib.hid (fun (e : Ex) (ev : Value) (W : World) (hW : Ext w W) (h1 : e.few) (h2 : e.fits) (he : IsEx W e ev) => cexpression_calls s hse l hf hsl bm nm e ev (.agg #[.slice sa sn sc]) W h1 h2 (ho.ext hW) (hs.ext hW) (hd.ext hW) he)
  rw [clausesB_one] at HVA
  have hnm : v.name = c.name := hc.2.1
  obtain ⟨R, hR⟩ : ∃ R, R = ccErr s l bef c := ⟨_, rfl⟩
  rw [← hR]
  have HR := Lib.hid (show R = if clauseB c = false then 5 else if (findAt bef v.name).isSome then 8 else if (attrAt s v.name).isSome then 8 else nodesErrL s l (condsC c) by rw [hnm]; exact hR)
  clear hnm
  obtain ⟨wa, hwa⟩ : ∃ wa, wa = (w.alloc (.cells #[.slice sa sn sc] 24)).alloc (.cells #[.int .i64 v.kind, .string v.name, .int .i64 v.x.op, .string v.x.name, .slice v.x.aw v.x.nw v.x.cw, .int .i64 v.x.lo, .int .i64 v.x.hi, .slice v.x.aa v.x.na v.x.ca, .slice v.au v.nu v.cu, .int .i64 v.amount] 38) := ⟨_, rfl⟩
  have hxa : Ext w wa := by rw [hwa]; exact ((Ext.refl _).alloc _).alloc _
  have hb0 : wa.heap[w.heap.size]? = some (.cells #[.slice sa sn sc] 24 (0, 0)) := by rw [hwa]; exact blk_alloc (alloc_new w _)
  have hb1 : wa.heap[w.heap.size + 1]? = some (.cells #[.int .i64 v.kind, .string v.name, .int .i64 v.x.op, .string v.x.name, .slice v.x.aw v.x.nw v.x.cw, .int .i64 v.x.lo, .int .i64 v.x.hi, .slice v.x.aa v.x.na v.x.ca, .slice v.au v.nu v.cu, .int .i64 v.amount] 38 (0, 0)) := by rw [hwa]; exact alloc_atR (by simp)
  have HXA := Lib.hid hxa
  have HB0 := Lib.hid hb0
  have HB1 := Lib.hid hb1
  obtain ⟨b0, b1, b2, b3, b4, b5, b6, b7, b8, b9, bf⟩ := blk10r hb1
  have hlt1 := blk_lt hb1
  clear hs hd hc hok hb ho hR hsn hxa hb0 hb1 hf
  go_enter Tryz.func29, Tryz.ntmps29
  go_upto_region 1 with fail
  rw [← hwa]
  clear hwa
  obtain ⟨wx, hwx⟩ : ∃ wx, wx = wa.alloc (.cells #[.int .i64 v.kind, .string v.name, .int .i64 v.x.op, .string v.x.name, .slice v.x.aw v.x.nw v.x.cw, .int .i64 v.x.lo, .int .i64 v.x.hi, .slice v.x.aa v.x.na v.x.ca, .slice v.au v.nu v.cu, .int .i64 v.amount] 38) := ⟨_, rfl⟩
  have hxx : Ext wa wx := by rw [hwx]; exact (Ext.refl _).alloc _
  have HBX := Lib.hid (show wx.heap[wa.heap.size]? = some (.cells v.cells.toArray 38 (0, 0)) by rw [hwx]; exact alloc_new wa _)
  have HXX := Lib.hid (HXA.out.trans hxx)
  have HB0 := Lib.hid (hxx.blk HB0.out)
  have HB1 := Lib.hid (hxx.blk HB1.out)
  clear hxx
  go_wp2_with fail
  rw [← hwx]
  clear hwx
  refine (HVA.out wx HXX.out wa.heap.size HBX.out).mono ?_
  rintro r w3 ⟨rfl, hx3⟩
  have HX3 := Lib.hid (HXX.out.trans hx3)
  have HB03 := Lib.hid (hx3.blk HB0.out)
  have HB13 := Lib.hid (hx3.blk HB1.out)
  clear hx3 b0 b1 b2 b3 b4 b5 b6 b7 b8 b9 bf hlt1 HVA
  obtain ⟨CB, hCB⟩ : ∃ CB, CB = clauseB c := ⟨_, rfl⟩
  rw [← hCB] at HR ⊢
  have HCB := Lib.hid hCB
  clear hCB
  cases CB
  · have HQ := Lib.hid (show R = 5 by rw [HR.out]; rfl)
    go_wp2_with fail
    go_ret
    exact givesE_of (by rw [HQ.out]) HX3.out
  have HR2 := Lib.hid (show R = if (findAt bef v.name).isSome then 8 else if (attrAt s v.name).isSome then 8 else nodesErrL s l (condsC c) by rw [HR.out]; rfl)
  clear HR
  obtain ⟨b0, b1, b2, b3, b4, b5, b6, b7, b8, b9, bf⟩ := blk10r HB13.out
  have hlt1 := blk_lt HB13.out
  obtain ⟨q, hq⟩ : ∃ q, q = (findAt bef v.name).getD 0 := ⟨_, rfl⟩
  obtain ⟨fb, hfb⟩ : ∃ fb, fb = (findAt bef v.name).isSome := ⟨_, rfl⟩
  have HFV := Lib.hid (show optV (findAt bef v.name) = .tuple #[.int .i64 (q : Nat), .bool fb] by rw [hq, hfb]; rfl)
  rw [← hfb] at HR2
  clear hq hfb
  go_wp2_with fail
  refine (HFI.out w3 HX3.out).mono ?_
  rw [HFV.out]
  rintro r w4 ⟨rfl, hx4⟩
  have HX4 := Lib.hid (HX3.out.trans hx4)
  have HB04 := Lib.hid (hx4.blk HB03.out)
  have HB14 := Lib.hid (hx4.blk HB13.out)
  clear hx4 b0 b1 b2 b3 b4 b5 b6 b7 b8 b9 bf hlt1 HFI HFV
  cases fb
  case true =>
    have HQ := Lib.hid (show R = 8 by rw [HR2.out]; rfl)
    go_wp2_with fail
    go_ret
    exact givesE_of (by rw [HQ.out]) HX4.out
  have HR3 := Lib.hid (show R = if (attrAt s v.name).isSome then 8 else nodesErrL s l (condsC c) by rw [HR2.out]; rfl)
  clear HR2
  obtain ⟨a0, af⟩ := blk1 HB04.out
  obtain ⟨b0, b1, b2, b3, b4, b5, b6, b7, b8, b9, bf⟩ := blk10r HB14.out
  have hlt1 := blk_lt HB14.out
  obtain ⟨q, hq⟩ : ∃ q, q = (attrAt s v.name).getD 0 := ⟨_, rfl⟩
  obtain ⟨fb, hfb⟩ : ∃ fb, fb = (attrAt s v.name).isSome := ⟨_, rfl⟩
  have HFV := Lib.hid (show optV (attrAt s v.name) = .tuple #[.int .i64 (q : Nat), .bool fb] by rw [hq, hfb]; rfl)
  rw [← hfb] at HR3
  clear hq hfb
  go_wp2_with fail
  refine (HIX.out w4 HX4.out).mono ?_
  rw [HFV.out]
  rintro r w5 ⟨rfl, hx5⟩
  have HX5 := Lib.hid (HX4.out.trans hx5)
  have HB05 := Lib.hid (hx5.blk HB04.out)
  have HB15 := Lib.hid (hx5.blk HB14.out)
  clear hx5 a0 af b0 b1 b2 b3 b4 b5 b6 b7 b8 b9 bf hlt1 HIX HFV
  cases fb
  case true =>
    have HQ := Lib.hid (show R = 8 by rw [HR3.out]; rfl)
    go_wp2_with fail
    go_ret
    exact givesE_of (by rw [HQ.out]) HX5.out
  have HR4 := Lib.hid (show R = nodesErrL s l (condsC c) by rw [HR3.out]; rfl)
  clear HR3
  obtain ⟨b0, b1, b2, b3, b4, b5, b6, b7, b8, b9, bf⟩ := blk10r HB15.out
  have hlt1 := blk_lt HB15.out
  have hwb := (clause_refs HCB.out.symm).2
  have HRF := Lib.hid (clause_refs HCB.out.symm).1
  have HFT := Lib.hid (condsC_fit HOK.out)
  have HCN := Lib.hid (conditions_calls c v w5 (HC.out.mono HX5.out.sub) (by omega))
  go_wp2_with fail
  refine HCN.out.mono ?_
  rintro r w6 ⟨ea, en, ek, rfl, hen, henk, hed, hx6⟩
  have HX6 := Lib.hid (HX5.out.trans hx6)
  have HB06 := Lib.hid (hx6.blk HB05.out)
  have HED := Lib.hid hed
  have HEN := Lib.hid hen
  have hen2 : en ≤ 41 := by have := condsC_len c; omega
  clear hx6 hed hen b0 b1 b2 b3 b4 b5 b6 b7 b8 b9 bf hlt1 HCN
  go_wp2_with fail
  go_loopw [40] (fun t wr => ∃ k : Nat, t = .int .i64 k ∧ k ≤ en ∧ (∀ j (h : j < (condsC c).length), j < k → nodesErr s l (condsC c)[j] = 0) ∧ wr.heap[w.heap.size]? = some (.cells #[.slice sa sn sc] 24 (0, 0)) ∧ Ext w6 wr) (fun t _ => en - (intOf t).toNat)
  case atStart => exact ⟨0, rfl, by omega, fun j _ h => by omega, HB06.out, Ext.refl _⟩
  case round =>
    obtain ⟨k, rfl, hk, hall, hbx, hxr⟩ := hrel
    have HALL := Lib.hid hall
    have HBX2 := Lib.hid hbx
    have HXR := Lib.hid hxr
    obtain ⟨a0, af⟩ := blk1 hbx
    have hlt0 := blk_lt hbx
    clear hall hbx hxr
    by_cases hkn : k < en
    · have hkl : k < (condsC c).length := by have := HEN.out; omega
      have t1 : decide ((k : Int) < (en : Int)) = true := decide_eq_true (by omega)
      obtain ⟨b, off, rfl, aw1, nw1, cw1, aa1, na1, ca1, h0, h1, h2, h3, h4, h5, h6⟩ := ExsD.at (condsC c) _ (ExsD.ext HXR.out (condsC c) _ HED.out) k hkl
      have hmem := List.getElem_mem hkl
      have HCX := Lib.hid (fun (W : World) (hW : Ext wr W) => HXE.out (condsC c)[k] _ W ((HX6.out.trans HXR.out).trans hW) (HFT.out _ hmem).2 (HFT.out _ hmem).1 (h6.ext hW))
      have HEE := Lib.hid (show exprnErr s l (condsC c)[k] = nodesErr s l (condsC c)[k] by unfold exprnErr; rw [HRF.out _ hmem]; simp)
      have hblt := block_lt h0
      simp only at hblt
      unfold exV at HCX
      clear h6 hmem
      rw [HEE.out] at HCX
      obtain ⟨E1, hE1⟩ : ∃ E1, E1 = nodesErr s l (condsC c)[k] := ⟨_, rfl⟩
      rw [← hE1] at HCX
      have HE1 := Lib.hid hE1
      clear hE1
      go_wp2_with fail
      refine (HCX.out _ ((Ext.refl wr).alloc _)).mono ?_
      rintro r w7 ⟨rfl, hx7⟩
      have HX7 := Lib.hid ((HXR.out.alloc _).trans hx7)
      have HB7 := Lib.hid (hx7.blk (blk_alloc HBX2.out))
      clear hx7 h0 h1 h2 h3 h4 h5 a0 af hlt0 HCX
      by_cases hz1 : E1 = 0
      · have tz1 : (E1 != 0) = false := by simp [hz1]
        have HZ1 := Lib.hid (HE1.out.symm.trans hz1)
        clear hz1
        go_wp2_with fail
        go_roundw
        case rel =>
          refine ⟨k + 1, by go_num, by omega, fun j hj hjk => ?_, HB7.out, HX7.out⟩
          by_cases e0 : j = k
          · subst e0; exact HZ1.out
          · exact HALL.out j hj (by omega)
        case measure => simp [intOf]; omega
      · have tz1 : (E1 != 0) = true := by simp [hz1]
        have HQ := Lib.hid (show R = E1 by rw [HR4.out, nodesErrL_hit (condsC c) k hkl (by rw [← HE1.out]; exact hz1) (fun j hj => HALL.out j (by omega) hj), HE1.out])
        clear hz1
        go_wp2_with fail
        go_ret
        exact givesE_of (by rw [HQ.out]) (HX6.out.trans HX7.out)
    · have t1 : decide ((k : Int) < (en : Int)) = false := decide_eq_false (by omega)
      have HQ := Lib.hid (show R = 0 by rw [HR4.out, nodesErrL_zero (condsC c) fun j hj => HALL.out j hj (by have := HEN.out; omega)])
      go_wp2_with fail
      go_ret
      exact givesE_of (by rw [HQ.out]) (HX6.out.trans HXR.out)
end Go.Proofs.YtfjlglefodndjaaGreatDoor
