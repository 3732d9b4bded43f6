/-
  Texts of the claim, joined: Fmt2, Text1, Parse5, Text2.
-/
import Derived.Test.YtfjlglefodndjaaGreatDoorCc24
import Derived.Test.YtfjlglefodndjaaGreatDoorCc06
namespace Go.Proofs.YtfjlglefodndjaaGreatDoor

/-- The tokens of an argument. -/
def argT (op : Int) (a : Ex) : List Tok := if paren op a.op then [markT 40] ++ tokE a ++ [markT 41] else tokE a
theorem tokArgs_cons (op : Int) (a : Ex) (r : List Ex) : tokArgs op (a :: r) = argT op a ++ tokMore op r := by rw [tokArgs]; rfl
theorem tokMore_cons (op : Int) (a : Ex) (r : List Ex) : tokMore op (a :: r) = nameT (if op = 7 then wAnd else wOr) :: (argT op a ++ tokMore op r) := by rw [tokMore]; simp [argT]

/-- What follows is no word that goes on with an atom. -/
def NoTail (toks : List Tok) (k : Nat) : Prop := acceptB toks k 1 wIn = false ∧ acceptB toks k 1 wFrom = false
theorem noTail_name {toks : List Tok} {k : Nat} {s : ByteArray} (h : ∃ p, toks[k]? = some ⟨(nameT s).kind, (nameT s).text, (nameT s).num, p⟩) (h1 : s ≠ wIn) (h2 : s ≠ wFrom) : NoTail toks k := by
  constructor <;> (rw [accept_at h]; simp [nameT, h1, h2])
theorem noTail_mark {toks : List Tok} {k : Nat} {c : UInt8} (h : ∃ p, toks[k]? = some ⟨(markT c).kind, (markT c).text, (markT c).num, p⟩) : NoTail toks k := by
  constructor <;> (rw [accept_at h]; simp [markT])
theorem wAnd_ne : wAnd ≠ wIn ∧ wAnd ≠ wFrom ∧ wOr ≠ wIn ∧ wOr ≠ wFrom ∧ wOr ≠ wAnd ∧ wNot ≠ wTrue ∧ wNot ≠ wFalse := by decide +kernel
theorem ends_mark {toks : List Tok} {k : Nat} {c : UInt8} (h : ∃ p, toks[k]? = some ⟨(markT c).kind, (markT c).text, (markT c).num, p⟩) : acceptB toks k 1 wAnd = false ∧ acceptB toks k 1 wOr = false := by
  constructor <;> (rw [accept_at h]; simp [markT])

/-- What the tokens of an expression are read as. -/
def Reads (toks : List Tok) (e : Ex) : Prop := ∀ k, AtT toks k (tokE e) → NoTail toks (k + (tokE e).length) →
  (e.op ≠ 7 → e.op ≠ 8 → Gr toks .neg k [] e 0 (k + (tokE e).length)) ∧ (e.op = 7 → acceptB toks (k + (tokE e).length) 1 wAnd = false → Gr toks .ands k [] e 0 (k + (tokE e).length)) ∧
  (e.op = 8 → acceptB toks (k + (tokE e).length) 1 wAnd = false → acceptB toks (k + (tokE e).length) 1 wOr = false → Gr toks .ors k [] e 0 (k + (tokE e).length))

theorem Reads.ands {toks : List Tok} {e : Ex} (h : Reads toks e) (h8 : e.op ≠ 8) {k : Nat} (ha : AtT toks k (tokE e)) (ht : NoTail toks (k + (tokE e).length)) (h1 : acceptB toks (k + (tokE e).length) 1 wAnd = false) : Gr toks .ands k [] e 0 (k + (tokE e).length) := by
  by_cases h7 : e.op = 7
  · exact (h k ha ht).2.1 h7 h1
  · exact Gr.andStop (acc := []) ((h k ha ht).1 h7 h8) h1
theorem Reads.ors {toks : List Tok} {e : Ex} (h : Reads toks e) {k : Nat} (ha : AtT toks k (tokE e)) (ht : NoTail toks (k + (tokE e).length)) (h1 : acceptB toks (k + (tokE e).length) 1 wAnd = false) (h2 : acceptB toks (k + (tokE e).length) 1 wOr = false) : Gr toks .ors k [] e 0 (k + (tokE e).length) := by
  by_cases h8 : e.op = 8
  · exact (h k ha ht).2.2 h8 h1 h2
  · exact Gr.orStop (acc := []) (h.ands h8 ha ht h1) h2
theorem not_mark {toks : List Tok} {k : Nat} {c : UInt8} (h : ∃ p, toks[k]? = some ⟨(markT c).kind, (markT c).text, (markT c).num, p⟩) : acceptB toks k 1 wNot = false := by rw [accept_at h]; simp [markT]
/-- An expression in parentheses. -/
theorem Reads.parens {toks : List Tok} {e : Ex} (h : Reads toks e) {k : Nat} (ha : AtT toks k ([markT 40] ++ tokE e ++ [markT 41])) : Gr toks .neg k [] e 0 (k + ([markT 40] ++ tokE e ++ [markT 41]).length) := by
  rw [AtT.append, AtT.append] at ha
  obtain ⟨⟨h1, h2⟩, h3⟩ := ha
  have ho : ∃ p, toks[k]? = some ⟨(markT 40).kind, (markT 40).text, (markT 40).num, p⟩ := h1.1
  simp only [List.length_singleton] at h2
  have hl : k + ([markT 40] ++ tokE e).length = k + 1 + (tokE e).length := by simp; omega
  rw [hl] at h3
  have hc : ∃ p, toks[k + 1 + (tokE e).length]? = some ⟨(markT 41).kind, (markT 41).text, (markT 41).num, p⟩ := h3.1
  have hg := h.ors h2 (noTail_mark hc) (ends_mark hc).1 (ends_mark hc).2
  have := Gr.negAtom (not_mark ho) (Gr.parenOk (by rw [accept_at ho]; simp [markT]) hg (by rw [accept_at hc]; simp [markT]))
  rw [show k + ([markT 40] ++ tokE e ++ [markT 41]).length = k + 1 + (tokE e).length + 1 by simp; omega]
  exact this
/-- An argument of not, or of and. -/
theorem Reads.argNeg {toks : List Tok} {e : Ex} (h : Reads toks e) {op : Int} (hop : op ≠ 8) {k : Nat} (ha : AtT toks k (argT op e)) (ht : NoTail toks (k + (argT op e).length)) : Gr toks .neg k [] e 0 (k + (argT op e).length) := by
  unfold argT at *
  by_cases hp : paren op e.op = true
  · rw [if_pos hp] at *
    exact h.parens ha
  · rw [if_neg hp] at *
    simp only [paren, Bool.or_eq_true, Bool.and_eq_true, beq_iff_eq, bne_iff_ne, not_or, not_and] at hp
    exact (h k ha ht).1 (fun e7 => hp.2 e7 hop) hp.1
/-- An argument of or. -/
theorem Reads.argAnds {toks : List Tok} {e : Ex} (h : Reads toks e) {k : Nat} (ha : AtT toks k (argT 8 e)) (ht : NoTail toks (k + (argT 8 e).length)) (h1 : acceptB toks (k + (argT 8 e).length) 1 wAnd = false) : Gr toks .ands k [] e 0 (k + (argT 8 e).length) := by
  unfold argT at *
  by_cases hp : paren 8 e.op = true
  · rw [if_pos hp] at *
    exact Gr.andStop (acc := []) (h.parens ha) h1
  · rw [if_neg hp] at *
    simp only [paren, Bool.or_eq_true, Bool.and_eq_true, beq_iff_eq, bne_iff_ne, not_or, not_and] at hp
    exact h.ands hp.1 ha ht h1

/-- Arguments of and. -/
theorem ands_read {toks : List Tok} : (r : List Ex) → (a : Ex) → (∀ x ∈ a :: r, Reads toks x) → (acc : List Ex) → (k : Nat) → AtT toks k (argT 7 a ++ tokMore 7 r) → NoTail toks (k + (argT 7 a ++ tokMore 7 r).length) → acceptB toks (k + (argT 7 a ++ tokMore 7 r).length) 1 wAnd = false →
    Gr toks .ands k acc (joinE 7 (acc ++ a :: r)) 0 (k + (argT 7 a ++ tokMore 7 r).length)
  | [], a, hr, acc, k, ha, ht, h1 => by
    simp only [tokMore, List.append_nil] at *
    exact Gr.andStop ((hr a (by simp)).argNeg (by decide) ha ht) h1
  | b :: r, a, hr, acc, k, ha, ht, h1 => by
    rw [tokMore_cons, if_pos rfl, AtT.append] at ha
    obtain ⟨ha1, hw, ha2⟩ := ha
    have hlen : k + (argT 7 a ++ tokMore 7 (b :: r)).length = k + (argT 7 a).length + 1 + (argT 7 b ++ tokMore 7 r).length := by rw [tokMore_cons]; simp; omega
    rw [hlen] at ht h1 ⊢
    have hg := (hr a (by simp)).argNeg (op := 7) (by decide) ha1 (noTail_name hw wAnd_ne.1 wAnd_ne.2.1)
    have ih := ands_read r b (fun x hx => hr x (List.mem_cons_of_mem _ hx)) (acc ++ [a]) (k + (argT 7 a).length + 1) ha2 ht h1
    refine Gr.andStep hg (by rw [accept_at hw]; simp [nameT]) ?_
    simpa using ih
/-- Arguments of or. -/
theorem ors_read {toks : List Tok} : (r : List Ex) → (a : Ex) → (∀ x ∈ a :: r, Reads toks x) → (acc : List Ex) → (k : Nat) → AtT toks k (argT 8 a ++ tokMore 8 r) → NoTail toks (k + (argT 8 a ++ tokMore 8 r).length) → acceptB toks (k + (argT 8 a ++ tokMore 8 r).length) 1 wAnd = false → acceptB toks (k + (argT 8 a ++ tokMore 8 r).length) 1 wOr = false →
    Gr toks .ors k acc (joinE 8 (acc ++ a :: r)) 0 (k + (argT 8 a ++ tokMore 8 r).length)
  | [], a, hr, acc, k, ha, ht, h1, h2 => by
    simp only [tokMore, List.append_nil] at *
    exact Gr.orStop ((hr a (by simp)).argAnds ha ht h1) h2
  | b :: r, a, hr, acc, k, ha, ht, h1, h2 => by
    rw [tokMore_cons, if_neg (by decide), AtT.append] at ha
    obtain ⟨ha1, hw, ha2⟩ := ha
    have hlen : k + (argT 8 a ++ tokMore 8 (b :: r)).length = k + (argT 8 a).length + 1 + (argT 8 b ++ tokMore 8 r).length := by rw [tokMore_cons]; simp; omega
    rw [hlen] at ht h1 h2 ⊢
    have hg := (hr a (by simp)).argAnds ha1 (noTail_name hw wAnd_ne.2.2.1 wAnd_ne.2.2.2.1) (by rw [accept_at hw]; simp [nameT, wAnd_ne.2.2.2.2.1])
    have ih := ors_read r b (fun x hx => hr x (List.mem_cons_of_mem _ hx)) (acc ++ [a]) (k + (argT 8 a).length + 1) ha2 ht h1 h2
    refine Gr.orStep hg (by rw [accept_at hw]; simp [nameT]) ?_
    simpa using ih
theorem okTrees_mem {l : List Ex} (h : okTrees l) : ∀ x ∈ l, okTree x := by
  induction l with
  | nil => intro x hx; simp at hx
  | cons e r ih =>
    unfold okTrees at h
    intro x hx
    rcases List.mem_cons.1 hx with rfl | hx
    · exact h.1
    · exact ih h.2 x hx
theorem operand_gr {toks : List Tok} {k : Nat} {e : Ex} {n : Nat} (h1 : acceptB toks k 4 ⟨#[40]⟩ = false) (h2 : acceptB toks k 1 wNot = false) (h3 : operandF toks k = (⟨e, 1, 1⟩, 0, n)) : Gr toks .neg k [] e 0 n := by
  have := Gr.negAtom h2 (Gr.operand h1)
  rw [h3] at this
  exact this
theorem name_start {toks : List Tok} {k : Nat} {s : ByteArray} (h : ∃ p, toks[k]? = some ⟨(nameT s).kind, (nameT s).text, (nameT s).num, p⟩) (hs : s ≠ wNot) : acceptB toks k 4 ⟨#[40]⟩ = false ∧ acceptB toks k 1 wNot = false := by
  constructor <;> (rw [accept_at h]; simp [nameT, hs])
theorem reads_ok (toks : List Tok) (m : Nat) : ∀ e : Ex, e.size ≤ m → okTree e → Reads toks e := by
  induction m with
  | zero => intro e h; have := e.size_eq; omega
  | succ m ih =>
    intro e hm hok k ha ht
    have hsz := e.size_eq
    have hargs : ∀ x ∈ e.args, Reads toks x := fun x hx => ih x (by have := sizes_mem hx; omega) (by
      cases e; unfold okTree at hok; exact okTrees_mem hok.2 x hx)
    have hnode : okNode e := by cases e; unfold okTree at hok; exact hok.1
    obtain ⟨op, name, words, lo, hi, args⟩ := e
    simp only [Ex.op, Ex.name, Ex.words, Ex.lo, Ex.hi, Ex.args, okNode] at hnode hargs ⊢
    rcases hnode with ⟨rfl, rfl, rfl, rfl, rfl, rfl⟩ | ⟨rfl, rfl, rfl, rfl, rfl, rfl⟩ | ⟨rfl, hn, rfl, rfl, rfl, rfl⟩ | ⟨rfl, hn, hw, rfl, rfl, rfl⟩ | ⟨rfl, hn, rfl, hl, hh, hlh, rfl⟩ | ⟨rfl, rfl, rfl, rfl, rfl, hl⟩ | ⟨hop, rfl, rfl, rfl, rfl, hl⟩
    · refine ⟨fun _ _ => ?_, fun h => by simp at h, fun h => by simp at h⟩
      simp only [tokE, if_true, AtT] at ha ⊢
      have hs := name_start ha.1 (by decide +kernel)
      exact operand_gr hs.1 hs.2 (by rw [operandF, if_pos (by rw [accept_at ha.1]; simp [nameT])]; rfl)
    · refine ⟨fun _ _ => ?_, fun h => by simp at h, fun h => by simp at h⟩
      have e0 : tokE (.mk 2 ⟨#[]⟩ [] 0 0 []) = [nameT wFalse] := by simp [tokE]
      rw [e0] at ha ⊢
      simp only [AtT] at ha
      have hs := name_start ha.1 (by decide +kernel)
      exact operand_gr hs.1 hs.2 (by rw [operandF, if_neg (by rw [accept_at ha.1]; simp [nameT, (by decide +kernel : wFalse ≠ wTrue)]), if_pos (by rw [accept_at ha.1]; simp [nameT])]; rfl)
    · refine ⟨fun _ _ => ?_, fun h => by simp at h, fun h => by simp at h⟩
      have e0 : tokE (.mk 3 name [] 0 0 []) = [nameT name] := by simp [tokE]
      rw [e0] at ha ht ⊢
      simp only [AtT] at ha
      obtain ⟨n1, n2, n3, _⟩ := nameB_word hn
      have hs := name_start ha.1 n3
      refine operand_gr hs.1 hs.2 ?_
      rw [operandF, if_neg (by rw [accept_at ha.1]; simp [nameT, n1]), if_neg (by rw [accept_at ha.1]; simp [nameT, n2]), if_neg (by rw [nameTok_at ha.1]; simp [nameT, hn]), if_neg (by have := ht.1; simp at this; simp [this]), if_neg (by have := ht.2; simp at this; simp [this]), text_at ha.1]
      rfl
    · refine ⟨fun _ _ => ?_, fun h => by simp at h, fun h => by simp at h⟩
      have e0 : tokE (.mk 4 name words 0 0 []) = [nameT name, nameT wIn, markT 40] ++ (listedT words ++ [markT 41]) := by simp [tokE]
      rw [e0, AtT.append] at ha
      rw [e0] at ht ⊢
      obtain ⟨⟨a1, a2, a3, _⟩, a4⟩ := ha
      obtain ⟨n1, n2, n3, _⟩ := nameB_word hn
      have hs := name_start a1 n3
      simp only [wordsB, Bool.and_eq_true, bne_iff_ne, decide_eq_true_eq, List.all_eq_true] at hw
      have hlist : listF toks (k + 2) = (words, 0, k + ([nameT name, nameT wIn, markT 40] ++ (listedT words ++ [markT 41])).length) := by
        rw [listF, if_pos (by rw [accept_at a3]; simp [markT]), list_read words (fun e => hw.1.1.1 (by rw [e]; rfl)) (k + 3) 14 [] a4 (by simpa using hw.1.1.2) hw.1.2 (by simpa using hw.2) (by have := hw.1.1.2; omega)]
        simp
        omega
      refine operand_gr hs.1 hs.2 ?_
      rw [operandF, if_neg (by rw [accept_at a1]; simp [nameT, n1]), if_neg (by rw [accept_at a1]; simp [nameT, n2]), if_neg (by rw [nameTok_at a1]; simp [nameT, hn]), if_pos (by rw [accept_at a2]; simp [nameT]), hlist, text_at a1]
      rfl
    · refine ⟨fun _ _ => ?_, fun h => by simp at h, fun h => by simp at h⟩
      have e0 : tokE (.mk 5 name [] lo hi []) = [nameT name, nameT wFrom, numT lo, nameT wTo, numT hi] := by simp [tokE]
      rw [e0] at ha ht ⊢
      obtain ⟨a1, a2, ⟨p3, a3⟩, a4, ⟨p5, a5⟩, _⟩ := ha
      obtain ⟨n1, n2, n3, _⟩ := nameB_word hn
      have hs := name_start a1 n3
      have hb1 : boundF toks (k + 2) (-1000000000) = (lo, 0, k + 3) := by
        have hlo : -1000000000 ≤ lo := by simp [numberB] at hl; exact hl.1
        rw [boundF, a3]
        simp [numT, hl, hlo]
      have hb2 : boundF toks (k + 4) lo = (hi, 0, k + 5) := by
        rw [boundF, a5]
        simp [numT, hh, hlh]
      have hint : intervalF toks (k + 2) = (lo, hi, 0, k + 5) := by
        unfold intervalF
        simp only [hb1]
        rw [if_neg (by simp), if_neg (by rw [show (⟨#[116, 111]⟩ : ByteArray) = wTo from rfl, accept_at a4]; simp [nameT])]
        simp only [hb2]
      refine operand_gr hs.1 hs.2 ?_
      rw [operandF, if_neg (by rw [accept_at a1]; simp [nameT, n1]), if_neg (by rw [accept_at a1]; simp [nameT, n2]), if_neg (by rw [nameTok_at a1]; simp [nameT, hn]), if_neg (by rw [accept_at a2]; simp [nameT, (by decide +kernel : wFrom ≠ wIn)]), if_pos (by rw [accept_at a2]; simp [nameT]), hint, text_at a1]
      rfl
    · refine ⟨fun _ _ => ?_, fun h => by simp at h, fun h => by simp at h⟩
      obtain ⟨x, rfl⟩ : ∃ x, args = [x] := by
        match args, hl with
        | [x], _ => exact ⟨x, rfl⟩
      have e0 : tokE (.mk 6 ⟨#[]⟩ [] 0 0 [x]) = nameT wNot :: argT 6 x := by
        rw [tokE]; simp [tokArgs_cons, tokMore]
      rw [e0] at ha ht ⊢
      have hlen : k + (nameT wNot :: argT 6 x).length = k + 1 + (argT 6 x).length := by simp; omega
      rw [hlen] at ht ⊢
      exact Gr.notOk (by rw [accept_at ha.1]; simp [nameT]) ((hargs x (by simp)).argNeg (by decide) ha.2 ht)
    · obtain ⟨a, b, r, rfl⟩ : ∃ a b r, args = a :: b :: r := by
        match args, hl with
        | a :: b :: r, _ => exact ⟨a, b, r, rfl⟩
      rcases hop with rfl | rfl
      · have e0 : tokE (.mk 7 ⟨#[]⟩ [] 0 0 (a :: b :: r)) = argT 7 a ++ tokMore 7 (b :: r) := by rw [tokE]; simp [tokArgs_cons]
        rw [e0] at ha ht ⊢
        exact ⟨fun h => absurd rfl h, fun _ h1 => ands_read (b :: r) a hargs [] k ha ht h1, fun h => by simp at h⟩
      · have e0 : tokE (.mk 8 ⟨#[]⟩ [] 0 0 (a :: b :: r)) = argT 8 a ++ tokMore 8 (b :: r) := by rw [tokE]; simp [tokArgs_cons]
        rw [e0] at ha ht ⊢
        exact ⟨fun _ h => absurd rfl h, fun h => by simp at h, fun _ h1 h2 => ors_read (b :: r) a hargs [] k ha ht h1 h2⟩
/-- The tokens of an expression at the end of a list are read as the expression. -/
theorem run_ok {toks : List Tok} {e : Ex} {k : Nat} (hok : okTree e) (ha : AtT toks k (tokE e)) (hend : toks.length ≤ k + (tokE e).length) : run toks true k [] lvl0 = (partOf e, 0, k + (tokE e).length) := by
  have hno : ∀ kind text, acceptB toks (k + (tokE e).length) kind text = false := fun kind text => by rw [acceptB, List.getElem?_eq_none hend]
  have := Gr.run ((reads_ok toks e.size e (Nat.le_refl _) hok).ors ha ⟨hno _ _, hno _ _⟩ (hno _ _) (hno _ _))
  simpa using this
end Go.Proofs.YtfjlglefodndjaaGreatDoor

namespace Go.Proofs.YtfjlglefodndjaaGreatDoor

/-- These bytes stand in a text from an offset on. -/
def AtB (s : ByteArray) : Nat → List UInt8 → Prop
  | _, [] => True
  | i, c :: r => (∃ h : i < s.size, s[i] = c) ∧ AtB s (i + 1) r
theorem AtB.append {s : ByteArray} : (a b : List UInt8) → (i : Nat) → AtB s i (a ++ b) ↔ AtB s i a ∧ AtB s (i + a.length) b
  | [], b, i => by simp [AtB]
  | c :: r, b, i => by
    simp only [List.cons_append, AtB, AtB.append r b (i + 1), List.length_cons]
    rw [show i + 1 + r.length = i + (r.length + 1) by omega]
    exact and_assoc.symm
theorem AtB.get {s : ByteArray} : (b : List UInt8) → (i : Nat) → AtB s i b → ∀ j (hj : j < b.length), ∃ h : i + j < s.size, s[i + j] = b[j]
  | [], i, _, j, hj => by simp at hj
  | c :: r, i, h, 0, _ => by simpa using h.1
  | c :: r, i, h, j + 1, hj => by
    obtain ⟨h1, h2⟩ := AtB.get r (i + 1) h.2 j (by simpa using hj)
    have e : i + 1 + j = i + (j + 1) := by omega
    simp only [e] at h2
    exact ⟨by omega, by simpa using h2⟩
theorem AtB.of_get {s : ByteArray} : (b : List UInt8) → (i : Nat) → (∀ j (hj : j < b.length), ∃ h : i + j < s.size, s[i + j] = b[j]) → AtB s i b
  | [], i, _ => trivial
  | c :: r, i, h => by
    obtain ⟨g1, g2⟩ := h 0 (by simp)
    refine ⟨⟨by simpa using g1, by simpa using g2⟩, AtB.of_get r (i + 1) fun j hj => ?_⟩
    obtain ⟨h1, h2⟩ := h (j + 1) (by simpa using hj)
    have e : i + (j + 1) = i + 1 + j := by omega
    simp only [e] at h2
    exact ⟨by omega, by simpa using h2⟩
theorem AtB.le {s : ByteArray} : (b : List UInt8) → (i : Nat) → i ≤ s.size → AtB s i b → i + b.length ≤ s.size
  | [], i, hi, _ => by simpa using hi
  | c :: r, i, _, h => by
    obtain ⟨h1, _⟩ := h.1
    have := AtB.le r (i + 1) h1 h.2
    simp; omega
theorem atB_self (b : List UInt8) : AtB ⟨b.toArray⟩ 0 b := AtB.of_get b 0 fun j hj => by
  have h : 0 + j < (⟨b.toArray⟩ : ByteArray).size := by simp [ByteArray.size]; omega
  refine ⟨h, ?_⟩
  simp [ByteArray.getElem_eq_getElem_data]
theorem AtB.extract {s : ByteArray} {b : List UInt8} {i : Nat} (h : AtB s i b) (hi : i ≤ s.size) : s.extract i (i + b.length) = ⟨b.toArray⟩ := by
  have hle := AtB.le b i hi h
  apply ByteArray.ext
  apply Array.ext
  · rw [ByteArray.data_extract]
    simp only [Array.size_extract, List.size_toArray]
    have : s.data.size = s.size := rfl
    omega
  · intro j h1 h2
    obtain ⟨h3, h4⟩ := AtB.get b i h j (by simpa using h2)
    simp only [ByteArray.data_extract, Array.getElem_extract, List.getElem_toArray]
    rw [← h4]; rfl
theorem AtB.byte {s : ByteArray} {c : UInt8} {r : List UInt8} {i : Nat} (h : AtB s i (c :: r)) : byteAt s i = (c.toNat : Int) := by
  obtain ⟨h1, h2⟩ := h.1
  rw [byteAt_lt h1, h2]
theorem AtB.span {p : Int → Bool} {s : ByteArray} : (b : List UInt8) → (i : Nat) → AtB s i b → (∀ c ∈ b, p (c.toNat : Int) = true) → p (byteAt s (i + b.length)) = false → spanF p s (s.size - i) i = i + b.length
  | [], i, _, _, h => by
    simp only [List.length_nil, Nat.add_zero] at *
    by_cases hi : i < s.size
    · rw [byteAt_lt hi] at h; exact spanF_stop hi h
    · exact spanF_end hi
  | c :: r, i, h, hall, hend => by
    obtain ⟨⟨h1, h2⟩, h3⟩ := h
    have e : i + (c :: r).length = i + 1 + r.length := by simp; omega
    rw [e] at hend ⊢
    rw [spanF_step h1 (by rw [h2]; exact hall c (by simp)), AtB.span r (i + 1) h3 (fun x hx => hall x (List.mem_cons_of_mem _ hx)) hend]

/-- A word is read as one. -/
theorem tokenF_word {s t : ByteArray} {i : Nat} (hw : wordB t = true) (ha : AtB s i t.data.toList) (hi : i ≤ s.size) (hn : inWordB (byteAt s (i + t.data.toList.length)) = false) : tokenF s i = (⟨1, t, 0, i⟩, ((i + t.data.toList.length : Nat) : Int), 0) := by
  have hsp := AtB.span (p := inWordB) t.data.toList i ha (fun c hc => by
    simp only [wordB, Bool.and_eq_true, beq_iff_eq] at hw
    obtain ⟨j, hj, rfl⟩ := List.getElem_of_mem hc
    have hj' : j < t.size := by simpa using hj
    have := spanF_all inWordB t t.size 0 j hj' (by omega) (by rw [hw.2]; exact hj')
    simpa [ByteArray.getElem_eq_getElem_data] using this) hn
  have hex := ha.extract hi
  have et : (⟨t.data.toList.toArray⟩ : ByteArray) = t := by cases t; simp
  rw [et] at hex
  have hl : letterB (byteAt s i) = true := by
    have hw' := hw
    simp only [wordB, Bool.and_eq_true, bne_iff_ne] at hw'
    obtain ⟨⟨⟨⟨h0, _⟩, h1⟩, _⟩, _⟩ := hw'
    have h0' : 0 < t.size := by omega
    obtain ⟨h3, h4⟩ := AtB.get _ i ha 0 (by simpa using h0')
    rw [byteAt_lt h0'] at h1
    have h3' : i < s.size := by simpa using h3
    have h4' : s[i] = t[0] := by simpa [ByteArray.getElem_eq_getElem_data] using h4
    rw [byteAt_lt h3', h4']; exact h1
  rw [tokenF, if_pos hl, hsp, hex, if_pos hw]

/-- The digits of a number. -/
def digs : Nat → Nat → List UInt8
  | 0, _ => []
  | f + 1, n => if n < 10 then [UInt8.ofNat (48 + n)] else digs f (n / 10) ++ [UInt8.ofNat (48 + n % 10)]
/-- A number in decimal. -/
def decB (n : Int) : List UInt8 := if n < 0 then 45 :: digs 20 n.natAbs else digs 20 n.natAbs
def isDig (c : UInt8) : Prop := 48 ≤ c.toNat ∧ c.toNat ≤ 57
theorem isDig_of {n : Nat} (h : n < 10) : isDig (UInt8.ofNat (48 + n)) := by
  have : (UInt8.ofNat (48 + n)).toNat = 48 + n := by rw [UInt8.toNat_ofNat']; omega
  unfold isDig; omega
theorem digs_all : (f n : Nat) → ∀ c ∈ digs f n, isDig c
  | 0, n, c, h => by simp [digs] at h
  | f + 1, n, c, h => by
    rw [digs] at h
    split at h
    · rename_i hn; rw [List.mem_singleton.1 h]; exact isDig_of hn
    · rcases List.mem_append.1 h with h | h
      · exact digs_all f _ c h
      · rw [List.mem_singleton.1 h]; exact isDig_of (by omega)
def valD (n : Int) (b : List UInt8) : Int := b.foldl (fun a c => a * 10 + ((c.toNat : Int) - 48)) n
theorem valD_digs : (f n : Nat) → n < 10 ^ f → valD 0 (digs f n) = n
  | 0, n, h => by simp at h; simp [digs, valD, h]
  | f + 1, n, h => by
    rw [digs]
    split
    · rename_i hn
      have : (UInt8.ofNat (48 + n)).toNat = 48 + n := by rw [UInt8.toNat_ofNat']; omega
      simp only [valD, List.foldl_cons, List.foldl_nil, this]; omega
    · have h1 : n / 10 < 10 ^ f := by rw [Nat.pow_succ] at h; omega
      have ih := valD_digs f (n / 10) h1
      have : (UInt8.ofNat (48 + n % 10)).toNat = 48 + n % 10 := by rw [UInt8.toNat_ofNat']; omega
      unfold valD at *
      rw [List.foldl_append, ih]
      simp only [List.foldl_cons, List.foldl_nil, this]; omega
theorem valD_ge : (b : List UInt8) → (n : Int) → 0 ≤ n → (∀ c ∈ b, isDig c) → n ≤ valD n b
  | [], n, _, _ => by simp [valD]
  | c :: r, n, h, hall => by
    have hc := hall c (by simp)
    unfold isDig at hc
    have := valD_ge r (n * 10 + ((c.toNat : Int) - 48)) (by omega) (fun x hx => hall x (List.mem_cons_of_mem _ hx))
    simp only [valD, List.foldl_cons] at this ⊢
    omega
theorem digs_ne (f n : Nat) : digs (f + 1) n ≠ [] := by
  rw [digs]; split <;> simp
theorem digs_head : (f n : Nat) → 0 < n → n < 10 ^ f → ∃ c r, digs f n = c :: r ∧ c.toNat ≠ 48
  | 0, n, h, h2 => by simp at h2; omega
  | f + 1, n, h, h2 => by
    rw [digs]
    split
    · rename_i hn
      have : (UInt8.ofNat (48 + n)).toNat = 48 + n := by rw [UInt8.toNat_ofNat']; omega
      exact ⟨_, _, rfl, by omega⟩
    · obtain ⟨c, r, h3, h4⟩ := digs_head f (n / 10) (by omega) (by rw [Nat.pow_succ] at h2; omega)
      exact ⟨c, r ++ _, by rw [h3]; rfl, h4⟩
theorem decF_digits {s : ByteArray} : (b : List UInt8) → (k : Nat) → (n : Int) → AtB s k b → k + b.length = s.size → 0 ≤ n → (∀ c ∈ b, isDig c) → valD n b ≤ 17592186044416 → decF s (s.size - k) k n = some (valD n b)
  | [], k, n, _, hk, _, _, _ => by rw [decF_end (by simp at hk; omega)]; simp [valD]
  | c :: r, k, n, h, hk, hn, hall, hv => by
    obtain ⟨⟨h1, h2⟩, h3⟩ := h
    have hc := hall c (by simp)
    unfold isDig at hc
    have hr : ∀ x ∈ r, isDig x := fun x hx => hall x (List.mem_cons_of_mem _ hx)
    have hge := valD_ge r (n * 10 + ((c.toNat : Int) - 48)) (by omega) hr
    have e : valD n (c :: r) = valD (n * 10 + ((c.toNat : Int) - 48)) r := rfl
    rw [e] at hv ⊢
    rw [decF_step h1 (by rw [h2]; omega), h2]
    exact decF_digits r (k + 1) _ h3 (by simp at hk; omega) (by omega) hr hv
theorem numOf_digits (neg : Bool) {m : Nat} (hm : m ≤ 17592186044416) (h0 : neg = true → 0 < m) : numOf neg ⟨(digs 20 m).toArray⟩ = (if neg then -(m : Int) else m, 0) := by
  have hp : m < 10 ^ 20 := by omega
  have hat := atB_self (digs 20 m)
  have hsz : (⟨(digs 20 m).toArray⟩ : ByteArray).size = (digs 20 m).length := by simp [ByteArray.size]
  have hne : (digs 20 m).length ≠ 0 := fun h => digs_ne 19 m (List.eq_nil_of_length_eq_zero h)
  have hd := decF_digits (digs 20 m) 0 0 hat (by rw [hsz]; omega) (by omega) (digs_all 20 m) (by rw [valD_digs 20 m hp]; omega)
  rw [valD_digs 20 m hp] at hd
  rw [numOf, if_neg, hd]
  rintro (h | ⟨h1, h2⟩)
  · omega
  · rcases Nat.eq_zero_or_pos m with rfl | hpos
    · rcases h2 with h2 | h2
      · have := h0 h2; omega
      · rw [hsz] at h2; revert h2; decide
    · obtain ⟨c, r, h3, h4⟩ := digs_head 20 m hpos hp
      rw [h3] at hat h1
      rw [hat.byte] at h1
      exact h4 (by omega)
theorem toNat_inj {a b : UInt8} (h : a.toNat = b.toNat) : a = b := UInt8.toNat_inj.1 h
/-- A number is read as one. -/
theorem tokenF_number {s : ByteArray} {n : Int} {i : Nat} (h1 : -17592186044416 ≤ n) (h2 : n ≤ 17592186044416) (ha : AtB s i (decB n)) (hi : i ≤ s.size) (hn : inWordB (byteAt s (i + (decB n).length)) = false) : tokenF s i = (⟨2, ⟨#[]⟩, n, i⟩, ((i + (decB n).length : Nat) : Int), 0) := by
  have hnd : digitB (byteAt s (i + (decB n).length)) = false := by simp [inWordB] at hn; simp [hn]
  have hdig : ∀ c ∈ digs 20 n.natAbs, digitB (c.toNat : Int) = true := fun c hc => by have := digs_all _ _ c hc; unfold isDig at this; simp [digitB]; omega
  have hex := ha.extract hi
  obtain ⟨c, r, hcr⟩ : ∃ c r, digs 20 n.natAbs = c :: r := by
    cases h : digs 20 n.natAbs with
    | nil => exact absurd h (digs_ne 19 _)
    | cons c r => exact ⟨c, r, rfl⟩
  have hc : isDig c := digs_all 20 n.natAbs c (by rw [hcr]; simp)
  unfold isDig at hc
  by_cases hneg : n < 0
  · have e : decB n = 45 :: digs 20 n.natAbs := by rw [decB, if_pos hneg]
    rw [e] at ha hex hnd ⊢
    have hb := ha.byte
    have hsp := AtB.span (p := digitB) (digs 20 n.natAbs) (i + 1) ha.2 hdig (by simpa [Nat.add_assoc, Nat.add_comm 1] using hnd)
    have e2 : i + (45 :: digs 20 n.natAbs).length = i + 1 + (digs 20 n.natAbs).length := by simp; omega
    rw [e2] at hex ⊢
    have hnum : numberF (⟨(45 :: digs 20 n.natAbs).toArray⟩ : ByteArray) = (n, 0) := by
      have ha2 := atB_self (45 :: digs 20 n.natAbs)
      rw [numberF, if_pos (by rw [ha2.byte]; rfl)]
      have h3 := AtB.extract (s := ⟨(45 :: digs 20 n.natAbs).toArray⟩) (i := 1) ha2.2 (by simp [ByteArray.size])
      rw [show (⟨(45 :: digs 20 n.natAbs).toArray⟩ : ByteArray).size = 1 + (digs 20 n.natAbs).length by simp [ByteArray.size]; omega, h3, numOf_digits true (by omega) (by omega)]
      simp; omega
    rw [tokenF, if_neg (by rw [hb]; decide), if_pos (by rw [hb]; decide), hsp, hex, hnum, if_pos rfl]
  · have e : decB n = digs 20 n.natAbs := by rw [decB, if_neg hneg]
    rw [e] at ha hex hnd ⊢
    have ha' := ha
    rw [hcr] at ha'
    have hb := ha'.byte
    have hsp := AtB.span (p := digitB) r (i + 1) ha'.2 (fun x hx => hdig x (by rw [hcr]; exact List.mem_cons_of_mem _ hx)) (by rw [hcr] at hnd; simpa [Nat.add_assoc, Nat.add_comm 1] using hnd)
    have e2 : i + (digs 20 n.natAbs).length = i + 1 + r.length := by rw [hcr]; simp; omega
    rw [e2] at hex ⊢
    have hnum : numberF (⟨(digs 20 n.natAbs).toArray⟩ : ByteArray) = (n, 0) := by
      have ha2 := atB_self (digs 20 n.natAbs)
      rw [hcr] at ha2
      rw [numberF, if_neg (by rw [hcr, ha2.byte]; omega), numOf_digits false (by omega) (by simp)]
      simp; omega
    have hdg : digitB (byteAt s i) = true := by rw [hb]; simp [digitB]; omega
    have hlt : letterB (byteAt s i) = false := by rw [hb]; simp [letterB]; omega
    rw [tokenF, if_neg (by rw [hlt]; simp), if_pos (by rw [hdg]; rfl), hsp, hex, hnum, if_pos rfl]
/-- A mark is read as one. -/
theorem tokenF_mark {s : ByteArray} {c : UInt8} {i : Nat} (hm : markB (c.toNat : Int) = true) (ha : AtB s i [c]) (hi : i ≤ s.size) : tokenF s i = (⟨4, ⟨#[c]⟩, 0, i⟩, ((i + 1 : Nat) : Int), 0) := by
  have hex := ha.extract hi
  have hb := ha.byte
  simp only [List.length_singleton] at hex
  have hc : c.toNat = 59 ∨ c.toNat = 58 ∨ c.toNat = 44 ∨ c.toNat = 40 ∨ c.toNat = 41 := by simp [markB] at hm; omega
  rw [tokenF, if_neg (by rw [hb]; simp [letterB]; omega), if_neg (by rw [hb]; simp [digitB]; omega), if_pos (by rw [hb]; exact hm), hex]
end Go.Proofs.YtfjlglefodndjaaGreatDoor

namespace Go.Proofs.YtfjlglefodndjaaGreatDoor
open Go.RowKit

/-- What the scanner makes of a text. -/
def scanAll (s : ByteArray) : List Tok × Int × Int := if 16384 < s.size then ([], 0, 4) else scanF s s.size 0 []
def ParseQ (e : Ex) (er : Int) (M : List Nat) (w : World) (r : Ending) (w' : World) : Prop := ∃ (x : ExV) (off : Int), r = .returned (.tuple #[x.val, .int .i64 off, .int .i64 er]) ∧ IsEx (mask w' M) e x.val ∧ (er = 0 → off = 0) ∧ Ext w w'

end Go.Proofs.YtfjlglefodndjaaGreatDoor

namespace Go.Proofs.YtfjlglefodndjaaGreatDoor

/-- A piece of a text: a blank, or a token. -/
inductive Pc where
  | sp
  | tk (t : Tok)
def tokB (t : Tok) : List UInt8 := if t.kind = 2 then decB t.num else t.text.data.toList
def Pc.bytes : Pc → List UInt8
  | .sp => [32]
  | .tk t => tokB t
def pcsB (l : List Pc) : List UInt8 := l.flatMap Pc.bytes
def toksOf : List Pc → List Tok
  | [] => []
  | .sp :: r => toksOf r
  | .tk t :: r => t :: toksOf r
theorem pcsB_append (a b : List Pc) : pcsB (a ++ b) = pcsB a ++ pcsB b := by simp [pcsB]
theorem toksOf_append : (a b : List Pc) → toksOf (a ++ b) = toksOf a ++ toksOf b
  | [], b => rfl
  | .sp :: r, b => by simp [toksOf, toksOf_append r b]
  | .tk t :: r, b => by simp [toksOf, toksOf_append r b]
/-- A token that can be written. -/
def goodT (t : Tok) : Prop := t.pos = 0 ∧ ((t.kind = 1 ∧ wordB t.text = true ∧ t.num = 0) ∨ (t.kind = 2 ∧ t.text = ⟨#[]⟩ ∧ -17592186044416 ≤ t.num ∧ t.num ≤ 17592186044416) ∨ (t.kind = 4 ∧ t.num = 0 ∧ ∃ c : UInt8, t.text = ⟨#[c]⟩ ∧ markB (c.toNat : Int) = true))
/-- Between two tokens of which none is a mark there is a blank. -/
def sepA : Bool → List Pc → Bool
  | _, [] => true
  | _, .sp :: r => sepA false r
  | p, .tk t :: r => (!p || t.kind == 4) && sepA (t.kind != 4) r
def endA : Bool → List Pc → Bool
  | p, [] => p
  | _, .sp :: r => endA false r
  | _, .tk t :: r => endA (t.kind != 4) r
theorem sepA_append : (a b : List Pc) → (p : Bool) → sepA p (a ++ b) = (sepA p a && sepA (endA p a) b)
  | [], b, p => by simp [sepA, endA]
  | .sp :: r, b, p => by simp [sepA, endA, sepA_append r b]
  | .tk t :: r, b, p => by simp [sepA, endA, sepA_append r b, Bool.and_assoc]
theorem sepA_false {l : List Pc} {p : Bool} (h : sepA p l = true) : sepA false l = true := by
  cases l with
  | nil => rfl
  | cons x r =>
    cases x with
    | sp => simpa [sepA] using h
    | tk t => simp only [sepA, Bool.and_eq_true] at h ⊢; exact ⟨by simp, h.2⟩
theorem goodT_ne {t : Tok} (h : goodT t) : ∃ c r, tokB t = c :: r ∧ (c.toNat : Int) ≠ 32 ∧ (c.toNat : Int) ≠ 10 ∧ (c.toNat : Int) ≠ 35 ∧ (t.kind = 4 → inWordB (c.toNat : Int) = false) := by
  obtain ⟨_, ⟨h1, h2, _⟩ | ⟨h1, h2, h3, h4⟩ | ⟨h1, _, c, h2, h3⟩⟩ := h
  · have hw := h2
    simp only [wordB, Bool.and_eq_true, bne_iff_ne] at hw
    obtain ⟨⟨⟨⟨h0, _⟩, h5⟩, _⟩, _⟩ := hw
    have h0' : 0 < t.text.size := by omega
    rw [byteAt_lt h0'] at h5
    have e : tokB t = t.text.data.toList := by rw [tokB, if_neg (by omega)]
    cases hb : t.text.data.toList with
    | nil =>
      have : t.text.data.toList.length = 0 := by rw [hb]; rfl
      rw [Array.length_toList] at this
      have e2 : t.text.data.size = t.text.size := rfl
      omega
    | cons c r =>
      have hc : t.text[0] = c := by
        rw [ByteArray.getElem_eq_getElem_data, ← Array.getElem_toList]
        simp only [hb, List.getElem_cons_zero]
      rw [hc] at h5
      simp [letterB] at h5
      exact ⟨c, r, by rw [e, hb], by omega, by omega, by omega, fun h => by omega⟩
  · have e : tokB t = decB t.num := by rw [tokB, if_pos h1]
    rw [e, decB]
    split
    · exact ⟨45, _, rfl, by decide, by decide, by decide, fun h => by omega⟩
    · cases hb : digs 20 t.num.natAbs with
      | nil => exact absurd hb (digs_ne 19 _)
      | cons c r =>
        have := digs_all 20 t.num.natAbs c (by rw [hb]; simp)
        unfold isDig at this
        exact ⟨c, r, rfl, by omega, by omega, by omega, fun h => by omega⟩
  · have e : tokB t = [c] := by rw [tokB, if_neg (by omega), h2]
    have hc : c.toNat = 59 ∨ c.toNat = 58 ∨ c.toNat = 44 ∨ c.toNat = 40 ∨ c.toNat = 41 := by simp [markB] at h3; omega
    exact ⟨c, [], e, by omega, by omega, by omega, fun _ => by simp [inWordB, letterB, digitB]; omega⟩
theorem tokenF_good {s : ByteArray} {t : Tok} {i : Nat} (h : goodT t) (ha : AtB s i (tokB t)) (hi : i ≤ s.size) (hn : t.kind ≠ 4 → inWordB (byteAt s (i + (tokB t).length)) = false) : tokenF s i = (⟨t.kind, t.text, t.num, i⟩, ((i + (tokB t).length : Nat) : Int), 0) := by
  obtain ⟨_, ⟨h1, h2, h3⟩ | ⟨h1, h2, h3, h4⟩ | ⟨h1, h4, c, h2, h3⟩⟩ := h
  · have e : tokB t = t.text.data.toList := by rw [tokB, if_neg (by omega)]
    rw [e] at ha hn ⊢
    rw [tokenF_word h2 ha hi (hn (by omega)), h1, h3]
  · have e : tokB t = decB t.num := by rw [tokB, if_pos h1]
    rw [e] at ha hn ⊢
    rw [tokenF_number h3 h4 ha hi (hn (by omega)), h1, h2]
  · have e : tokB t = [c] := by rw [tokB, if_neg (by omega), h2]
    rw [e] at ha ⊢
    rw [tokenF_mark h3 ha hi, h1, h2, h4]; rfl
/-- A token without its place. -/
def zp (t : Tok) : Tok := ⟨t.kind, t.text, t.num, 0⟩
/-- A text of pieces is divided into their tokens. -/
theorem scan_pcs {s : ByteArray} : (l : List Pc) → (i : Nat) → (acc : List Tok) → (f : Nat) → i ≤ s.size → AtB s i (pcsB l) → i + (pcsB l).length = s.size → sepA false l = true → (∀ t ∈ toksOf l, goodT t) → acc.length + (toksOf l).length ≤ 4000 → s.size - i ≤ f →
    ∃ ts, scanF s f i acc = (acc ++ ts, 0, 0) ∧ ts.map zp = toksOf l
  | [], i, acc, f, hi, _, hl, _, _, _, hf => by
    refine ⟨[], ?_, rfl⟩
    simp [pcsB] at hl
    cases f with
    | zero => simp [scanF]
    | succ f => rw [scanF, if_pos (by omega)]; simp
  | .sp :: r, i, acc, f, hi, ha, hl, hs, hg, hn, hf => by
    have e : pcsB (.sp :: r) = 32 :: pcsB r := rfl
    rw [e] at ha hl
    have hb := ha.byte
    obtain ⟨h1, _⟩ := ha.1
    obtain ⟨g, rfl⟩ : ∃ g, f = g + 1 := ⟨f - 1, by omega⟩
    obtain ⟨ts, h2, h3⟩ := scan_pcs r (i + 1) acc g h1 ha.2 (by simp at hl; omega) (by simpa [sepA] using hs) hg hn (by omega)
    refine ⟨ts, ?_, h3⟩
    rw [scanF, if_neg (by omega), if_pos (by rw [hb]; rfl), h2]
  | .tk t :: r, i, acc, f, hi, ha, hl, hs, hg, hn, hf => by
    have e : pcsB (.tk t :: r) = tokB t ++ pcsB r := rfl
    rw [e] at ha hl
    rw [AtB.append] at ha
    have hgt := hg t (by simp [toksOf])
    obtain ⟨c, q, hc, c1, c2, c3, _⟩ := goodT_ne hgt
    have hb : byteAt s i = (c.toNat : Int) := by have := ha.1; rw [hc] at this; exact this.byte
    have h1 : i < s.size := by have := ha.1; rw [hc] at this; exact this.1.1
    obtain ⟨g, rfl⟩ : ∃ g, f = g + 1 := ⟨f - 1, by omega⟩
    have hle := AtB.le _ i hi ha.1
    have hsr : sepA (t.kind != 4) r = true := by simp only [sepA, Bool.and_eq_true] at hs; exact hs.2
    have hnext : t.kind ≠ 4 → inWordB (byteAt s (i + (tokB t).length)) = false := by
      intro hk
      have hp : (t.kind != 4) = true := by simpa using hk
      rw [hp] at hsr
      cases r with
      | nil =>
        have : ¬ i + (tokB t).length < s.size := by simp [pcsB] at hl; omega
        rw [byteAt, dif_neg this]; decide
      | cons x r' =>
        cases x with
        | sp => have h2 : AtB s (i + (tokB t).length) (32 :: pcsB r') := ha.2; rw [h2.byte]; decide
        | tk u =>
          have h2 : AtB s (i + (tokB t).length) (tokB u ++ pcsB r') := ha.2
          rw [AtB.append] at h2
          simp only [sepA, Bool.and_eq_true, Bool.not_true, Bool.false_or, beq_iff_eq] at hsr
          obtain ⟨c', q', hc', _, _, _, h4⟩ := goodT_ne (hg u (by simp [toksOf]))
          have h3 := h2.1
          rw [hc'] at h3
          rw [h3.byte]; exact h4 hsr.1
    have htok := tokenF_good hgt ha.1 hi hnext
    obtain ⟨ts, h2, h3⟩ := scan_pcs r (i + (tokB t).length) (acc ++ [⟨t.kind, t.text, t.num, i⟩]) g hle ha.2 (by rw [List.length_append] at hl; omega) (sepA_false hsr) (fun u hu => hg u (by simp [toksOf, hu])) (by simp [toksOf] at hn ⊢; omega) (by rw [hc]; simp; omega)
    refine ⟨⟨t.kind, t.text, t.num, i⟩ :: ts, ?_, ?_⟩
    · rw [scanF_tok h1 (by rw [hb]; simpa using c1) (by rw [hb]; simpa using c2) (by rw [hb]; simpa using c3), htok, tokStep_go (by simp [toksOf] at hn; omega), h2]
      · simp
      · by_cases hk2 : t.kind = 2
        · refine Or.inr ?_
          have h5 := hnext (by omega)
          by_cases hlt : i + (tokB t).length < s.size
          · refine Or.inr ⟨hlt, ?_⟩
            rw [byteAt_lt hlt] at h5
            simp only [inWordB, Bool.or_eq_false_iff] at h5
            exact ⟨h5.1.1, h5.2⟩
          · exact Or.inl hlt
        · exact Or.inl (by simpa using hk2)
    · have hp := hgt.1
      simp only [List.map_cons, toksOf, h3, zp]
      cases t; simp at hp; subst hp; rfl
theorem pcs_no64 : (l : List Pc) → (∀ t ∈ toksOf l, goodT t) → ∀ c ∈ pcsB l, (c.toNat : Int) ≠ 64
  | [], _, c, h => by simp [pcsB] at h
  | .sp :: r, hg, c, h => by
    have e : pcsB (.sp :: r) = 32 :: pcsB r := rfl
    rw [e] at h
    rcases List.mem_cons.1 h with rfl | h
    · decide
    · exact pcs_no64 r hg c h
  | .tk t :: r, hg, c, h => by
    have e : pcsB (.tk t :: r) = tokB t ++ pcsB r := rfl
    rw [e] at h
    rcases List.mem_append.1 h with h | h
    · obtain ⟨_, ⟨h1, h2, h3⟩ | ⟨h1, h2, h3, h4⟩ | ⟨h1, h4, d, h2, h3⟩⟩ := hg t (by simp [toksOf])
      · rw [tokB, if_neg (by omega)] at h
        simp only [wordB, Bool.and_eq_true, beq_iff_eq] at h2
        obtain ⟨j, hj, rfl⟩ := List.getElem_of_mem h
        have hj' : j < t.text.size := by simpa using hj
        have := spanF_all inWordB t.text t.text.size 0 j hj' (by omega) (by rw [h2.2]; exact hj')
        simp only [ByteArray.getElem_eq_getElem_data] at this
        simp only [Array.getElem_toList]
        intro h64
        rw [h64] at this
        revert this; decide
      · rw [tokB, if_pos h1, decB] at h
        have key : ∀ x ∈ digs 20 t.num.natAbs, (x.toNat : Int) ≠ 64 := fun x hx => by have := digs_all _ _ x hx; unfold isDig at this; omega
        split at h
        · rcases List.mem_cons.1 h with rfl | h
          · decide
          · exact key c h
        · exact key c h
      · rw [tokB, if_neg (by omega), h2] at h
        simp at h; subst h
        intro h64; rw [h64] at h3; revert h3; decide
    · exact pcs_no64 r (fun u hu => hg u (by simp [toksOf, hu])) c h
theorem scanAll_pcs {l : List Pc} (hs : sepA false l = true) (hg : ∀ t ∈ toksOf l, goodT t) (hn : (toksOf l).length ≤ 4000) (hb : (pcsB l).length ≤ 16384) : ∃ ts, scanAll ⟨(pcsB l).toArray⟩ = (ts, 0, 0) ∧ ts.map zp = toksOf l := by
  have hsz : (⟨(pcsB l).toArray⟩ : ByteArray).size = (pcsB l).length := by simp [ByteArray.size]
  obtain ⟨ts, h1, h2⟩ := scan_pcs (s := ⟨(pcsB l).toArray⟩) l 0 [] (⟨(pcsB l).toArray⟩ : ByteArray).size (by omega) (atB_self _) (by omega) hs hg (by simpa using hn) (by omega)
  refine ⟨ts, ?_, h2⟩
  rw [scanAll, if_neg (by omega), h1]; rfl
theorem no64_pcs {l : List Pc} (hg : ∀ t ∈ toksOf l, goodT t) : ∀ i, i < (⟨(pcsB l).toArray⟩ : ByteArray).size → byteAt ⟨(pcsB l).toArray⟩ i ≠ 64 := by
  intro i hi
  rw [byteAt_lt hi]
  refine pcs_no64 l hg _ ?_
  rw [ByteArray.getElem_eq_getElem_data]
  simp
theorem atT_of_map {ts : List Tok} : (l : List Tok) → (k : Nat) → (∀ t ∈ l, t.pos = 0) → (ts.drop k).map zp = l ++ (ts.drop (k + l.length)).map zp → AtT ts k l
  | [], _, _, _ => trivial
  | x :: r, k, hp, h => by
    cases hd : ts.drop k with
    | nil => rw [hd] at h; simp at h
    | cons y q =>
      rw [hd] at h
      simp only [List.map_cons, List.cons_append, List.cons.injEq] at h
      have hk : ts[k]? = some y := by rw [← List.head?_drop, hd]; rfl
      refine ⟨⟨y.pos, ?_⟩, atT_of_map r (k + 1) (fun t ht => hp t (List.mem_cons_of_mem _ ht)) ?_⟩
      · rw [hk, ← h.1]; rfl
      · have e : ts.drop (k + 1) = q := by rw [← List.drop_drop, hd]; rfl
        rw [e, h.2, show k + 1 + r.length = k + (x :: r).length by simp; omega]
theorem atT_all {ts l : List Tok} (h : ts.map zp = l) : AtT ts 0 l ∧ ts.length = l.length := by
  have hl : ts.length = l.length := by rw [← h]; simp
  refine ⟨atT_of_map l 0 (fun t ht => by rw [← h] at ht; obtain ⟨u, _, rfl⟩ := List.mem_map.1 ht; rfl) ?_, hl⟩
  simp [h, ← hl]

/-- How Join puts tokens one after the other. -/
def closes (b : List UInt8) : Bool := b == [59] || b == [58] || b == [44] || b == [41]
def joinPc : Bool → List Tok → List Pc
  | _, [] => []
  | g, t :: r => (if !g && !closes (tokB t) then [.sp, .tk t] else [.tk t]) ++ joinPc (tokB t == [40]) r
def gluedA : Bool → List Tok → Bool
  | g, [] => g
  | _, t :: r => gluedA (tokB t == [40]) r
theorem joinPc_append : (a b : List Tok) → (g : Bool) → joinPc g (a ++ b) = joinPc g a ++ joinPc (gluedA g a) b
  | [], b, g => by simp [joinPc, gluedA]
  | t :: r, b, g => by simp [joinPc, gluedA, joinPc_append r b]
theorem gluedA_snoc : (a : List Tok) → (g : Bool) → (t : Tok) → gluedA g (a ++ [t]) = (tokB t == [40])
  | [], g, t => by simp [gluedA]
  | x :: r, g, t => by simp [gluedA, gluedA_snoc r]
theorem toksOf_joinPc : (l : List Tok) → (g : Bool) → toksOf (joinPc g l) = l
  | [], g => rfl
  | t :: r, g => by
    rw [joinPc, toksOf_append, toksOf_joinPc r]
    split <;> rfl
theorem good_mark {t : Tok} (h : goodT t) {c : UInt8} (hc : tokB t = [c]) (hm : markB (c.toNat : Int) = true) : t.kind = 4 := by
  obtain ⟨_, ⟨h1, h2, h3⟩ | ⟨h1, h2, h3, h4⟩ | ⟨h1, h4, d, h2, h3⟩⟩ := h
  · exfalso
    simp only [wordB, Bool.and_eq_true, bne_iff_ne] at h2
    obtain ⟨⟨⟨⟨h0, _⟩, h5⟩, _⟩, _⟩ := h2
    have h0' : 0 < t.text.size := by omega
    rw [byteAt_lt h0', ByteArray.getElem_eq_getElem_data] at h5
    rw [tokB, if_neg (by omega)] at hc
    have : t.text.data[0]'h0' = c := by rw [← Array.getElem_toList]; simp only [hc, List.getElem_cons_zero]
    rw [this] at h5
    simp [letterB] at h5
    simp [markB] at hm
    omega
  · exfalso
    rw [tokB, if_pos h1, decB] at hc
    have hm' : c.toNat = 59 ∨ c.toNat = 58 ∨ c.toNat = 44 ∨ c.toNat = 40 ∨ c.toNat = 41 := by simp [markB] at hm; omega
    split at hc
    · simp only [List.cons.injEq] at hc
      exact digs_ne 19 _ hc.2
    · have := digs_all 20 t.num.natAbs c (by rw [hc]; simp)
      unfold isDig at this
      omega
  · exact h1
theorem sepA_joinPc : (l : List Tok) → (g p : Bool) → (∀ t ∈ l, goodT t) → (g = true → p = false) → sepA p (joinPc g l) = true
  | [], g, p, _, _ => rfl
  | t :: r, g, p, hg, hp => by
    have hgt := hg t (by simp)
    have ih := sepA_joinPc r (tokB t == [40]) (t.kind != 4) (fun u hu => hg u (List.mem_cons_of_mem _ hu)) (fun h => by
      have := good_mark hgt (c := 40) (by simpa using h) (by decide)
      simp [this])
    rw [joinPc]
    split
    · simp only [List.cons_append, List.nil_append, sepA, ih, Bool.not_false, Bool.true_or, Bool.and_true]
    · rename_i hc
      simp only [List.cons_append, List.nil_append, sepA, ih, Bool.and_true, Bool.or_eq_true, Bool.not_eq_true', beq_iff_eq]
      cases hgg : g with
      | true => exact Or.inl (hp hgg)
      | false =>
        right
        rw [hgg] at hc
        have hcl : closes (tokB t) = true := by simpa using hc
        simp only [closes, Bool.or_eq_true, beq_iff_eq] at hcl
        rcases hcl with ((h | h) | h) | h
        · exact good_mark hgt h (by decide)
        · exact good_mark hgt h (by decide)
        · exact good_mark hgt h (by decide)
        · exact good_mark hgt h (by decide)
/-- The bytes of an expression's text, as pieces. -/
def fmtPc (e : Ex) : List Pc := joinPc true (tokE e)
def fmtB (e : Ex) : List UInt8 := pcsB (fmtPc e)
end Go.Proofs.YtfjlglefodndjaaGreatDoor
