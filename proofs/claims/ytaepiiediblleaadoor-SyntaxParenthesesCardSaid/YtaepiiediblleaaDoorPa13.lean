/-
  Texts of the claim, joined: Binds1, Par1, Ref1, Ref2, Ref3.
-/
import Derived.Test.YtaepiiediblleaaDoorPa12
import Derived.Test.YtaepiiediblleaaDoorPa03
import Derived.Test.YtaepiiediblleaaDoorPa08
import Derived.Test.YtaepiiediblleaaDoorPa10
import Derived.Test.YtaepiiediblleaaDoorPa02
namespace Go.Proofs.YtaepiiediblleaaDoor

theorem accept_end {toks : List Tok} {k : Nat} (h : toks.length ≤ k) (kind : Int) (text : ByteArray) : acceptB toks k kind text = false := by rw [acceptB, List.getElem?_eq_none h]
theorem tokensF_ok {toks : List Tok} {e : Ex} (h : Gr toks .ors 0 [] e 0 toks.length) (h1 : e.size ≤ 300) (h2 : e.depth ≤ 16) : tokensF toks 0 = (e, (toks.length : Int), 0, 0) := by
  have hr := h.run
  rw [if_neg (by simp)] at hr
  unfold tokensF
  rw [show (0 : Int).toNat = 0 from rfl, hr, if_neg (by omega), if_neg (by simp), partOf_size, partOf_depth, if_neg (by omega), partOf_ex h1 h2]
theorem tokensF_limit {toks : List Tok} {e : Ex} (h : Gr toks .ors 0 [] e 0 toks.length) (h1 : 300 < e.size) : tokensF toks 0 = (ex0, 0, 0, 4) := by
  have hr := h.run
  rw [if_neg (by simp)] at hr
  unfold tokensF
  rw [show (0 : Int).toNat = 0 from rfl, hr, if_neg (by omega), if_neg (by simp), partOf_size, partOf_depth, if_pos (by omega)]
/-- The tokens of an expression in parentheses. -/
def parT (a : Ex) : List Tok := [markT 40] ++ tokE a ++ [markT 41]
def parPc (a : Ex) : List Pc := [.tk (markT 40)] ++ fmtPc a ++ [.tk (markT 41)]
theorem toksOf_fmtPc (a : Ex) : toksOf (fmtPc a) = tokE a := toksOf_joinPc _ _
theorem toksOf_parPc (a : Ex) : toksOf (parPc a) = parT a := by rw [parPc, toksOf_append, toksOf_append, toksOf_fmtPc]; rfl
theorem gr_par {toks : List Tok} {e : Ex} (hok : okTree e) {k : Nat} (ha : AtT toks k (parT e)) : Gr toks .neg k [] e 0 (k + (parT e).length) := (reads_ok toks e.size e (Nat.le_refl _) hok).parens ha
theorem parT_len (a : Ex) : (parT a).length = (tokE a).length + 2 := by simp [parT]

def notE (b : Ex) : Ex := .mk 6 ⟨#[]⟩ [] 0 0 [b]
def wantE (a b c : Ex) : Ex := .mk 8 ⟨#[]⟩ [] 0 0 [a, .mk 7 ⟨#[]⟩ [] 0 0 [notE b, c]]
def bindPc (a b c : Ex) : List Pc := parPc a ++ ([.sp, .tk (nameT wOr), .sp, .tk (nameT wNot), .sp] ++ (parPc b ++ ([.sp, .tk (nameT wAnd), .sp] ++ parPc c)))
def bindT (a b c : Ex) : List Tok := parT a ++ ([nameT wOr, nameT wNot] ++ (parT b ++ ([nameT wAnd] ++ parT c)))
theorem toksOf_bindPc (a b c : Ex) : toksOf (bindPc a b c) = bindT a b c := by
  simp only [bindPc, toksOf_append, toksOf_parPc, bindT, toksOf]
theorem binds_gr {toks : List Tok} {a b c : Ex} (ha : okTree a) (hb : okTree b) (hc : okTree c) (h : AtT toks 0 (bindT a b c)) (hl : toks.length = (bindT a b c).length) : Gr toks .ors 0 [] (wantE a b c) 0 toks.length := by
  unfold bindT at h
  rw [AtT.append, AtT.append, AtT.append, AtT.append] at h
  obtain ⟨h1, ⟨h2, h3, _⟩, h4, ⟨h5, _⟩, h6⟩ := h
  have ga := gr_par ha h1
  have gb := gr_par hb h4
  have gc := gr_par hc h6
  simp only [Nat.zero_add, List.length_cons, List.length_nil] at *
  have hend : (parT a).length + 2 + (parT b).length + 1 + (parT c).length = toks.length := by rw [hl]; simp [bindT]; omega
  rw [hend] at gc
  refine Gr.orStep (acc := []) (Gr.andStop (acc := []) ga (by rw [accept_at h2]; simp [nameT, wAnd_ne.2.2.2.2.1])) (by rw [accept_at h2]; simp [nameT]) ?_
  refine Gr.orStop (acc := [a]) (Gr.andStep (acc := []) (Gr.notOk (by rw [accept_at h3]; simp [nameT]) gb) (by rw [accept_at h5]; simp [nameT]) (Gr.andStop (acc := [notE b]) gc (accept_end (by omega) _ _))) (accept_end (by omega) _ _)
theorem sepA_par {a : Ex} (h : okTree a) (p : Bool) (r : List Pc) : sepA p (parPc a ++ r) = sepA false r := by
  have h1 : sepA false (fmtPc a) = true := sepA_joinPc (tokE a) true false (good_tokE a.size a (Nat.le_refl _) h) (by simp)
  unfold parPc
  rw [sepA_append, sepA_append, sepA_append]
  have e1 : endA p [.tk (markT 40)] = false := rfl
  have e2 : ∀ q, endA q [.tk (markT 41)] = false := fun _ => rfl
  have e3 : sepA p [.tk (markT 40)] = true := by simp [sepA, markT]
  have e4 : ∀ q, sepA q [.tk (markT 41)] = true := fun q => by simp [sepA, markT]
  have e5 : endA p ([.tk (markT 40)] ++ fmtPc a ++ [.tk (markT 41)]) = false := by
    have : ∀ (l m : List Pc) (q : Bool), endA q (l ++ m) = endA (endA q l) m := by
      intro l
      induction l with
      | nil => intro m q; rfl
      | cons x r ih => intro m q; cases x <;> simp [endA, ih]
    rw [this]; exact e2 _
  rw [e1, h1, e3, e4, e5]; rfl
theorem good_par {a : Ex} (h : okTree a) : ∀ t ∈ parT a, goodT t := by
  intro t ht
  simp only [parT, List.mem_append, List.mem_singleton] at ht
  rcases ht with (rfl | ht) | rfl
  · exact goodT_mark (by decide)
  · exact good_tokE a.size a (Nat.le_refl _) h t ht
  · exact goodT_mark (by decide)
theorem parPc_len {d : Nat} {a : Ex} (h : Fine d a) : (pcsB (parPc a)).length ≤ boundB d + 2 := by
  have h1 := pcsB_joinPc_le (tokE a) true
  have h2 := h.wt
  have e : (pcsB (parPc a)).length = 1 + (pcsB (fmtPc a)).length + 1 := by
    rw [parPc, pcsB_append, pcsB_append, List.length_append, List.length_append]; rfl
  unfold fmtPc at e
  omega
theorem bound4 : boundT 4 = 1211 ∧ boundB 4 = 4445 ∧ boundS 4 = 121 ∧ boundT 3 = 401 ∧ boundB 3 = 1475 ∧ boundS 3 = 40 := by decide
theorem binds_scan {a b c : Ex} (ha : Fine 4 a) (hb : Fine 4 b) (hc : Fine 4 c) : ∃ ts, scanAll ⟨(pcsB (bindPc a b c)).toArray⟩ = (ts, 0, 0) ∧ Gr ts .ors 0 [] (wantE a b c) 0 ts.length ∧ ts.length ≤ 4000 ∧ (∀ t ∈ ts, t.text.size ≤ 1000000000000000) ∧ (pcsB (bindPc a b c)).length ≤ 16384 ∧ 1 ≤ ts.length ∧ (∀ t ∈ toksOf (bindPc a b c), goodT t) := by
  have bd4 := bound4
  have l1 := ha.len; have l2 := hb.len; have l3 := hc.len
  have b1 := parPc_len ha; have b2 := parPc_len hb; have b3 := parPc_len hc
  have hgood : ∀ t ∈ toksOf (bindPc a b c), goodT t := by
    intro t ht
    rw [toksOf_bindPc, bindT] at ht
    simp only [List.mem_append, List.mem_cons, List.not_mem_nil, or_false] at ht
    rcases ht with ht | (rfl | rfl) | ht | rfl | ht
    · exact good_par ha.ok t ht
    · exact goodT_name words_ok.2.2.2.2.2.2.2
    · exact goodT_name words_ok.2.2.2.2.2.1
    · exact good_par hb.ok t ht
    · exact goodT_name words_ok.2.2.2.2.2.2.1
    · exact good_par hc.ok t ht
  have hlen : (pcsB (bindPc a b c)).length ≤ 16384 := by
    unfold bindPc
    rw [pcsB_append, pcsB_append, pcsB_append, pcsB_append]
    simp only [List.length_append]
    have q1 : (pcsB [.sp, .tk (nameT wOr), .sp, .tk (nameT wNot), .sp]).length = 8 := rfl
    have q2 : (pcsB [.sp, .tk (nameT wAnd), .sp]).length = 5 := rfl
    omega
  have hT : (bindT a b c).length ≤ 4000 := by
    simp only [bindT, List.length_append, parT_len, List.length_cons, List.length_nil]; omega
  have hsep : sepA false (bindPc a b c) = true := by
    unfold bindPc
    rw [sepA_par ha.ok]
    simp only [List.cons_append, List.nil_append, sepA, Bool.not_false, Bool.true_or, Bool.true_and]
    rw [sepA_par hb.ok]
    simp only [sepA, Bool.not_false, Bool.true_or, Bool.true_and]
    rw [show parPc c = parPc c ++ [] by simp, sepA_par hc.ok]; rfl
  obtain ⟨ts, h1, h2⟩ := scanAll_pcs hsep hgood (by rw [toksOf_bindPc]; exact hT) hlen
  rw [toksOf_bindPc] at h2
  obtain ⟨h3, h4⟩ := atT_all h2
  refine ⟨ts, h1, binds_gr ha.ok hb.ok hc.ok h3 h4, by omega, fun t ht => ?_, hlen, ?_, hgood⟩
  · have hz : zp t ∈ bindT a b c := by rw [← h2]; exact List.mem_map_of_mem ht
    have := hgood (zp t) (by rw [toksOf_bindPc]; exact hz)
    obtain ⟨_, ⟨_, h5, _⟩ | ⟨_, h5, _⟩ | ⟨_, _, c, h5, _⟩⟩ := this
    · simp only [wordB, Bool.and_eq_true, decide_eq_true_eq] at h5
      have : (zp t).text.size ≤ 16 := h5.1.1.1.2
      have e : (zp t).text = t.text := rfl
      rw [e] at this; omega
    · have e : (zp t).text = t.text := rfl
      rw [← e, h5]; decide
    · have e : (zp t).text = t.text := rfl
      rw [← e, h5]; exact (by simp [ByteArray.size] : (⟨#[c]⟩ : ByteArray).size ≤ 1000000000000000)
  · rw [h4]; simp only [bindT, List.length_append, parT_len]; omega
end Go.Proofs.YtaepiiediblleaaDoor

namespace Go.Proofs.YtaepiiediblleaaDoor

def parN : Nat → List Pc → List Pc
  | 0, l => l
  | n + 1, l => [.tk (markT 40)] ++ parN n l ++ [.tk (markT 41)]
def parNT : Nat → List Tok → List Tok
  | 0, l => l
  | n + 1, l => [markT 40] ++ parNT n l ++ [markT 41]
theorem toksOf_parN : (n : Nat) → (l : List Pc) → toksOf (parN n l) = parNT n (toksOf l)
  | 0, l => rfl
  | n + 1, l => by rw [parN, toksOf_append, toksOf_append, toksOf_parN n l]; rfl
theorem sepA_parN {l : List Pc} (h : sepA false l = true) : (n : Nat) → sepA false (parN n l) = true
  | 0 => h
  | n + 1 => by
    have ih := sepA_parN h n
    have e4 : ∀ q, sepA q [.tk (markT 41)] = true := fun q => by simp [sepA, markT]
    rw [parN, sepA_append, sepA_append, e4, show endA false [.tk (markT 40)] = false from rfl, ih]
    rfl
theorem parN_len : (n : Nat) → (l : List Pc) → (pcsB (parN n l)).length = (pcsB l).length + 2 * n
  | 0, l => rfl
  | n + 1, l => by
    have ih := parN_len n l
    rw [parN, pcsB_append, pcsB_append, List.length_append, List.length_append, ih]
    have q1 : (pcsB [.tk (markT 40)]).length = 1 := rfl
    have q2 : (pcsB [.tk (markT 41)]).length = 1 := rfl
    omega
theorem parNT_len : (n : Nat) → (l : List Tok) → (parNT n l).length = l.length + 2 * n
  | 0, l => rfl
  | n + 1, l => by simp [parNT, parNT_len n l]; omega
theorem good_parN {l : List Tok} (h : ∀ t ∈ l, goodT t) : (n : Nat) → ∀ t ∈ parNT n l, goodT t
  | 0 => h
  | n + 1 => by
    have ih := good_parN h n
    intro t ht
    simp only [parNT, List.mem_append, List.mem_singleton] at ht
    rcases ht with (rfl | ht) | rfl
    · exact goodT_mark (by decide)
    · exact ih t ht
    · exact goodT_mark (by decide)
theorem parN_gr {toks : List Tok} {e : Ex} (hok : okTree e) : (n k : Nat) → AtT toks k (parNT n (tokE e)) → NoTail toks (k + (parNT n (tokE e)).length) → acceptB toks (k + (parNT n (tokE e)).length) 1 wAnd = false → acceptB toks (k + (parNT n (tokE e)).length) 1 wOr = false → Gr toks .ors k [] e 0 (k + (parNT n (tokE e)).length)
  | 0, k, ha, ht, h1, h2 => (reads_ok toks e.size e (Nat.le_refl _) hok).ors ha ht h1 h2
  | n + 1, k, ha, ht, h1, h2 => by
    rw [parNT, AtT.append, AtT.append] at ha
    obtain ⟨⟨g1, g2⟩, g3⟩ := ha
    have hl : k + (parNT (n + 1) (tokE e)).length = k + 1 + (parNT n (tokE e)).length + 1 := by simp [parNT]; omega
    rw [hl] at h1 h2 ⊢
    simp only [List.length_singleton] at g2
    rw [show k + ([markT 40] ++ parNT n (tokE e)).length = k + 1 + (parNT n (tokE e)).length by simp; omega] at g3
    have ho : ∃ p, toks[k]? = some ⟨(markT 40).kind, (markT 40).text, (markT 40).num, p⟩ := g1.1
    have hc : ∃ p, toks[k + 1 + (parNT n (tokE e)).length]? = some ⟨(markT 41).kind, (markT 41).text, (markT 41).num, p⟩ := g3.1
    have ih := parN_gr hok n (k + 1) g2 (noTail_mark hc) (ends_mark hc).1 (ends_mark hc).2
    exact Gr.orStop (acc := []) (Gr.andStop (acc := []) (Gr.negAtom (not_mark ho) (Gr.parenOk (by rw [accept_at ho]; simp [markT]) ih (by rw [accept_at hc]; simp [markT]))) h1) h2
theorem good_text {t : Tok} (h : goodT t) : t.text.size ≤ 1000000000000000 := by
  obtain ⟨_, ⟨_, h5, _⟩ | ⟨_, h5, _⟩ | ⟨_, _, c, h5, _⟩⟩ := h
  · simp only [wordB, Bool.and_eq_true, decide_eq_true_eq] at h5
    have := h5.1.1.1.2
    omega
  · rw [h5]; decide
  · rw [h5]; exact (by simp [ByteArray.size] : (⟨#[c]⟩ : ByteArray).size ≤ 1000000000000000)
/-- What is known of a text that is read as an expression. -/
structure TextOf (l : List Pc) (e : Ex) (ts : List Tok) : Prop where
  scan : scanAll ⟨(pcsB l).toArray⟩ = (ts, 0, 0)
  gr : Gr ts .ors 0 [] e 0 ts.length
  len : ts.length ≤ 4000
  text : ∀ t ∈ ts, t.text.size ≤ 1000000000000000
  bytes : (pcsB l).length ≤ 16384
  good : ∀ t ∈ toksOf l, goodT t
theorem textOf {l : List Pc} {e : Ex} (hsep : sepA false l = true) (hgood : ∀ t ∈ toksOf l, goodT t) (hT : (toksOf l).length ≤ 4000) (hlen : (pcsB l).length ≤ 16384) (hgr : ∀ ts, AtT ts 0 (toksOf l) → ts.length = (toksOf l).length → Gr ts .ors 0 [] e 0 ts.length) : ∃ ts, TextOf l e ts := by
  obtain ⟨ts, h1, h2⟩ := scanAll_pcs hsep hgood hT hlen
  obtain ⟨h3, h4⟩ := atT_all h2
  refine ⟨ts, h1, hgr ts h3 h4, by omega, fun t ht => ?_, hlen, hgood⟩
  have hz : zp t ∈ toksOf l := by rw [← h2]; exact List.mem_map_of_mem ht
  have := good_text (hgood (zp t) hz)
  exact this
theorem parN_text {a : Ex} (hf : Fine 4 a) {n : Nat} (hn : n ≤ 8) : ∃ ts, TextOf (parN n (fmtPc a)) a ts := by
  have bd4 := bound4
  have l1 := hf.len
  have w1 := hf.wt
  have w2 := pcsB_joinPc_le (tokE a) true
  have hT : (toksOf (parN n (fmtPc a))).length = (tokE a).length + 2 * n := by rw [toksOf_parN, toksOf_fmtPc, parNT_len]
  refine textOf (sepA_parN (sepA_joinPc (tokE a) true false (good_tokE a.size a (Nat.le_refl _) hf.ok) (by simp)) n) ?_ (by omega) (by rw [parN_len]; unfold fmtPc; omega) ?_
  · rw [toksOf_parN, toksOf_fmtPc]
    exact good_parN (good_tokE a.size a (Nat.le_refl _) hf.ok) n
  · intro ts h3 h4
    rw [toksOf_parN, toksOf_fmtPc] at h3 h4
    have := parN_gr hf.ok n 0 h3
    rw [Nat.zero_add, ← h4] at this
    exact this ⟨accept_end (Nat.le_refl _) _ _, accept_end (Nat.le_refl _) _ _⟩ (accept_end (Nat.le_refl _) _ _) (accept_end (Nat.le_refl _) _ _)

def wordT (op : Int) : Tok := nameT (if op = 7 then wAnd else wOr)
def morePc (op : Int) : List Ex → List Pc
  | [] => []
  | a :: r => [.sp, .tk (wordT op), .sp] ++ (parPc a ++ morePc op r)
def argsPc (op : Int) : List Ex → List Pc
  | [] => []
  | a :: r => parPc a ++ morePc op r
def moreT (op : Int) : List Ex → List Tok
  | [] => []
  | a :: r => wordT op :: (parT a ++ moreT op r)
def argsT (op : Int) : List Ex → List Tok
  | [] => []
  | a :: r => parT a ++ moreT op r
theorem toksOf_morePc (op : Int) : (l : List Ex) → toksOf (morePc op l) = moreT op l
  | [] => rfl
  | a :: r => by rw [morePc, toksOf_append, toksOf_append, toksOf_parPc, toksOf_morePc op r]; rfl
theorem toksOf_argsPc (op : Int) (l : List Ex) : toksOf (argsPc op l) = argsT op l := by
  cases l with
  | nil => rfl
  | cons a r => rw [argsPc, toksOf_append, toksOf_parPc, toksOf_morePc]; rfl
theorem morePc_snoc (op : Int) (a : Ex) : (l : List Ex) → morePc op (l ++ [a]) = morePc op l ++ ([.sp, .tk (wordT op), .sp] ++ parPc a)
  | [] => by simp [morePc]
  | b :: r => by simp [morePc, morePc_snoc op a r]
theorem argsPc_snoc (op : Int) (a : Ex) (l : List Ex) : argsPc op (l ++ [a]) = argsPc op l ++ ((if l.length = 0 then [] else [.sp, .tk (wordT op), .sp]) ++ parPc a) := by
  cases l with
  | nil => simp [argsPc, morePc]
  | cons b r => simp [argsPc, morePc_snoc]
theorem ands_par {toks : List Tok} : (r : List Ex) → (a : Ex) → (∀ x ∈ a :: r, okTree x) → (acc : List Ex) → (k : Nat) → AtT toks k (parT a ++ moreT 7 r) → acceptB toks (k + (parT a ++ moreT 7 r).length) 1 wAnd = false →
    Gr toks .ands k acc (joinE 7 (acc ++ a :: r)) 0 (k + (parT a ++ moreT 7 r).length)
  | [], a, hr, acc, k, ha, h1 => by
    simp only [moreT, List.append_nil] at *
    exact Gr.andStop (gr_par (hr a (by simp)) ha) h1
  | b :: r, a, hr, acc, k, ha, h1 => by
    rw [moreT, AtT.append] at ha
    obtain ⟨ha1, hw, ha2⟩ := ha
    have hlen : k + (parT a ++ moreT 7 (b :: r)).length = k + (parT a).length + 1 + (parT b ++ moreT 7 r).length := by rw [moreT]; simp; omega
    rw [hlen] at h1 ⊢
    have ih := ands_par r b (fun x hx => hr x (List.mem_cons_of_mem _ hx)) (acc ++ [a]) (k + (parT a).length + 1) ha2 h1
    refine Gr.andStep (gr_par (hr a (by simp)) ha1) (by rw [accept_at hw]; simp [wordT, nameT]) ?_
    simpa using ih
theorem ors_par {toks : List Tok} : (r : List Ex) → (a : Ex) → (∀ x ∈ a :: r, okTree x) → (acc : List Ex) → (k : Nat) → AtT toks k (parT a ++ moreT 8 r) → acceptB toks (k + (parT a ++ moreT 8 r).length) 1 wAnd = false → acceptB toks (k + (parT a ++ moreT 8 r).length) 1 wOr = false →
    Gr toks .ors k acc (joinE 8 (acc ++ a :: r)) 0 (k + (parT a ++ moreT 8 r).length)
  | [], a, hr, acc, k, ha, h1, h2 => by
    simp only [moreT, List.append_nil] at *
    exact Gr.orStop (Gr.andStop (acc := []) (gr_par (hr a (by simp)) ha) h1) h2
  | b :: r, a, hr, acc, k, ha, h1, h2 => by
    rw [moreT, AtT.append] at ha
    obtain ⟨ha1, hw, ha2⟩ := ha
    have hlen : k + (parT a ++ moreT 8 (b :: r)).length = k + (parT a).length + 1 + (parT b ++ moreT 8 r).length := by rw [moreT]; simp; omega
    rw [hlen] at h1 h2 ⊢
    have ih := ors_par r b (fun x hx => hr x (List.mem_cons_of_mem _ hx)) (acc ++ [a]) (k + (parT a).length + 1) ha2 h1 h2
    have hg : Gr toks .ands k [] a 0 (k + (parT a).length) := Gr.andStop (acc := []) (gr_par (hr a (by simp)) ha1) (by rw [accept_at hw]; simp [wordT, nameT, wAnd_ne.2.2.2.2.1])
    refine Gr.orStep hg (by rw [accept_at hw]; simp [wordT, nameT]) ?_
    simpa using ih
theorem args_gr {toks : List Tok} {a : Ex} (hok : okTree a) (h2 : 2 ≤ a.args.length) (ha : AtT toks 0 (argsT a.op a.args)) (hl : toks.length = (argsT a.op a.args).length) : Gr toks .ors 0 [] a 0 toks.length := by
  obtain ⟨hn, hargs⟩ := okTree_parts hok
  obtain ⟨hop, h3, h4, h5, h6⟩ : (a.op = 7 ∨ a.op = 8) ∧ a.name = ⟨#[]⟩ ∧ a.words = [] ∧ a.lo = 0 ∧ a.hi = 0 := by
    rcases hn with ⟨_, _, _, _, _, h⟩ | ⟨_, _, _, _, _, h⟩ | ⟨_, _, _, _, _, h⟩ | ⟨_, _, _, _, _, h⟩ | ⟨_, _, _, _, _, _, h⟩ | ⟨_, _, _, _, _, h⟩ | ⟨g1, g2, g3, g4, g5, _⟩
    · rw [h] at h2; simp at h2
    · rw [h] at h2; simp at h2
    · rw [h] at h2; simp at h2
    · rw [h] at h2; simp at h2
    · rw [h] at h2; simp at h2
    · omega
    · exact ⟨g1, g2, g3, g4, g5⟩
  obtain ⟨op, name, words, lo, hi, args⟩ := a
  simp only [Ex.op, Ex.name, Ex.words, Ex.lo, Ex.hi, Ex.args] at *
  subst h3 h4 h5 h6
  match args, h2, hargs, ha, hl with
  | x :: y :: r, _, hargs, ha, hl =>
    have hend : ∀ s, acceptB toks (0 + (argsT op (x :: y :: r)).length) 1 s = false := fun s => accept_end (by omega) _ _
    rcases hop with rfl | rfl
    · have := ands_par (y :: r) x hargs [] 0 ha (hend _)
      have e : 0 + (parT x ++ moreT 7 (y :: r)).length = toks.length := by rw [hl]; simp [argsT]
      rw [e] at this
      exact Gr.orStop (acc := []) this (accept_end (Nat.le_refl _) _ _)
    · have := ors_par (y :: r) x hargs [] 0 ha (hend _) (hend _)
      have e : 0 + (parT x ++ moreT 8 (y :: r)).length = toks.length := by rw [hl]; simp [argsT]
      rw [e] at this
      exact this
theorem wordT_good (op : Int) : goodT (wordT op) := by
  unfold wordT; split
  · exact goodT_name words_ok.2.2.2.2.2.2.1
  · exact goodT_name words_ok.2.2.2.2.2.2.2
theorem sepA_more (op : Int) : (l : List Ex) → (∀ x ∈ l, okTree x) → sepA false (morePc op l) = true
  | [], _ => rfl
  | a :: r, h => by
    rw [morePc]
    simp only [List.cons_append, List.nil_append, sepA, Bool.not_false, Bool.true_or, Bool.true_and]
    rw [sepA_par (h a (by simp))]
    exact sepA_more op r (fun x hx => h x (List.mem_cons_of_mem _ hx))
theorem good_more (op : Int) : (l : List Ex) → (∀ x ∈ l, okTree x) → ∀ t ∈ moreT op l, goodT t
  | [], _, t, ht => by simp [moreT] at ht
  | a :: r, h, t, ht => by
    rw [moreT] at ht
    rcases List.mem_cons.1 ht with rfl | ht
    · exact wordT_good op
    · rcases List.mem_append.1 ht with ht | ht
      · exact good_par (h a (by simp)) t ht
      · exact good_more op r (fun x hx => h x (List.mem_cons_of_mem _ hx)) t ht
theorem more_len (op : Int) : (l : List Ex) → (∀ x ∈ l, Fine 3 x) → (moreT op l).length ≤ 404 * l.length ∧ (pcsB (morePc op l)).length ≤ 1485 * l.length
  | [], _ => by simp [moreT, morePc, pcsB]
  | a :: r, h => by
    have ih := more_len op r (fun x hx => h x (List.mem_cons_of_mem _ hx))
    have f := h a (by simp)
    have b := bound4
    have f1 := f.len
    have f2 := parPc_len f
    have hw : (pcsB [.sp, .tk (wordT op), .sp]).length ≤ 5 := by unfold wordT; split <;> decide
    rw [moreT, morePc, pcsB_append, pcsB_append]
    simp only [List.length_cons, List.length_append, parT_len]
    omega
theorem args_text {a : Ex} (hf : Fine 4 a) (h2 : 2 ≤ a.args.length) (h3 : a.args.length ≤ 3) (hargs : ∀ x ∈ a.args, Fine 3 x) : ∃ ts, TextOf (argsPc a.op a.args) a ts := by
  have hok : ∀ x ∈ a.args, okTree x := fun x hx => (hargs x hx).ok
  have b := bound4
  have hm : (argsT a.op a.args).length ≤ 404 * a.args.length ∧ (pcsB (argsPc a.op a.args)).length ≤ 1485 * a.args.length := by
    cases hx : a.args with
    | nil => rw [hx] at h2; simp at h2
    | cons x r =>
      have m := more_len a.op r (fun y hy => hargs y (by rw [hx]; exact List.mem_cons_of_mem _ hy))
      have f := hargs x (by rw [hx]; simp)
      have f1 := f.len
      have f2 := parPc_len f
      rw [argsT, argsPc, pcsB_append]
      simp only [List.length_cons, List.length_append, parT_len]
      omega
  refine textOf ?_ ?_ (by rw [toksOf_argsPc]; omega) (by omega) ?_
  · cases hx : a.args with
    | nil => rfl
    | cons x r =>
      rw [argsPc, sepA_par (hok x (by rw [hx]; simp))]
      exact sepA_more _ r (fun y hy => hok y (by rw [hx]; exact List.mem_cons_of_mem _ hy))
  · rw [toksOf_argsPc]
    cases hx : a.args with
    | nil => intro t ht; simp [argsT] at ht
    | cons x r =>
      intro t ht
      rw [argsT] at ht
      rcases List.mem_append.1 ht with ht | ht
      · exact good_par (hok x (by rw [hx]; simp)) t ht
      · exact good_more _ r (fun y hy => hok y (by rw [hx]; exact List.mem_cons_of_mem _ hy)) t ht
  · intro ts h4 h5
    rw [toksOf_argsPc] at h4 h5
    exact args_gr hf.ok h2 h4 h5
theorem made_args {attrs : List Attr} (hs : attrs ∈ schemas) {d : Nat} {e : Ex} (h : MadeE attrs defOld (d + 2) e) : e.args.length ≤ 3 ∧ ∀ x ∈ e.args, Fine d x := by
  rcases h with h | ⟨hl, _, _, _, _, h⟩
  · rw [h.1]; simp
  · exact ⟨by omega, fun x hx => made_fine hs d x (h x hx)⟩
end Go.Proofs.YtaepiiediblleaaDoor

namespace Go.Proofs.YtaepiiediblleaaDoor
open Go.RowKit

theorem rletter_calls (c : Int) (w : World) : Calls Tryd.prog 92 #[.int .u8 c] w (Gives (.bool (letterB c)) w) := by
  go_enter Tryd.func92, Tryd.ntmps92
  go_wp2_with fail
  all_goals (go_ret; exact gives_bool (by simp [letterB]; omega))
theorem rdigit_calls (c : Int) (w : World) : Calls Tryd.prog 93 #[.int .u8 c] w (Gives (.bool (digitB c)) w) := by
  go_enter Tryd.func93, Tryd.ntmps93
  go_wp2_with fail
  all_goals (go_ret; exact gives_bool (by simp [digitB]; omega))
theorem far_calls (n : Int) (w : World) : Calls Tryd.prog 88 #[.int .i64 n] w (Gives (.bool (!numberB n)) w) := by
  go_enter Tryd.func88, Tryd.ntmps88
  go_wp2_with fail
  all_goals (go_ret; exact gives_bool (by rw [Bool.eq_iff_iff]; simp [numberB]; omega))
set_option maxHeartbeats 1000000 in
theorem rreserved_calls (s : ByteArray) (w : World) : Calls Tryd.prog 107 #[.string s] w (Gives (.bool (reservedB s)) w) := by
  go_enter Tryd.func107, Tryd.ntmps107
  go_wp2_with fail
  all_goals (go_ret; exact gives_bool (by simp_all [reservedB, reservedWords]))

theorem spanF_every (p : Int → Bool) (s : ByteArray) : ∀ (m k : Nat), s.size - k = m → k ≤ s.size → (spanF p s (s.size - k) k = s.size ↔ ∀ j (h : j < s.size), k ≤ j → p (s[j].toNat : Int) = true) := by
  intro m
  induction m with
  | zero =>
    intro k hm hk
    rw [spanF_end (by omega)]
    exact ⟨fun _ j h hj => by omega, fun _ => by omega⟩
  | succ m ih =>
    intro k hm hk
    have hlt : k < s.size := by omega
    cases hp : p (s[k].toNat : Int)
    · rw [spanF_stop hlt hp]
      exact ⟨fun h => by omega, fun h => by rw [h k hlt (Nat.le_refl _)] at hp; cases hp⟩
    · rw [spanF_step hlt hp, ih (k + 1) (by omega) (by omega)]
      refine ⟨fun h j hj hkj => ?_, fun h j hj hkj => h j hj (by omega)⟩
      by_cases e : j = k
      · subst e; exact hp
      · exact h j hj (by omega)
theorem wordB_of {s : ByteArray} (h0 : s.size ≠ 0) (h1 : s.size ≤ 16) (h2 : letterB (byteAt s 0) = true) (h3 : byteAt s (s.size - 1) ≠ 45) (h : ∀ j (hj : j < s.size), inWordB (s[j].toNat : Int) = true) : wordB s = true := by
  have := (spanF_every inWordB s _ 0 rfl (by omega)).2 (fun j hj _ => h j hj)
  rw [Nat.sub_zero] at this
  simp [wordB, h0, h1, h2, h3, this]
theorem wordB_no {s : ByteArray} {j : Nat} (hj : j < s.size) (h : inWordB (s[j].toNat : Int) = false) : wordB s = false := by
  cases hb : wordB s
  · rfl
  simp only [wordB, Bool.and_eq_true, beq_iff_eq] at hb
  have := (spanF_every inWordB s _ 0 rfl (by omega)).1 (by rw [Nat.sub_zero]; exact hb.2) j hj (by omega)
  rw [h] at this; cases this

set_option maxRecDepth 100000 in
set_option maxHeartbeats 1000000 in
theorem rword_calls (s : ByteArray) (w : World) (hs : s.size ≤ 1000000000000000) : Calls Tryd.prog 64 #[.string s] w (Gives (.bool (wordB s)) w) := by
  by_cases h0 : s.size = 0
  · have H := Lib.hid (show wordB s = false by simp [wordB, h0])
    have hz : decide ((s.size : Int) < 1) = true := by simp [h0]
    clear h0
    go_enter Tryd.func64, Tryd.ntmps64
    go_wp2_with fail
    go_ret
    exact gives_bool (by rw [H.out])
  have hz : decide ((s.size : Int) < 1) = false := by simp; omega
  by_cases h1 : s.size ≤ 16
  · have hb0 := byteAt_lt (show 0 < s.size by omega)
    have hb1 := byteAt_lt (show s.size - 1 < s.size by omega)
    have hz2 : decide ((16 : Int) < s.size) = false := by simp; omega
    cases h2 : letterB (s[0]'(by omega)).toNat
    · have H := Lib.hid (show wordB s = false by simp [wordB, hb0, h2])
      have H2 := Lib.hid h2
      clear h2 hb0 hb1
      go_enter Tryd.func64, Tryd.ntmps64
      go_wp2_with fail
      refine (rletter_calls _ _).mono ?_
      rintro e w' ⟨rfl, rfl⟩
      rw [H2.out]
      go_wp2_with fail
      go_ret
      exact gives_bool (by rw [H.out])
    · have H2 := Lib.hid h2
      have HB0 := Lib.hid hb0
      have HB1 := Lib.hid hb1
      clear h2 hb0 hb1
      have e1 : ((s.size : Int) - 1).toNat = s.size - 1 := by omega
      cases h3 : ((s[s.size - 1]'(by omega)).toNat : Int) == 45
      · have HY := Lib.hid (show (∀ j (hj : j < s.size), inWordB (s[j].toNat : Int) = true) → wordB s = true from fun h => wordB_of h0 h1 (by rw [HB0.out]; exact H2.out) (by rw [HB1.out]; simpa using h3) h)
        go_enter Tryd.func64, Tryd.ntmps64
        go_wp2_with fail
        refine (rletter_calls _ _).mono ?_
        rintro e w' ⟨rfl, rfl⟩
        rw [H2.out]
        go_wp2_with fail
        go_loop [3] (fun i => ∃ k : Nat, i = .int .i64 k ∧ k ≤ s.size ∧ ∀ j (hj : j < s.size), j < k → inWordB (s[j].toNat : Int) = true) (fun i => s.size - (intOf i).toNat)
        case atStart => exact ⟨0, rfl, by omega, fun j _ h => by omega⟩
        case round =>
          obtain ⟨k, rfl, hk, hall⟩ := hrel
          have HA := Lib.hid hall
          clear hall
          by_cases hlt : k < s.size
          · have HN := Lib.hid (fun h => wordB_no (s := s) hlt h)
            cases h4 : letterB (s[k].toNat : Int)
            · cases h5 : digitB (s[k].toNat : Int)
              · cases h6 : ((s[k].toNat : Int) == 45)
                · have H := Lib.hid (HN.out (by simp [inWordB, h4, h5, h6]))
                  have h6' : ((s[k].toNat : Int) != 45) = true := by simpa using h6
                  have H4 := Lib.hid h4
                  have H5 := Lib.hid h5
                  clear h4 h5
                  go_wp2_with fail
                  refine (rletter_calls _ _).mono ?_
                  rintro e w' ⟨rfl, rfl⟩
                  rw [H4.out]
                  go_wp2_with fail
                  refine (rdigit_calls _ _).mono ?_
                  rintro e w' ⟨rfl, rfl⟩
                  rw [H5.out]
                  go_wp2_with fail
                  go_ret
                  exact gives_bool (by rw [H.out])
                · have H := Lib.hid (show inWordB (s[k].toNat : Int) = true by simp [inWordB, h4, h5, h6])
                  have h6' : ((s[k].toNat : Int) != 45) = false := by simpa using h6
                  have H4 := Lib.hid h4
                  have H5 := Lib.hid h5
                  clear h4 h5
                  go_wp2_with fail
                  refine (rletter_calls _ _).mono ?_
                  rintro e w' ⟨rfl, rfl⟩
                  rw [H4.out]
                  go_wp2_with fail
                  refine (rdigit_calls _ _).mono ?_
                  rintro e w' ⟨rfl, rfl⟩
                  rw [H5.out]
                  go_wp2_with fail
                  go_round
                  case rel => exact ⟨k + 1, by go_num, by omega, fun j hj hjk => by
                    by_cases e : j = k
                    · subst e; exact H.out
                    · exact HA.out j hj (by omega)⟩
                  case measure => simp [intOf]; omega
              · have H := Lib.hid (show inWordB (s[k].toNat : Int) = true by simp [inWordB, h4, h5])
                have H4 := Lib.hid h4
                have H5 := Lib.hid h5
                clear h4 h5
                go_wp2_with fail
                refine (rletter_calls _ _).mono ?_
                rintro e w' ⟨rfl, rfl⟩
                rw [H4.out]
                go_wp2_with fail
                refine (rdigit_calls _ _).mono ?_
                rintro e w' ⟨rfl, rfl⟩
                rw [H5.out]
                go_wp2_with fail
                go_round
                case rel => exact ⟨k + 1, by go_num, by omega, fun j hj hjk => by
                  by_cases e : j = k
                  · subst e; exact H.out
                  · exact HA.out j hj (by omega)⟩
                case measure => simp [intOf]; omega
            · have H := Lib.hid (show inWordB (s[k].toNat : Int) = true by simp [inWordB, h4])
              have H4 := Lib.hid h4
              clear h4
              go_wp2_with fail
              refine (rletter_calls _ _).mono ?_
              rintro e w' ⟨rfl, rfl⟩
              rw [H4.out]
              go_wp2_with fail
              go_round
              case rel => exact ⟨k + 1, by go_num, by omega, fun j hj hjk => by
                by_cases e : j = k
                · subst e; exact H.out
                · exact HA.out j hj (by omega)⟩
              case measure => simp [intOf]; omega
          · go_wp2_with fail
            go_ret
            exact gives_bool (by rw [HY.out (fun j hj => HA.out j hj (by omega))])
      · have H := Lib.hid (show wordB s = false by simp [wordB, HB0.out, HB1.out, H2.out, h1, h0]; intro h; simp at h3; omega)
        go_enter Tryd.func64, Tryd.ntmps64
        go_wp2_with fail
        refine (rletter_calls _ _).mono ?_
        rintro e w' ⟨rfl, rfl⟩
        rw [H2.out]
        go_wp2_with fail
        go_ret
        exact gives_bool (by rw [H.out])
  · have H := Lib.hid (show wordB s = false by simp [wordB]; omega)
    have hz2 : decide ((16 : Int) < s.size) = true := by simp; omega
    go_enter Tryd.func64, Tryd.ntmps64
    go_wp2_with fail
    go_ret
    exact gives_bool (by rw [H.out])
theorem rname_calls (s : ByteArray) (w : World) (hs : s.size ≤ 1000000000000000) : Calls Tryd.prog 85 #[.string s] w (Gives (.bool (nameB s)) w) := by
  go_enter Tryd.func85, Tryd.ntmps85
  go_wp2_with (first
    | (go_at_call 64; refine (rword_calls _ _ hs).mono ?_; rintro e w' ⟨rfl, rfl⟩)
    | (go_at_call 107; refine (rreserved_calls _ _).mono ?_; rintro e w' ⟨rfl, rfl⟩))
  all_goals (go_ret; exact gives_bool (by simp_all [nameB]))

set_option maxRecDepth 100000 in
theorem names_calls (l : List ByteArray) (a : Option Addr) (n c : Nat) (w : World) (hl : IsStrs w l a n c) (hn : n ≤ 1000000000000000) (hsz : ∀ x ∈ l, x.size ≤ 1000000000000000) :
    Calls Tryd.prog 86 #[.slice a n c] w (Gives (.bool (l.all nameB)) w) := by
  have HL := Lib.hid hl
  have HZ := Lib.hid hsz
  have hnl := Lib.hid hl.1
  clear hl hsz
  go_enter Tryd.func86, Tryd.ntmps86
  go_wp2_with fail
  go_loop [3] (fun t => ∃ k : Nat, t = .int .i64 k ∧ k ≤ n ∧ ∀ j (hj : j < l.length), j < k → nameB l[j] = true) (fun t => n - (intOf t).toNat)
  case atStart => exact ⟨0, rfl, by omega, fun j _ h => by omega⟩
  case round =>
    obtain ⟨k, rfl, hk, hlo⟩ := hrel
    have HO := Lib.hid hlo
    clear hlo
    by_cases hlt : k < n
    · have hlt' : k < l.length := by have := hnl.out; omega
      have hsk := HZ.out _ (List.getElem_mem hlt')
      obtain ⟨b, off, rfl, hcell⟩ := HL.out.2.2.2 k hlt'
      cases h3 : nameB l[k]
      · have H := Lib.hid (show l.all nameB = false by
          rw [List.all_eq_false]; exact ⟨l[k], List.getElem_mem hlt', by simp [h3]⟩)
        have H3 := Lib.hid h3
        clear h3
        go_wp2_with fail
        refine (rname_calls _ _ hsk).mono ?_
        rintro e w' ⟨rfl, rfl⟩
        rw [H3.out]
        go_wp2_with fail
        go_ret
        exact gives_bool (by rw [H.out])
      · have H3 := Lib.hid h3
        clear h3
        go_wp2_with fail
        refine (rname_calls _ _ hsk).mono ?_
        rintro e w' ⟨rfl, rfl⟩
        rw [H3.out]
        go_wp2_with fail
        go_round
        case rel => exact ⟨k + 1, by go_num, by omega, fun j hj hjk => by
          by_cases e : j = k
          · subst e; exact H3.out
          · exact HO.out j hj (by omega)⟩
        case measure => simp [intOf]; omega
    · go_wp2_with fail
      go_ret
      exact gives_bool (by
        symm
        rw [List.all_eq_true]
        intro x hx
        obtain ⟨j, hj, rfl⟩ := List.getElem_of_mem hx
        exact HO.out j hj (by have := hnl.out; omega))

theorem nodup_of {l : List ByteArray} {n : Nat} (hn : n = l.length) (h : ∀ i j (hi : i < l.length) (hj : j < l.length), i < n → j < i → l[i] ≠ l[j]) : l.Nodup := by
  rw [List.Nodup, List.pairwise_iff_getElem]
  intro i j hi hj hij e
  exact h j i hj hi (by omega) hij e.symm

/-- A value is handed back; memory is as it was. -/
def GivesD (v : Value) (w : World) (e : Ending) (w' : World) : Prop := e = .returned v ∧ ∃ n, w' = w.drewN n
theorem drewN_drewN (w : World) (a b : Nat) : (w.drewN a).drewN b = w.drewN (a + b) := by simp [World.drewN, Nat.add_assoc]
theorem givesD_bool {a b : Bool} {w w' : World} (h : a = b) (hx : ∃ n, w' = w.drewN n) : GivesD (.bool b) w (.returned (.bool a)) w' := by subst h; exact ⟨rfl, hx⟩
set_option maxRecDepth 100000 in
set_option maxHeartbeats 1000000 in
theorem distinct_calls (l : List ByteArray) (a : Option Addr) (n c : Nat) (w : World) (hl : IsStrs w l a n c) (hn : n ≤ 1000000000000000) :
    Calls Tryd.prog 87 #[.slice a n c] w (GivesD (.bool (decide l.Nodup)) w) := by
  have HL := Lib.hid hl
  have hnl := Lib.hid hl.1
  clear hl
  go_enter Tryd.func87, Tryd.ntmps87
  go_wp2_with fail
  go_loopw [3, 4] (fun t _ wr => ∃ k : Nat, t = .int .i64 k ∧ k ≤ n ∧ (∀ i j (hi : i < l.length) (hj : j < l.length), i < k → j < i → l[i] ≠ l[j]) ∧ ∃ q, wr = w.drewN q) (fun t _ _ => n - (intOf t).toNat)
  case atStart => exact ⟨0, rfl, by omega, fun i j _ _ h => by omega, 0, rfl⟩
  case round =>
    obtain ⟨k, rfl, hk, hlo, q, rfl⟩ := hrel
    have HO := Lib.hid hlo
    clear hlo
    by_cases hlt : k < n
    · have hlt' : k < l.length := by have := hnl.out; omega
      go_wp2_with fail
      go_loopw [4] (fun t wr2 => ∃ m : Nat, t = .int .i64 m ∧ m ≤ k ∧ (∀ j (hj : j < l.length), j < m → l[k] ≠ l[j]) ∧ ∃ q, wr2 = w.drewN q) (fun t _ => k - (intOf t).toNat)
      case atStart => exact ⟨0, rfl, by omega, fun j _ h => by omega, q, rfl⟩
      case round =>
        obtain ⟨m, rfl, hm, hne, q2, rfl⟩ := hrel
        have HE := Lib.hid hne
        clear hne
        by_cases hmk : m < k
        · have hmk' : m < l.length := by omega
          obtain ⟨b, off, rfl, hc1⟩ := HL.out.2.2.2 k hlt'
          obtain ⟨b', off', e, hc2⟩ := HL.out.2.2.2 m hmk'
          simp only [Option.some.injEq, Addr.mk.injEq, and_true] at e
          obtain ⟨rfl, rfl⟩ := e
          have ti0 : (0 : Int) ≤ (k : Int) := by omega
          have ti1 : (k : Int) < (n : Int) := by omega
          have tj0 : (0 : Int) ≤ (m : Int) := by omega
          have tj1 : (m : Int) < (n : Int) := by omega
          cases he : (l[k].toList == l[m].toList)
          · have HQ := Lib.hid he
            go_wp2_with fail
            go_quiet (fail)
            go_wp2_with fail
            go_roundw
            case rel =>
              refine ⟨m + 1, by go_num, by omega, fun j hj hjm => ?_, _, rfl⟩
              by_cases e : j = m
              · subst e; intro h; have := HQ.out; rw [h] at this; simp at this
              · exact HE.out j hj (by omega)
            case measure => simp [intOf]; omega
          · have H := Lib.hid (show decide l.Nodup = false by
              rw [decide_eq_false_iff_not]
              intro hnd
              have h1 := toList_inj (beq_iff_eq.1 he)
              rw [List.Nodup, List.pairwise_iff_getElem] at hnd
              exact hnd m k hmk' hlt' hmk h1.symm)
            go_wp2_with fail
            go_quiet (fail)
            go_wp2_with fail
            go_ret
            exact givesD_bool (by rw [H.out]) ⟨_, drewN_drewN _ _ _⟩
        · go_wp2_with fail
          go_roundw
          case rel =>
            refine ⟨k + 1, by go_num, by omega, fun i j hi hj hik hji => ?_, q2, rfl⟩
            by_cases e : i = k
            · subst e; exact HE.out j hj (by omega)
            · exact HO.out i j hi hj (by omega) hji
          case measure => simp [intOf]; omega
    · go_wp2_with fail
      go_ret
      exact givesD_bool (by
        symm
        rw [decide_eq_true_eq]
        exact nodup_of hnl.out (fun i j hi hj hin hji => HO.out i j hi hj (by omega) hji)) ⟨q, rfl⟩
end Go.Proofs.YtaepiiediblleaaDoor

namespace Go.Proofs.YtaepiiediblleaaDoor
open Go.RowKit

theorem size_pos (e : Ex) : 1 ≤ e.size := by rw [e.size_eq]; omega

/-- Size of the reference: at most 301. -/
def refSize (e : Ex) : Nat := min e.size 301
def refSizes : List Ex → Nat
  | [] => 0
  | e :: r => refSize e + refSizes r
theorem refSizes_le (l : List Ex) : refSizes l ≤ sizes l ∧ l.length ≤ refSizes l ∧ min (1 + refSizes l) 301 = min (1 + sizes l) 301 := by
  induction l with
  | nil => simp [refSizes, sizes]
  | cons e r ih => have := size_pos e; simp only [refSizes, sizes, refSize, List.length_cons]; omega
theorem refSizes_take_succ (l : List Ex) (k : Nat) (hk : k < l.length) : refSizes (l.take (k + 1)) = refSizes (l.take k) + refSize l[k] := by
  induction l generalizing k with
  | nil => simp at hk
  | cons e r ih =>
    cases k with
    | zero => simp [refSizes]
    | succ k => have := ih k (by simpa using hk); simp only [List.take_succ_cons, refSizes, this, List.getElem_cons_succ]; omega
theorem refSize_of {e : Ex} {k : Nat} (hs : k = e.args.length ∨ 300 < 1 + refSizes (e.args.take k)) : min (1 + refSizes (e.args.take k)) 301 = refSize e := by
  have h1 := e.size_eq
  have h2 := refSizes_le (e.args.take k)
  have h3 := sizes_take_le e.args k
  have h4 := refSizes_le e.args
  unfold refSize
  rcases hs with hs | hs
  · rw [hs, List.take_length]; omega
  · omega

set_option maxRecDepth 100000 in
set_option maxHeartbeats 1000000 in
theorem rsize_calls (m : Nat) : ∀ (e : Ex) (v : Value) (w : World), e.size ≤ m → IsEx w e v → Calls Tryd.prog 13 #[v] w (GivesE (.int .i64 (refSize e)) w) := by
  induction m with
  | zero => intro e v w h; have := size_pos e; omega
  | succ m ih =>
    intro e v w hm he
    obtain ⟨aw, nw, cw, aa, na, ca, rfl, hw, hna, hca, ha, hx⟩ := he.parts
    have HX := Lib.hid hx
    have HN := Lib.hid hna
    have hS : e.size = 1 + sizes e.args := e.size_eq
    have hb2 : sizes e.args ≤ m := by omega
    have H : Hid (∀ (e : Ex) (v : Value) (w : World), e.size ≤ m → IsEx w e v → Calls Tryd.prog 13 #[v] w (GivesE (.int .i64 (refSize e)) w)) := ih
    clear ih hx hna hw hca ha he hS hm
    unfold exV
    go_enter Tryd.func13, Tryd.ntmps13
    go_wp2_with fail
    go_loopw [3, 4] (fun s i wr => ∃ k : Nat, k ≤ na ∧ i = .int .i64 k ∧ s = .int .i64 (1 + (refSizes (e.args.take k) : Int)) ∧ refSizes (e.args.take k) ≤ 601 ∧ wr.heap[w.heap.size]? = some (.cells #[.int .i64 e.op, .string e.name, .slice aw nw cw, .int .i64 e.lo, .int .i64 e.hi, .slice aa na ca] 26 (0, 0)) ∧ Ext w wr) (fun _ i _ => na - (intOf i).toNat)
    case atStart => exact ⟨0, by omega, rfl, by simp [refSizes], by simp [refSizes], alloc_new w _, (Ext.refl w).alloc _⟩
    case round =>
      obtain ⟨k, hk, rfl, rfl, hb6, hbx, hb⟩ := hrel
      have HBX := Lib.hid hbx
      have HB := Lib.hid hb
      have hlt0 := blk_lt hbx
      obtain ⟨b0, b1, b2, b3, b4, b5, bf⟩ := blk6 hbx
      have hkl : k ≤ refSizes (e.args.take k) := by have := (refSizes_le (e.args.take k)).2.1; have hl := HN.out; rw [List.length_take] at this; omega
      clear hbx hb
      by_cases hlt : k < na
      · have hlt' : k < e.args.length := by have := HN.out; omega
        by_cases hc : refSizes (e.args.take k) ≤ 299
        · have t1 : decide ((k : Int) < (na : Int)) = true := by simp; omega
          have t2 : decide (1 + (refSizes (e.args.take k) : Int) ≤ 300) = true := by simp; omega
          obtain ⟨b, off, rfl, aw1, nw1, cw1, aa1, na1, ca1, h0, h1, h2, h3, h4, h5, h6⟩ := ExsD.at e.args _ (ExsD.ext HB.out e.args _ HX.out) k hlt'
          have H6 := Lib.hid h6
          have hs1 := Lib.hid (refSizes_take_succ e.args k hlt')
          have hsz := sizes_take_succ e.args k hlt'
          have hsl := sizes_take_le e.args (k + 1)
          have hk1 : e.args[k].size ≤ m := by omega
          have hr : refSize e.args[k] ≤ 301 := by unfold refSize; omega
          clear h6 hsz hsl
          go_wp2_with fail
          refine (H.out e.args[k] _ _ hk1 H6.out).mono ?_
          rintro r w1 ⟨rfl, hb1⟩
          have HE1 := Lib.hid hb1
          clear b0 b1 b2 b3 b4 b5 bf hb1
          go_wp2_with fail
          go_roundw
          case rel => exact ⟨k + 1, by omega, by go_num, by rw [hs1.out]; go_num, by rw [hs1.out]; omega, HE1.out.blk HBX.out, HB.out.trans HE1.out⟩
          case measure => simp [intOf]; omega
        · have t1 : decide ((k : Int) < (na : Int)) = true := by simp; omega
          have t2 : decide (1 + (refSizes (e.args.take k) : Int) ≤ 300) = false := by simp; omega
          have H1 := Lib.hid (refSize_of (e := e) (k := k) (Or.inr (by omega)))
          go_wp2_with fail
          all_goals (go_ret; exact givesE_int (by rw [← H1.out]; omega) HB.out)
      · have t1 : decide ((k : Int) < (na : Int)) = false := by simp; omega
        have H1 := Lib.hid (refSize_of (e := e) (k := k) (Or.inl (by have := HN.out; omega)))
        go_wp2_with fail
        all_goals (go_ret; exact givesE_int (by rw [← H1.out]; omega) HB.out)
set_option maxRecDepth 100000 in
set_option maxHeartbeats 1000000 in
theorem deeper_calls (m : Nat) : ∀ (e : Ex) (v : Value) (w : World) (n : Nat), e.size ≤ m → m ≤ 1000000000000000 → n ≤ 1000 → IsEx w e v → Calls Tryd.prog 36 #[v, .int .i64 n] w (GivesE (.bool (decide (n < e.depth))) w) := by
  induction m with
  | zero => intro e v w n h; have := size_pos e; omega
  | succ m ih =>
    intro e v w n hm hMM hn he
    obtain ⟨aw, nw, cw, aa, na, ca, rfl, hw, hna, hca, ha, hx⟩ := he.parts
    have HX := Lib.hid hx
    have HN := Lib.hid hna
    have HD := Lib.hid e.depth_eq
    have hS : e.size = 1 + sizes e.args := e.size_eq
    have hb2 : sizes e.args ≤ m := by omega
    have hla := length_le_sizes e.args
    have H : Hid (∀ (e : Ex) (v : Value) (w : World) (n : Nat), e.size ≤ m → n ≤ 1000 → IsEx w e v → Calls Tryd.prog 36 #[v, .int .i64 n] w (GivesE (.bool (decide (n < e.depth))) w)) := fun e v w n h1 h2 h3 => ih e v w n h1 (by omega) h2 h3
    clear ih hx hna hw hca ha he hS hm
    unfold exV
    by_cases hn0 : n = 0
    · have t1 : ((n : Int) == 0) = true := by simp [hn0]
      have H1 := Lib.hid (show decide (n < e.depth) = true by rw [decide_eq_true_eq, HD.out]; omega)
      generalize decide (n < e.depth) = B at *
      go_enter Tryd.func36, Tryd.ntmps36
      go_wp2_with fail
      go_ret
      exact givesE_bool (by rw [H1.out]) ((Ext.refl w).alloc _)
    · have hn1 : 1 ≤ n := by omega
      have t1 : ((n : Int) == 0) = false := by simp; omega
      obtain ⟨B, hB⟩ : ∃ B, B = decide (n < e.depth) := ⟨_, rfl⟩
      rw [← hB]
      have HBQ := Lib.hid hB
      clear hB
      go_enter Tryd.func36, Tryd.ntmps36
      go_wp2_with fail
      go_loopw [5] (fun i wr => ∃ k : Nat, k ≤ na ∧ i = .int .i64 k ∧ (∀ j (hj : j < e.args.length), j < k → ¬ n - 1 < e.args[j].depth) ∧ wr.heap[w.heap.size]? = some (.cells #[.int .i64 e.op, .string e.name, .slice aw nw cw, .int .i64 e.lo, .int .i64 e.hi, .slice aa na ca] 26 (0, 0)) ∧ Ext w wr) (fun i _ => na - (intOf i).toNat)
      case atStart => exact ⟨0, by omega, rfl, fun j _ h => by omega, alloc_new w _, (Ext.refl w).alloc _⟩
      case round =>
        obtain ⟨k, hk, rfl, hall, hbx, hb⟩ := hrel
        have HA := Lib.hid hall
        have HBX := Lib.hid hbx
        have HB := Lib.hid hb
        have hlt0 := blk_lt hbx
        obtain ⟨b0, b1, b2, b3, b4, b5, bf⟩ := blk6 hbx
        clear hbx hb hall
        by_cases hlt : k < na
        · have hlt' : k < e.args.length := by have := HN.out; omega
          obtain ⟨b, off, rfl, aw1, nw1, cw1, aa1, na1, ca1, h0, h1, h2, h3, h4, h5, h6⟩ := ExsD.at e.args _ (ExsD.ext HB.out e.args _ HX.out) k hlt'
          have H6 := Lib.hid h6
          have hsz := sizes_take_succ e.args k hlt'
          have hsl := sizes_take_le e.args (k + 1)
          have hk1 : e.args[k].size ≤ m := by omega
          have HM1 := Lib.hid (depths_mem (List.getElem_mem hlt'))
          clear h6 hsz hsl
          have HCA := Lib.hid (show (n : Int) - 1 = ((n - 1 : Nat) : Int) by omega)
          go_wp2_with fail
          rw [HCA.out]
          refine (H.out e.args[k] _ _ (n - 1) hk1 (by omega) H6.out).mono ?_
          rintro r w1 ⟨rfl, hb1⟩
          have HE1 := Lib.hid hb1
          clear b0 b1 b2 b3 b4 b5 bf hb1
          by_cases hdp : n - 1 < e.args[k].depth
          · rw [decide_eq_true hdp]
            have H1 := Lib.hid (show B = true by rw [HBQ.out, decide_eq_true_eq, HD.out]; have := HM1.out; omega)
            clear hdp
            go_wp2_with fail
            go_ret
            exact givesE_bool (by rw [H1.out]) (HB.out.trans HE1.out)
          · rw [decide_eq_false hdp]
            have HND := Lib.hid hdp
            clear hdp
            go_wp2_with fail
            go_roundw
            case rel =>
              refine ⟨k + 1, by omega, by go_num, fun j hj hjk => ?_, HE1.out.blk HBX.out, HB.out.trans HE1.out⟩
              by_cases ej : j = k
              · subst ej; exact HND.out
              · exact HA.out j hj (by omega)
            case measure => simp [intOf]; omega
        · have H1 := Lib.hid (show B = false by
            rw [HBQ.out, decide_eq_false_iff_not, HD.out]
            have : ∀ l : List Ex, (∀ x ∈ l, ¬ n - 1 < x.depth) → depths l ≤ n - 1 := by
              intro l
              induction l with
              | nil => intro _; simp [depths]
              | cons y r ih =>
                intro h
                have h1 := h y (by simp)
                have h2 := ih (fun x hx => h x (List.mem_cons_of_mem _ hx))
                simp only [depths]; omega
            have := this e.args (fun x hx => by
              obtain ⟨j, hj, rfl⟩ := List.getElem_of_mem hx
              exact HA.out j hj (by have := HN.out; omega))
            omega)
          go_wp2_with fail
          go_ret
          exact givesE_bool (by rw [H1.out]) HB.out

set_option maxRecDepth 100000 in
theorem sameWords_calls (l1 l2 : List ByteArray) (a1 a2 : Option Addr) (n1 c1 n2 c2 : Nat) (w : World) (h1 : IsStrs w l1 a1 n1 c1) (h2 : IsStrs w l2 a2 n2 c2) (hn : n1 ≤ 1000000000000000) :
    Calls Tryd.prog 24 #[.slice a1 n1 c1, .slice a2 n2 c2] w (GivesD (.bool (decide (l1 = l2))) w) := by
  have HL1 := Lib.hid h1
  have HL2 := Lib.hid h2
  have hn1 := Lib.hid h1.1
  have hn2 := Lib.hid h2.1
  obtain ⟨B, hB⟩ : ∃ B, B = decide (l1 = l2) := ⟨_, rfl⟩
  rw [← hB]
  have HBQ := Lib.hid hB
  clear h1 h2 hB
  by_cases he : n1 = n2
  · have t1 : ((n1 : Int) != (n2 : Int)) = false := by simp [he]
    have t2 : (n1 != n2) = false := by simp [he]
    have hle : n1 ≤ n2 := by omega
    have HEQ := Lib.hid he
    clear he
    go_enter Tryd.func24, Tryd.ntmps24
    go_wp2_with fail
    go_loopw [5] (fun t wr => ∃ k : Nat, t = .int .i64 k ∧ k ≤ n1 ∧ (∀ j (hj : j < l1.length) (hj2 : j < l2.length), j < k → l1[j] = l2[j]) ∧ ∃ q, wr = w.drewN q) (fun t _ => n1 - (intOf t).toNat)
    case atStart => exact ⟨0, rfl, by omega, fun j _ _ h => by omega, 0, rfl⟩
    case round =>
      obtain ⟨k, rfl, hk, hal, q, rfl⟩ := hrel
      have HA := Lib.hid hal
      clear hal
      by_cases hlt : k < n1
      · have hk1 : k < l1.length := by have := hn1.out; omega
        have hk2 : k < l2.length := by have := hn2.out; omega
        obtain ⟨b, off, rfl, hc1⟩ := HL1.out.2.2.2 k hk1
        obtain ⟨b', off', rfl, hc2⟩ := HL2.out.2.2.2 k hk2
        have ti0 : (0 : Int) ≤ (k : Int) := by omega
        have ti1 : (k : Int) < (n1 : Int) := by omega
        have tj1 : (k : Int) < (n2 : Int) := by omega
        have tj2 : k < n2 := by omega
        cases hx : (l1[k].toList == l2[k].toList)
        · have H1 := Lib.hid (show B = false by
            rw [HBQ.out, decide_eq_false_iff_not]
            intro e
            subst e
            simp at hx)
          have hx2 : (l1[k].toList != l2[k].toList) = true := by simp only [bne, hx]; rfl
          go_wp2_with fail
          go_quiet (fail)
          go_wp2_with fail
          go_ret
          exact givesD_bool (by rw [H1.out]) ⟨_, drewN_drewN _ _ _⟩
        · have HQ := Lib.hid hx
          have hx2 : (l1[k].toList != l2[k].toList) = false := by simp only [bne, hx]; rfl
          go_wp2_with fail
          go_quiet (fail)
          go_wp2_with fail
          go_roundw
          case rel =>
            refine ⟨k + 1, by go_num, by omega, fun j hj hj2 hjk => ?_, _, rfl⟩
            by_cases e : j = k
            · subst e; exact toList_inj (beq_iff_eq.1 HQ.out)
            · exact HA.out j hj hj2 (by omega)
          case measure => simp [intOf]; omega
      · have H1 := Lib.hid (show B = true by
          rw [HBQ.out, decide_eq_true_eq]
          have e1 := hn1.out
          have e2 := hn2.out
          have e3 := HEQ.out
          exact List.ext_getElem (by omega) (fun j hj hj2 => HA.out j hj hj2 (by omega)))
        go_wp2_with fail
        go_ret
        exact givesD_bool (by rw [H1.out]) ⟨q, rfl⟩
  · have t1 : ((n1 : Int) != (n2 : Int)) = true := by simp [bne_iff_ne]; omega
    have t2 : (n1 != n2) = true := by simp [bne_iff_ne]; omega
    have H1 := Lib.hid (show B = false by
      rw [HBQ.out, decide_eq_false_iff_not]
      intro e
      have e1 := hn1.out
      have e2 := hn2.out
      rw [e] at e1
      omega)
    go_enter Tryd.func24, Tryd.ntmps24
    go_wp2_with fail
    go_ret
    exact givesD_bool (by rw [H1.out]) ⟨0, rfl⟩
end Go.Proofs.YtaepiiediblleaaDoor

namespace Go.Proofs.YtaepiiediblleaaDoor
open Go.RowKit

/-- The reference's look at one node; na, nw: the numbers of arguments and of words. -/
def refNode (op : Int) (name : ByteArray) (words : List ByteArray) (lo hi : Int) (na nw : Nat) : Bool :=
  decide (1 ≤ op ∧ op ≤ 8) && (if op == 3 || op == 4 || op == 5 then nameB name else name.toList.isEmpty) && (if op == 4 then decide (1 ≤ nw) && decide (nw ≤ 12) && words.all nameB && decide words.Nodup else decide (nw = 0)) &&
  (if op == 5 then numberB lo && numberB hi && decide (lo ≤ hi) else (lo == 0) && (hi == 0)) && (if op == 6 then decide (na = 1) else if op == 7 || op == 8 then decide (2 ≤ na) else decide (na = 0))
def refNodeB (e : Ex) : Bool := refNode e.op e.name e.words e.lo e.hi e.args.length e.words.length

theorem int_beq0 (n : Nat) : ((n : Int) == 0) = decide (n = 0) := by rw [Bool.eq_iff_iff]; simp
theorem int_beq1 (n : Nat) : ((n : Int) == 1) = decide (n = 1) := by rw [Bool.eq_iff_iff]; simp; omega
set_option maxRecDepth 100000 in
set_option maxHeartbeats 4000000 in
theorem rnode_calls (e : Ex) (v : Value) (w : World) (he : IsEx w e v) (hs : e.name.size ≤ 1000000000000000) (hws : ∀ x ∈ e.words, x.size ≤ 1000000000000000) (hnw : e.words.length ≤ 1000000000000000) :
    Calls Tryd.prog 59 #[v] w (GivesE (.bool (refNodeB e)) w) := by
  obtain ⟨aw, nw, cw, aa, na, ca, rfl, hw, hna, hca, ha, hx⟩ := he.parts
  clear he hx ha hca
  have HW := Lib.hid hw
  have HS := Lib.hid hws
  have hnw' : nw ≤ 1000000000000000 := by have := hw.1; omega
  have HB := Lib.hid (show refNodeB e = refNode e.op e.name e.words e.lo e.hi na nw by unfold refNodeB; rw [hna, hw.1])
  generalize refNodeB e = B at *
  clear hw hws hna hnw
  obtain ⟨op, name, words, lo, hi, args⟩ := e
  simp only [Ex.op, Ex.name, Ex.words, Ex.lo, Ex.hi] at *
  unfold exV
  by_cases h1 : 1 ≤ op
  · by_cases h8 : op ≤ 8
    · have hk : op = 1 ∨ op = 2 ∨ op = 3 ∨ op = 4 ∨ op = 5 ∨ op = 6 ∨ op = 7 ∨ op = 8 := by omega
      clear h1 h8
      rcases hk with rfl | rfl | rfl | rfl | rfl | rfl | rfl | rfl
      case inr.inr.inr.inl =>
        obtain ⟨P, hP⟩ : ∃ P, P = words.all nameB := ⟨_, rfl⟩
        obtain ⟨Q, hQ⟩ : ∃ Q, Q = decide words.Nodup := ⟨_, rfl⟩
        have HP := Lib.hid hP
        have HQ := Lib.hid hQ
        have HB2 := Lib.hid (show B = (nameB name && (decide (1 ≤ nw) && decide (nw ≤ 12) && P && Q) && ((lo == 0) && (hi == 0)) && decide (na = 0)) by rw [HB.out]; unfold refNode; rw [hP, hQ]; simp)
        clear hP hQ HB
        cases P
        all_goals cases Q
        all_goals
          by_cases hn1 : 1 ≤ nw
          · by_cases hn2 : nw ≤ 12
            · have t1 : decide ((nw : Int) < 1) = false := by simp; omega
              have t2 : decide ((12 : Int) < nw) = false := by simp; omega
              have HB3 := Lib.hid HB2.out
              simp only [hn1, hn2, decide_true, Bool.false_and, Bool.and_false, Bool.and_true] at HB3
              clear HB2
              go_enter Tryd.func59, Tryd.ntmps59
              go_wp2_with (first
                | (go_at_call 85; refine (rname_calls _ _ hs).mono ?_; rintro e w' ⟨rfl, rfl⟩)
                | (go_at_call 86; refine (names_calls words _ _ _ _ (HW.out.ext ((Ext.refl w).alloc _)) hnw' HS.out).mono ?_; rintro e w' ⟨rfl, rfl⟩; rw [← HP.out])
                | (go_at_call 87; refine (distinct_calls words _ _ _ _ (HW.out.ext ((Ext.refl w).alloc _)) hnw').mono ?_; rintro e w' ⟨rfl, q, rfl⟩; rw [← HQ.out]))
              all_goals (go_ret; exact givesE_bool (by first | (rw [HB3.out]; done) | (rw [HB3.out]; simp_all [int_beq0])) (by first | exact (Ext.refl w).alloc _ | exact ((Ext.refl w).alloc _).drewN _))
            · have t1 : decide ((nw : Int) < 1) = false := by simp; omega
              have t2 : decide ((12 : Int) < nw) = true := by simp; omega
              have HF := Lib.hid (show B = false by rw [HB2.out]; simp [hn2])
              clear HB2
              go_enter Tryd.func59, Tryd.ntmps59
              go_wp2_with (go_at_call 85; refine (rname_calls _ _ hs).mono ?_; rintro e w' ⟨rfl, rfl⟩)
              all_goals (go_ret; exact givesE_bool (by rw [HF.out]) ((Ext.refl w).alloc _))
          · have t1 : decide ((nw : Int) < 1) = true := by simp; omega
            have HF := Lib.hid (show B = false by rw [HB2.out]; simp [hn1])
            clear HB2
            go_enter Tryd.func59, Tryd.ntmps59
            go_wp2_with (go_at_call 85; refine (rname_calls _ _ hs).mono ?_; rintro e w' ⟨rfl, rfl⟩)
            all_goals (go_ret; exact givesE_bool (by rw [HF.out]) ((Ext.refl w).alloc _))
      all_goals
        go_enter Tryd.func59, Tryd.ntmps59
        go_wp2_with (first
          | (go_at_call 85; refine (rname_calls _ _ hs).mono ?_; rintro e w' ⟨rfl, rfl⟩)
          | (go_at_call 88; refine (far_calls _ _).mono ?_; rintro e w' ⟨rfl, rfl⟩))
        all_goals (go_ret; exact givesE_bool (by rw [HB.out]; simp_all [refNode, int_beq0, int_beq1]; try omega) ((Ext.refl w).alloc _))
    · have H := Lib.hid (show B = false by rw [HB.out]; simp [refNode, h8])
      have t1 : decide (op < 1) = false := by simp; omega
      have t2 : decide (8 < op) = true := by simp; omega
      have e3 : (op == 3) = false := by simp; omega
      have e4 : (op == 4) = false := by simp; omega
      have e5 : (op == 5) = false := by simp; omega
      go_enter Tryd.func59, Tryd.ntmps59
      go_wp2_with fail
      go_ret
      exact givesE_bool (by rw [H.out]) ((Ext.refl w).alloc _)
  · have H := Lib.hid (show B = false by rw [HB.out]; simp [refNode, h1])
    have t1 : decide (op < 1) = true := by simp; omega
    have e3 : (op == 3) = false := by simp; omega
    have e4 : (op == 4) = false := by simp; omega
    have e5 : (op == 5) = false := by simp; omega
    go_enter Tryd.func59, Tryd.ntmps59
    go_wp2_with fail
    go_ret
    exact givesE_bool (by rw [H.out]) ((Ext.refl w).alloc _)
end Go.Proofs.YtaepiiediblleaaDoor
