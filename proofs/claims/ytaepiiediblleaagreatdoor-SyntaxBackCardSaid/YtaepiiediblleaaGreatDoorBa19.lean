/-
  Texts of the claim, joined: Fine, SFormat, Par1, RefSame, Awake, BackLaw.
-/
import Derived.Test.YtaepiiediblleaaGreatDoorBa18
import Derived.Test.YtaepiiediblleaaGreatDoorBa13
import Derived.Test.YtaepiiediblleaaGreatDoorBa10
import Derived.Test.YtaepiiediblleaaGreatDoorBa11
import Derived.Test.YtaepiiediblleaaGreatDoorBa02
namespace Go.Proofs.YtaepiiediblleaaGreatDoor
open Go.RowKit

theorem IntsAt.ext {w w' : World} {a : Option Addr} {n : Nat} (h : IntsAt w a n) (hx : Ext w w') : IntsAt w' a n := fun i hi => by
  obtain ⟨b, off, z, e, hc⟩ := h i hi
  exact ⟨b, off, z, e, hx.cell hc⟩
/-- An expression was made. -/
theorem lexpr_fine (la : Option Addr) (ln lc : Nat) (w : World) (hi : IntsAt w la ln) (hl : ln ≤ 1000000000000000) :
    Calls Tryz.prog 11 #[.slice la ln lc] w (fun e w' => ∃ (x : Ex) (v : ExV), e = .returned v.val ∧ Fine 4 x ∧ IsEx w' x v.val ∧ Ext w w') := by
  refine (lexpr_calls la ln lc w hi hl [] (by simp)).mono ?_
  rintro e w' ⟨x, v, attrs, rfl, hat, hm, hix, hx⟩
  exact ⟨x, v, rfl, made_fine hat 4 x hm, hix.mono (mask_sub _ _), hx⟩
/-- The text of an expression that was made. -/
theorem format_fine {e : Ex} (hf : Fine 4 e) (ev : Value) (w : World) (he : IsEx w e ev) : Calls Tryz.prog 10 #[ev] w (JoinQ (fmtB e) 0 w) := by
  have b := bound4
  have h1 := hf.size; have h2 := hf.depth; have h3 := hf.len; have h4 := hf.wt
  have h5 := pcsB_joinPc_le (tokE e) true
  exact format_calls e ev w he hf.ok (by omega) (by omega) (by omega) (by unfold fmtB fmtPc; omega)
theorem fmtB_len {e : Ex} (hf : Fine 4 e) : (fmtB e).length ≤ 4445 := by
  have b := bound4
  have h4 := hf.wt
  have h5 := pcsB_joinPc_le (tokE e) true
  unfold fmtB fmtPc; omega
def ba (b : List UInt8) : ByteArray := ⟨b.toArray⟩
theorem ba_app (a b : List UInt8) : ba a ++ ba b = ba (a ++ b) := app_str a b
end Go.Proofs.YtaepiiediblleaaGreatDoor

namespace Go.Proofs.YtaepiiediblleaaGreatDoor
open Go.RowKit

theorem listed_len : (l : List ByteArray) → (listedT l).length ≤ 2 * l.length
  | [] => by simp [listedT]
  | [s] => by simp [listedT]
  | s :: t :: r => by
    have := listed_len (t :: r)
    simp only [listedT, List.length_cons] at *
    omega
theorem words_len {l : List ByteArray} (h : wordsB l = true) : l.length ≤ 12 := by
  simp only [wordsB, Bool.and_eq_true, decide_eq_true_eq] at h
  exact h.1.1.2
mutual
theorem tokE_len : (e : Ex) → okTree e → (tokE e).length + 3 ≤ 31 * e.size
  | .mk op name words lo hi args, h => by
    rw [okTree] at h
    obtain ⟨hn, ha⟩ := h
    have hs : (Ex.mk op name words lo hi args).size = 1 + sizes args := by simp [Ex.size]
    have h1 := tokArgs_len op args ha
    have h2 := listed_len words
    rw [tokE, hs]
    unfold okNode at hn
    simp only [Ex.op, Ex.name, Ex.words, Ex.lo, Ex.hi, Ex.args] at hn
    split
    · simp; omega
    split
    · simp; omega
    split
    · simp; omega
    split
    · have h3 : words.length ≤ 12 := by
        rcases hn with h | h | h | h | h | h | h
        · omega
        · omega
        · omega
        · exact words_len h.2.2.1
        · omega
        · omega
        · omega
      simp only [List.length_append, List.length_cons, List.length_nil]; omega
    split
    · simp; omega
    split
    · simp only [List.length_append, List.length_cons, List.length_nil]; omega
    · simp only [List.length_append, List.length_nil]; omega
theorem tokArgs_len (op : Int) : (l : List Ex) → okTrees l → (tokArgs op l).length ≤ 31 * sizes l
  | [], _ => by simp [tokArgs]
  | a :: r, h => by
    rw [okTrees] at h
    have h1 := tokE_len a h.1
    have h2 := tokMore_len op r h.2
    rw [tokArgs, sizes]
    split <;> simp only [List.length_append, List.length_cons, List.length_nil] <;> omega
theorem tokMore_len (op : Int) : (l : List Ex) → okTrees l → (tokMore op l).length ≤ 31 * sizes l
  | [], _ => by simp [tokMore]
  | a :: r, h => by
    rw [okTrees] at h
    have h1 := tokE_len a h.1
    have h2 := tokMore_len op r h.2
    rw [tokMore, sizes]
    cases hp : paren op a.op <;> simp only [Bool.false_eq_true, if_false, if_true, List.length_append, List.length_cons, List.length_nil] <;> omega
end
/-- What the program's Format gives. -/
def fmtR (e : Ex) : List UInt8 × Int := if validB e then joinR (tokE e) else ([], 5)

set_option maxRecDepth 100000 in
set_option maxHeartbeats 2000000 in
theorem sformat_calls (e : Ex) (ev : Value) (w : World) (he : IsEx w e ev) (hf : e.fits) (ho : HasOps w) (htab : HasTab w) : Calls Tryz.prog 15 #[ev] w (JoinQ (fmtR e).1 (fmtR e).2 w) := by
  obtain ⟨aw, nw, cw, aa, na, ca, rfl, hw, hna, hca, ha, hx⟩ := he.parts
  have HX := Lib.hid ((Ext.refl w).alloc (.cells #[.int .i64 e.op, .string e.name, .slice aw nw cw, .int .i64 e.lo, .int .i64 e.hi, .slice aa na ca] 28))
  have HBX := Lib.hid (alloc_new w (.cells #[.int .i64 e.op, .string e.name, .slice aw nw cw, .int .i64 e.lo, .int .i64 e.hi, .slice aa na ca] 28))
  have HE := Lib.hid (he.ext HX.out)
  have HF := Lib.hid hf
  have HO := Lib.hid ho
  have HTB := Lib.hid htab
  have HR := Lib.hid (show fmtR e = if validB e then joinR (tokE e) else ([], 5) from rfl)
  clear hw hna hca ha hx he hf ho htab
  unfold exV at *
  go_enter Tryz.func15, Tryz.ntmps15
  go_wp2_with fail
  generalize w.alloc (.cells #[.int .i64 e.op, .string e.name, .slice aw nw cw, .int .i64 e.lo, .int .i64 e.hi, .slice aa na ca] 28) = wb at *
  refine (Valid_calls e _ _ HE.out (HO.out.ext HX.out) HF.out).mono ?_
  rintro r w1 ⟨rfl, hx1⟩
  have hb1 := hx1.blk HBX.out
  have hlt := blk_lt hb1
  obtain ⟨b0, b1, b2, b3, b4, b5, bf⟩ := blk6 hb1
  have HX1 := Lib.hid (HX.out.trans hx1)
  have HE1 := Lib.hid (HE.out.ext hx1)
  clear hx1 hb1
  cases hv : validB e with
  | false =>
    rw [hv] at HR
    go_wp2_with fail
    go_ret2
    rw [HR.out]
    exact ⟨rfl, HX1.out⟩
  | true =>
    rw [hv] at HR
    obtain ⟨hok, hdp, hsz⟩ := (valid_ok e).1 hv
    have HGD := Lib.hid (good_tokE e.size e (Nat.le_refl _) hok)
    have HOK := Lib.hid hok
    have hlen := tokE_len e hok
    clear hok hv
    go_wp2_with fail
    refine (app_calls (HO.out.ext HX1.out) 300 (by omega) e [] (.slice none 0 0) w1.heap.size w1 _ hsz HOK.out (Ext.refl w1) (Nat.le_refl _) (HE1.out.mono (sub_mask_nil w1)) (World.ownsRow_nil _ _ _ _) (by omega) (by simp; omega)).mono ?_
    rintro r w2 ⟨v', rfl, ho, hg⟩
    rw [List.nil_append] at ho
    obtain ⟨a, c, rfl, hrows⟩ := IsRows.of_owns (f := tokCells) (fun _ => rfl) ho
    have HX2 := Lib.hid (hg.1.ext HX1.out (by intro q hq; simp [rowOf, Value.ownBlock] at hq))
    have HRW := Lib.hid hrows
    clear ho hg hrows b0 b1 b2 b3 b4 b5 bf
    go_wp2_with fail
    refine (sjoin_calls _ a _ c w2 HRW.out HGD.out (HTB.out.ext HX2.out)).mono ?_
    rintro r w3 ⟨rfl, hx3⟩
    have HX3 := Lib.hid (HX2.out.trans hx3)
    clear hx3
    have HR2 := Lib.hid (show fmtR e = joinR (tokE e) from HR.out)
    clear HR
    generalize joinR (tokE e) = J at *
    unfold bstr
    go_wp2_with fail
    refine bodyPost_ret (v := .tuple #[bstr J.1, .int .i64 J.2]) (by simp [results, Tryz.results15, go_sem, bstr]) rfl ⟨by rw [HR2.out], HX3.out⟩
theorem fmtR_ok {e : Ex} (hf : Fine 4 e) : fmtR e = (fmtB e, 0) := by
  have b := bound4
  have h1 := hf.size; have h2 := hf.depth; have h3 := hf.len; have h4 := hf.wt
  have h5 := pcsB_joinPc_le (tokE e) true
  have hv : validB e = true := (valid_ok e).2 ⟨hf.ok, by omega, by omega⟩
  have h6 : (pcsB (joinPc true (tokE e))).length ≤ 16384 := by omega
  rw [fmtR, if_pos hv, joinR, if_neg (by omega), if_neg (by omega)]
  rfl
end Go.Proofs.YtaepiiediblleaaGreatDoor

namespace Go.Proofs.YtaepiiediblleaaGreatDoor

def parN : Nat → List Pc → List Pc
  | 0, l => l
  | n + 1, l => [.tk (markT 40)] ++ parN n l ++ [.tk (markT 41)]
def parNT : Nat → List Tok → List Tok
  | 0, l => l
  | n + 1, l => [markT 40] ++ parNT n l ++ [markT 41]
theorem toksOf_parN : (n : Nat) → (l : List Pc) → toksOf (parN n l) = parNT n (toksOf l)
  | 0, l => rfl
  | n + 1, l => by rw [parN, toksOf_append, toksOf_append, toksOf_parN n l]; rfl
theorem sepA_parN {l : List Pc} (h : sepA false l = true) : (n : Nat) → sepA false (parN n l) = true
  | 0 => h
  | n + 1 => by
    have ih := sepA_parN h n
    have e4 : ∀ q, sepA q [.tk (markT 41)] = true := fun q => by simp [sepA, markT]
    rw [parN, sepA_append, sepA_append, e4, show endA false [.tk (markT 40)] = false from rfl, ih]
    rfl
theorem parN_len : (n : Nat) → (l : List Pc) → (pcsB (parN n l)).length = (pcsB l).length + 2 * n
  | 0, l => rfl
  | n + 1, l => by
    have ih := parN_len n l
    rw [parN, pcsB_append, pcsB_append, List.length_append, List.length_append, ih]
    have q1 : (pcsB [.tk (markT 40)]).length = 1 := rfl
    have q2 : (pcsB [.tk (markT 41)]).length = 1 := rfl
    omega
theorem parNT_len : (n : Nat) → (l : List Tok) → (parNT n l).length = l.length + 2 * n
  | 0, l => rfl
  | n + 1, l => by simp [parNT, parNT_len n l]; omega
theorem good_parN {l : List Tok} (h : ∀ t ∈ l, goodT t) : (n : Nat) → ∀ t ∈ parNT n l, goodT t
  | 0 => h
  | n + 1 => by
    have ih := good_parN h n
    intro t ht
    simp only [parNT, List.mem_append, List.mem_singleton] at ht
    rcases ht with (rfl | ht) | rfl
    · exact goodT_mark (by decide)
    · exact ih t ht
    · exact goodT_mark (by decide)
theorem parN_gr {toks : List Tok} {e : Ex} (hok : okTree e) : (n k : Nat) → AtT toks k (parNT n (tokE e)) → NoTail toks (k + (parNT n (tokE e)).length) → acceptB toks (k + (parNT n (tokE e)).length) 1 wAnd = false → acceptB toks (k + (parNT n (tokE e)).length) 1 wOr = false → Gr toks .ors k [] e 0 (k + (parNT n (tokE e)).length)
  | 0, k, ha, ht, h1, h2 => (reads_ok toks e.size e (Nat.le_refl _) hok).ors ha ht h1 h2
  | n + 1, k, ha, ht, h1, h2 => by
    rw [parNT, AtT.append, AtT.append] at ha
    obtain ⟨⟨g1, g2⟩, g3⟩ := ha
    have hl : k + (parNT (n + 1) (tokE e)).length = k + 1 + (parNT n (tokE e)).length + 1 := by simp [parNT]; omega
    rw [hl] at h1 h2 ⊢
    simp only [List.length_singleton] at g2
    rw [show k + ([markT 40] ++ parNT n (tokE e)).length = k + 1 + (parNT n (tokE e)).length by simp; omega] at g3
    have ho : ∃ p, toks[k]? = some ⟨(markT 40).kind, (markT 40).text, (markT 40).num, p⟩ := g1.1
    have hc : ∃ p, toks[k + 1 + (parNT n (tokE e)).length]? = some ⟨(markT 41).kind, (markT 41).text, (markT 41).num, p⟩ := g3.1
    have ih := parN_gr hok n (k + 1) g2 (noTail_mark hc) (ends_mark hc).1 (ends_mark hc).2
    exact Gr.orStop (acc := []) (Gr.andStop (acc := []) (Gr.negAtom (not_mark ho) (Gr.parenOk (by rw [accept_at ho]; simp [markT]) ih (by rw [accept_at hc]; simp [markT]))) h1) h2
theorem good_text {t : Tok} (h : goodT t) : t.text.size ≤ 1000000000000000 := by
  obtain ⟨_, ⟨_, h5, _⟩ | ⟨_, h5, _⟩ | ⟨_, _, c, h5, _⟩⟩ := h
  · simp only [wordB, Bool.and_eq_true, decide_eq_true_eq] at h5
    have := h5.1.1.1.2
    omega
  · rw [h5]; decide
  · rw [h5]; exact (by simp [ByteArray.size] : (⟨#[c]⟩ : ByteArray).size ≤ 1000000000000000)
/-- What is known of a text that is read as an expression. -/
structure TextOf (l : List Pc) (e : Ex) (ts : List Tok) : Prop where
  scan : scanAll ⟨(pcsB l).toArray⟩ = (ts, 0, 0)
  gr : Gr ts .ors 0 [] e 0 ts.length
  len : ts.length ≤ 4000
  text : ∀ t ∈ ts, t.text.size ≤ 1000000000000000
  bytes : (pcsB l).length ≤ 16384
  good : ∀ t ∈ toksOf l, goodT t
theorem textOf {l : List Pc} {e : Ex} (hsep : sepA false l = true) (hgood : ∀ t ∈ toksOf l, goodT t) (hT : (toksOf l).length ≤ 4000) (hlen : (pcsB l).length ≤ 16384) (hgr : ∀ ts, AtT ts 0 (toksOf l) → ts.length = (toksOf l).length → Gr ts .ors 0 [] e 0 ts.length) : ∃ ts, TextOf l e ts := by
  obtain ⟨ts, h1, h2⟩ := scanAll_pcs hsep hgood hT hlen
  obtain ⟨h3, h4⟩ := atT_all h2
  refine ⟨ts, h1, hgr ts h3 h4, by omega, fun t ht => ?_, hlen, hgood⟩
  have hz : zp t ∈ toksOf l := by rw [← h2]; exact List.mem_map_of_mem ht
  have := good_text (hgood (zp t) hz)
  exact this
theorem parN_text {a : Ex} (hf : Fine 4 a) {n : Nat} (hn : n ≤ 8) : ∃ ts, TextOf (parN n (fmtPc a)) a ts := by
  have bd4 := bound4
  have l1 := hf.len
  have w1 := hf.wt
  have w2 := pcsB_joinPc_le (tokE a) true
  have hT : (toksOf (parN n (fmtPc a))).length = (tokE a).length + 2 * n := by rw [toksOf_parN, toksOf_fmtPc, parNT_len]
  refine textOf (sepA_parN (sepA_joinPc (tokE a) true false (good_tokE a.size a (Nat.le_refl _) hf.ok) (by simp)) n) ?_ (by omega) (by rw [parN_len]; unfold fmtPc; omega) ?_
  · rw [toksOf_parN, toksOf_fmtPc]
    exact good_parN (good_tokE a.size a (Nat.le_refl _) hf.ok) n
  · intro ts h3 h4
    rw [toksOf_parN, toksOf_fmtPc] at h3 h4
    have := parN_gr hf.ok n 0 h3
    rw [Nat.zero_add, ← h4] at this
    exact this ⟨accept_end (Nat.le_refl _) _ _, accept_end (Nat.le_refl _) _ _⟩ (accept_end (Nat.le_refl _) _ _) (accept_end (Nat.le_refl _) _ _)

def wordT (op : Int) : Tok := nameT (if op = 7 then wAnd else wOr)
def morePc (op : Int) : List Ex → List Pc
  | [] => []
  | a :: r => [.sp, .tk (wordT op), .sp] ++ (parPc a ++ morePc op r)
def argsPc (op : Int) : List Ex → List Pc
  | [] => []
  | a :: r => parPc a ++ morePc op r
def moreT (op : Int) : List Ex → List Tok
  | [] => []
  | a :: r => wordT op :: (parT a ++ moreT op r)
def argsT (op : Int) : List Ex → List Tok
  | [] => []
  | a :: r => parT a ++ moreT op r
theorem toksOf_morePc (op : Int) : (l : List Ex) → toksOf (morePc op l) = moreT op l
  | [] => rfl
  | a :: r => by rw [morePc, toksOf_append, toksOf_append, toksOf_parPc, toksOf_morePc op r]; rfl
theorem toksOf_argsPc (op : Int) (l : List Ex) : toksOf (argsPc op l) = argsT op l := by
  cases l with
  | nil => rfl
  | cons a r => rw [argsPc, toksOf_append, toksOf_parPc, toksOf_morePc]; rfl
theorem morePc_snoc (op : Int) (a : Ex) : (l : List Ex) → morePc op (l ++ [a]) = morePc op l ++ ([.sp, .tk (wordT op), .sp] ++ parPc a)
  | [] => by simp [morePc]
  | b :: r => by simp [morePc, morePc_snoc op a r]
theorem argsPc_snoc (op : Int) (a : Ex) (l : List Ex) : argsPc op (l ++ [a]) = argsPc op l ++ ((if l.length = 0 then [] else [.sp, .tk (wordT op), .sp]) ++ parPc a) := by
  cases l with
  | nil => simp [argsPc, morePc]
  | cons b r => simp [argsPc, morePc_snoc]
theorem ands_par {toks : List Tok} : (r : List Ex) → (a : Ex) → (∀ x ∈ a :: r, okTree x) → (acc : List Ex) → (k : Nat) → AtT toks k (parT a ++ moreT 7 r) → acceptB toks (k + (parT a ++ moreT 7 r).length) 1 wAnd = false →
    Gr toks .ands k acc (joinE 7 (acc ++ a :: r)) 0 (k + (parT a ++ moreT 7 r).length)
  | [], a, hr, acc, k, ha, h1 => by
    simp only [moreT, List.append_nil] at *
    exact Gr.andStop (gr_par (hr a (by simp)) ha) h1
  | b :: r, a, hr, acc, k, ha, h1 => by
    rw [moreT, AtT.append] at ha
    obtain ⟨ha1, hw, ha2⟩ := ha
    have hlen : k + (parT a ++ moreT 7 (b :: r)).length = k + (parT a).length + 1 + (parT b ++ moreT 7 r).length := by rw [moreT]; simp; omega
    rw [hlen] at h1 ⊢
    have ih := ands_par r b (fun x hx => hr x (List.mem_cons_of_mem _ hx)) (acc ++ [a]) (k + (parT a).length + 1) ha2 h1
    refine Gr.andStep (gr_par (hr a (by simp)) ha1) (by rw [accept_at hw]; simp [wordT, nameT]) ?_
    simpa using ih
theorem ors_par {toks : List Tok} : (r : List Ex) → (a : Ex) → (∀ x ∈ a :: r, okTree x) → (acc : List Ex) → (k : Nat) → AtT toks k (parT a ++ moreT 8 r) → acceptB toks (k + (parT a ++ moreT 8 r).length) 1 wAnd = false → acceptB toks (k + (parT a ++ moreT 8 r).length) 1 wOr = false →
    Gr toks .ors k acc (joinE 8 (acc ++ a :: r)) 0 (k + (parT a ++ moreT 8 r).length)
  | [], a, hr, acc, k, ha, h1, h2 => by
    simp only [moreT, List.append_nil] at *
    exact Gr.orStop (Gr.andStop (acc := []) (gr_par (hr a (by simp)) ha) h1) h2
  | b :: r, a, hr, acc, k, ha, h1, h2 => by
    rw [moreT, AtT.append] at ha
    obtain ⟨ha1, hw, ha2⟩ := ha
    have hlen : k + (parT a ++ moreT 8 (b :: r)).length = k + (parT a).length + 1 + (parT b ++ moreT 8 r).length := by rw [moreT]; simp; omega
    rw [hlen] at h1 h2 ⊢
    have ih := ors_par r b (fun x hx => hr x (List.mem_cons_of_mem _ hx)) (acc ++ [a]) (k + (parT a).length + 1) ha2 h1 h2
    have hg : Gr toks .ands k [] a 0 (k + (parT a).length) := Gr.andStop (acc := []) (gr_par (hr a (by simp)) ha1) (by rw [accept_at hw]; simp [wordT, nameT, wAnd_ne.2.2.2.2.1])
    refine Gr.orStep hg (by rw [accept_at hw]; simp [wordT, nameT]) ?_
    simpa using ih
theorem args_gr {toks : List Tok} {a : Ex} (hok : okTree a) (h2 : 2 ≤ a.args.length) (ha : AtT toks 0 (argsT a.op a.args)) (hl : toks.length = (argsT a.op a.args).length) : Gr toks .ors 0 [] a 0 toks.length := by
  obtain ⟨hn, hargs⟩ := okTree_parts hok
  obtain ⟨hop, h3, h4, h5, h6⟩ : (a.op = 7 ∨ a.op = 8) ∧ a.name = ⟨#[]⟩ ∧ a.words = [] ∧ a.lo = 0 ∧ a.hi = 0 := by
    rcases hn with ⟨_, _, _, _, _, h⟩ | ⟨_, _, _, _, _, h⟩ | ⟨_, _, _, _, _, h⟩ | ⟨_, _, _, _, _, h⟩ | ⟨_, _, _, _, _, _, h⟩ | ⟨_, _, _, _, _, h⟩ | ⟨g1, g2, g3, g4, g5, _⟩
    · rw [h] at h2; simp at h2
    · rw [h] at h2; simp at h2
    · rw [h] at h2; simp at h2
    · rw [h] at h2; simp at h2
    · rw [h] at h2; simp at h2
    · omega
    · exact ⟨g1, g2, g3, g4, g5⟩
  obtain ⟨op, name, words, lo, hi, args⟩ := a
  simp only [Ex.op, Ex.name, Ex.words, Ex.lo, Ex.hi, Ex.args] at *
  subst h3 h4 h5 h6
  match args, h2, hargs, ha, hl with
  | x :: y :: r, _, hargs, ha, hl =>
    have hend : ∀ s, acceptB toks (0 + (argsT op (x :: y :: r)).length) 1 s = false := fun s => accept_end (by omega) _ _
    rcases hop with rfl | rfl
    · have := ands_par (y :: r) x hargs [] 0 ha (hend _)
      have e : 0 + (parT x ++ moreT 7 (y :: r)).length = toks.length := by rw [hl]; simp [argsT]
      rw [e] at this
      exact Gr.orStop (acc := []) this (accept_end (Nat.le_refl _) _ _)
    · have := ors_par (y :: r) x hargs [] 0 ha (hend _) (hend _)
      have e : 0 + (parT x ++ moreT 8 (y :: r)).length = toks.length := by rw [hl]; simp [argsT]
      rw [e] at this
      exact this
theorem wordT_good (op : Int) : goodT (wordT op) := by
  unfold wordT; split
  · exact goodT_name words_ok.2.2.2.2.2.2.1
  · exact goodT_name words_ok.2.2.2.2.2.2.2
theorem sepA_more (op : Int) : (l : List Ex) → (∀ x ∈ l, okTree x) → sepA false (morePc op l) = true
  | [], _ => rfl
  | a :: r, h => by
    rw [morePc]
    simp only [List.cons_append, List.nil_append, sepA, Bool.not_false, Bool.true_or, Bool.true_and]
    rw [sepA_par (h a (by simp))]
    exact sepA_more op r (fun x hx => h x (List.mem_cons_of_mem _ hx))
theorem good_more (op : Int) : (l : List Ex) → (∀ x ∈ l, okTree x) → ∀ t ∈ moreT op l, goodT t
  | [], _, t, ht => by simp [moreT] at ht
  | a :: r, h, t, ht => by
    rw [moreT] at ht
    rcases List.mem_cons.1 ht with rfl | ht
    · exact wordT_good op
    · rcases List.mem_append.1 ht with ht | ht
      · exact good_par (h a (by simp)) t ht
      · exact good_more op r (fun x hx => h x (List.mem_cons_of_mem _ hx)) t ht
theorem more_len (op : Int) : (l : List Ex) → (∀ x ∈ l, Fine 3 x) → (moreT op l).length ≤ 404 * l.length ∧ (pcsB (morePc op l)).length ≤ 1485 * l.length
  | [], _ => by simp [moreT, morePc, pcsB]
  | a :: r, h => by
    have ih := more_len op r (fun x hx => h x (List.mem_cons_of_mem _ hx))
    have f := h a (by simp)
    have b := bound4
    have f1 := f.len
    have f2 := parPc_len f
    have hw : (pcsB [.sp, .tk (wordT op), .sp]).length ≤ 5 := by unfold wordT; split <;> decide
    rw [moreT, morePc, pcsB_append, pcsB_append]
    simp only [List.length_cons, List.length_append, parT_len]
    omega
theorem args_text {a : Ex} (hf : Fine 4 a) (h2 : 2 ≤ a.args.length) (h3 : a.args.length ≤ 3) (hargs : ∀ x ∈ a.args, Fine 3 x) : ∃ ts, TextOf (argsPc a.op a.args) a ts := by
  have hok : ∀ x ∈ a.args, okTree x := fun x hx => (hargs x hx).ok
  have b := bound4
  have hm : (argsT a.op a.args).length ≤ 404 * a.args.length ∧ (pcsB (argsPc a.op a.args)).length ≤ 1485 * a.args.length := by
    cases hx : a.args with
    | nil => rw [hx] at h2; simp at h2
    | cons x r =>
      have m := more_len a.op r (fun y hy => hargs y (by rw [hx]; exact List.mem_cons_of_mem _ hy))
      have f := hargs x (by rw [hx]; simp)
      have f1 := f.len
      have f2 := parPc_len f
      rw [argsT, argsPc, pcsB_append]
      simp only [List.length_cons, List.length_append, parT_len]
      omega
  refine textOf ?_ ?_ (by rw [toksOf_argsPc]; omega) (by omega) ?_
  · cases hx : a.args with
    | nil => rfl
    | cons x r =>
      rw [argsPc, sepA_par (hok x (by rw [hx]; simp))]
      exact sepA_more _ r (fun y hy => hok y (by rw [hx]; exact List.mem_cons_of_mem _ hy))
  · rw [toksOf_argsPc]
    cases hx : a.args with
    | nil => intro t ht; simp [argsT] at ht
    | cons x r =>
      intro t ht
      rw [argsT] at ht
      rcases List.mem_append.1 ht with ht | ht
      · exact good_par (hok x (by rw [hx]; simp)) t ht
      · exact good_more _ r (fun y hy => hok y (by rw [hx]; exact List.mem_cons_of_mem _ hy)) t ht
  · intro ts h4 h5
    rw [toksOf_argsPc] at h4 h5
    exact args_gr hf.ok h2 h4 h5
theorem made_args {attrs : List Attr} (hs : attrs ∈ schemas) {d : Nat} {e : Ex} (h : MadeE attrs defOld (d + 2) e) : e.args.length ≤ 3 ∧ ∀ x ∈ e.args, Fine d x := by
  rcases h with h | ⟨hl, _, _, _, _, h⟩
  · rw [h.1]; simp
  · exact ⟨by omega, fun x hx => made_fine hs d x (h x hx)⟩
end Go.Proofs.YtaepiiediblleaaGreatDoor

namespace Go.Proofs.YtaepiiediblleaaGreatDoor
open Go.RowKit

/-- A bool that says whether P holds. -/
def SaysQ (P : Prop) (w : World) (e : Ending) (w' : World) : Prop := ∃ B : Bool, e = .returned (.bool B) ∧ (B = true ↔ P) ∧ Ext w w'
theorem says_false {P : Prop} {w w' : World} (h : ¬ P) (hx : Ext w w') : SaysQ P w (.returned (.bool false)) w' := ⟨false, rfl, by simp [h], hx⟩
theorem says_true {P : Prop} {w w' : World} (h : P) (hx : Ext w w') : SaysQ P w (.returned (.bool true)) w' := ⟨true, rfl, by simp [h], hx⟩
theorem Ex.ext_iff (a b : Ex) : a = b ↔ a.op = b.op ∧ a.name = b.name ∧ a.words = b.words ∧ a.lo = b.lo ∧ a.hi = b.hi ∧ a.args = b.args := by
  cases a; cases b; simp [Ex.op, Ex.name, Ex.words, Ex.lo, Ex.hi, Ex.args]

def RSame (P : Prop) (ba bb b1 o1 b2 o2 na ca nb cb k : Nat) (va vb : Value) : Nat → Value → World → Prop
  | 0, v, _ => v = .pointer (some ⟨ba, 5, none⟩)
  | 1, v, _ => v = .slice (some ⟨b1, o1, none⟩) na ca
  | 2, v, _ => v = .int .i64 k
  | 3, v, _ => v = .pointer (some ⟨b1, o1 + k * 6, none⟩)
  | 4, v, _ => v = va
  | 5, v, _ => v = .pointer (some ⟨bb, 5, none⟩)
  | 6, v, _ => v = .slice (some ⟨b2, o2, none⟩) nb cb
  | 7, v, _ => v = .int .i64 k
  | 8, v, _ => v = .pointer (some ⟨b2, o2 + k * 6, none⟩)
  | 9, v, _ => v = vb
  | 10, v, _ => ∃ B : Bool, v = .bool B ∧ (B = true ↔ P)
  | 11, v, _ => ∃ B : Bool, v = .bool (!B) ∧ (B = true ↔ P)
  | _, _, _ => True
theorem rsame_keeps {P : Prop} {ba bb b1 o1 b2 o2 na ca nb cb k : Nat} {va vb : Value} {i : Nat} {v : Value} {W W' : World} (hi : i < 12) (h : RSame P ba bb b1 o1 b2 o2 na ca nb cb k va vb i v W) : RSame P ba bb b1 o1 b2 o2 na ca nb cb k va vb i v W' := by
  have hi' : i = 0 ∨ i = 1 ∨ i = 2 ∨ i = 3 ∨ i = 4 ∨ i = 5 ∨ i = 6 ∨ i = 7 ∨ i = 8 ∨ i = 9 ∨ i = 10 ∨ i = 11 := by omega
  rcases hi' with rfl | rfl | rfl | rfl | rfl | rfl | rfl | rfl | rfl | rfl | rfl | rfl <;> exact h
def ESame (_ : Nat) (W W' : World) : Prop := Ext W W'
def GSame (w W : World) : Prop := Ext w W

set_option maxRecDepth 100000 in
set_option maxHeartbeats 4000000 in
theorem rsame_calls (m : Nat) : ∀ (a b : Ex) (va vb : Value) (w : World), a.size ≤ m → m ≤ 1000000000000000 → IsEx w a va → IsEx w b vb → a.few → Calls Tryz.prog 9 #[va, vb] w (SaysQ (a = b) w) := by
  induction m with
  | zero => intro a b va vb w h; have := size_pos a; omega
  | succ m ih =>
    intro a b va vb w hm hMM hea heb hfit
    obtain ⟨aw, nw, cw, aa, na, ca, rfl, hw, hna, hca, ha, hx⟩ := hea.parts
    obtain ⟨aw', nw', cw', ab, nb, cb, rfl, hw', hnb, hcb, hb, hy⟩ := heb.parts
    have hEQ := Ex.ext_iff a b
    have H : Hid (∀ (a b : Ex) (va vb : Value) (w : World), a.size ≤ m → IsEx w a va → IsEx w b vb → a.few → Calls Tryz.prog 9 #[va, vb] w (SaysQ (a = b) w)) := fun a b va vb w h1 h2 h3 h4 => ih a b va vb w h1 (by omega) h2 h3 h4
    have hS : a.size = 1 + sizes a.args := a.size_eq
    have hb2 : sizes a.args ≤ m := by omega
    have hla := length_le_sizes a.args
    have hna2 : na ≤ m := by omega
    obtain ⟨hf1, hf2⟩ := few_parts hfit
    have HF := Lib.hid hf2
    have hnw : nw ≤ 1000000000000000 := by have := hw.1; omega
    have HX := Lib.hid hx
    have HY := Lib.hid hy
    have HNA := Lib.hid hna
    have HNB := Lib.hid hnb
    have HEQ := Lib.hid hEQ
    have HW := Lib.hid hw
    have HW' := Lib.hid hw'
    obtain ⟨Pr, hP⟩ : ∃ Pr : Prop, Pr = (a = b) := ⟨_, rfl⟩
    rw [← hP]
    rw [← hP] at hEQ
    have HEQ := Lib.hid hEQ
    have HE2 := Lib.hid (((Ext.refl w).alloc (.cells #[.int .i64 a.op, .string a.name, .slice aw nw cw, .int .i64 a.lo, .int .i64 a.hi, .slice aa na ca] 28)).alloc (.cells #[.int .i64 b.op, .string b.name, .slice aw' nw' cw', .int .i64 b.lo, .int .i64 b.hi, .slice ab nb cb] 28))
    clear ih hx hy hna hnb hw hw' hca ha hcb hb hea heb hS hm hla hf1 hf2 hfit hEQ hP
    unfold exV
    by_cases c1 : a.op = b.op
    case neg =>
      have t1 : (a.op != b.op) = true := by simpa [bne_iff_ne] using c1
      have HNO := Lib.hid (show ¬ Pr from fun h => c1 (HEQ.out.1 h).1)
      clear c1
      go_enter Tryz.func9, Tryz.ntmps9
      go_wp2_with fail
      go_ret
      exact says_false HNO.out HE2.out
    case pos =>
    have t1 : (a.op != b.op) = false := by simpa using c1
    have HC1 := Lib.hid c1
    clear c1
    cases c2 : (a.name.toList == b.name.toList)
    case false =>
      have HNO := Lib.hid (show ¬ Pr from fun h => by rw [(HEQ.out.1 h).2.1] at c2; simp at c2)
      go_enter Tryz.func9, Tryz.ntmps9
      go_wp2_with fail
      go_ret
      exact says_false HNO.out HE2.out
    case true =>
    have HC2 := Lib.hid (toList_inj (beq_iff_eq.1 c2))
    by_cases c3 : a.lo = b.lo
    case neg =>
      have t3 : (a.lo != b.lo) = true := by simpa [bne_iff_ne] using c3
      have HNO := Lib.hid (show ¬ Pr from fun h => c3 (HEQ.out.1 h).2.2.2.1)
      clear c3
      go_enter Tryz.func9, Tryz.ntmps9
      go_wp2_with fail
      go_ret
      exact says_false HNO.out HE2.out
    case pos =>
    have t3 : (a.lo != b.lo) = false := by simpa using c3
    have HC3 := Lib.hid c3
    clear c3
    by_cases c4 : a.hi = b.hi
    case neg =>
      have t4 : (a.hi != b.hi) = true := by simpa [bne_iff_ne] using c4
      have HNO := Lib.hid (show ¬ Pr from fun h => c4 (HEQ.out.1 h).2.2.2.2.1)
      clear c4
      go_enter Tryz.func9, Tryz.ntmps9
      go_wp2_with fail
      go_ret
      exact says_false HNO.out HE2.out
    case pos =>
    have t4 : (a.hi != b.hi) = false := by simpa using c4
    have HC4 := Lib.hid c4
    clear c4
    have HSW := Lib.hid (sameWords_calls a.words b.words aw aw' nw cw nw' cw' _ (HW.out.ext HE2.out) (HW'.out.ext HE2.out) hnw)
    by_cases c5 : a.words = b.words
    case neg =>
      have HNO := Lib.hid (show ¬ Pr from fun h => c5 (HEQ.out.1 h).2.2.1)
      rw [decide_eq_false c5] at HSW
      clear c5
      go_enter Tryz.func9, Tryz.ntmps9
      go_wp2_with fail
      refine HSW.out.mono ?_
      rintro r w1 ⟨rfl, q, rfl⟩
      go_wp2_with fail
      go_ret
      exact says_false HNO.out (HE2.out.trans (Ext.drewN (Ext.refl _) _))
    case pos =>
    rw [decide_eq_true c5] at HSW
    have HC5 := Lib.hid c5
    clear c5
    by_cases c6 : na = nb
    case neg =>
      have t6 : ((na : Int) != (nb : Int)) = true := by simp [bne_iff_ne]; omega
      have t7 : (na != nb) = true := by simp [bne_iff_ne]; omega
      have HNO := Lib.hid (show ¬ Pr from fun h => c6 (by rw [HNA.out, HNB.out, (HEQ.out.1 h).2.2.2.2.2]))
      clear c6
      go_enter Tryz.func9, Tryz.ntmps9
      go_wp2_with fail
      refine HSW.out.mono ?_
      rintro r w1 ⟨rfl, q, rfl⟩
      go_wp2_with fail
      go_ret
      exact says_false HNO.out (HE2.out.trans (Ext.drewN (Ext.refl _) _))
    case pos =>
    have t6 : ((na : Int) != (nb : Int)) = false := by simp [c6]
    have t7 : (na != nb) = false := by simp [c6]
    have HEN := Lib.hid c6
    have hle : na ≤ nb := by omega
    clear c6
    go_enter Tryz.func9, Tryz.ntmps9
    go_wp2_with fail
    refine HSW.out.mono ?_
    rintro r w1 ⟨rfl, q, rfl⟩
    clear HSW
    go_wp2_with fail
    have HBA := Lib.hid (blk_alloc (o' := .cells #[.int .i64 b.op, .string b.name, .slice aw' nw' cw', .int .i64 b.lo, .int .i64 b.hi, .slice ab nb cb] 28) (alloc_new w (.cells #[.int .i64 a.op, .string a.name, .slice aw nw cw, .int .i64 a.lo, .int .i64 a.hi, .slice aa na ca] 28)))
    have HBB := Lib.hid (alloc_at (w := w.alloc (.cells #[.int .i64 a.op, .string a.name, .slice aw nw cw, .int .i64 a.lo, .int .i64 a.hi, .slice aa na ca] 28)) (o := .cells #[.int .i64 b.op, .string b.name, .slice aw' nw' cw', .int .i64 b.lo, .int .i64 b.hi, .slice ab nb cb] 28) (n := w.heap.size + 1) (by simp))
    have HEq := Lib.hid (show Ext ((w.alloc (.cells #[.int .i64 a.op, .string a.name, .slice aw nw cw, .int .i64 a.lo, .int .i64 a.hi, .slice aa na ca] 28)).alloc (.cells #[.int .i64 b.op, .string b.name, .slice aw' nw' cw', .int .i64 b.lo, .int .i64 b.hi, .slice ab nb cb] 28)) _ from Ext.drewN (Ext.refl _) q)
    go_loopw [5] (fun i wr => ∃ k : Nat, k ≤ na ∧ i = .int .i64 k ∧ (∀ j (h1 : j < a.args.length) (h2 : j < b.args.length), j < k → a.args[j] = b.args[j]) ∧ wr.heap[w.heap.size]? = some (.cells #[.int .i64 a.op, .string a.name, .slice aw nw cw, .int .i64 a.lo, .int .i64 a.hi, .slice aa na ca] 28 (0, 0)) ∧ wr.heap[w.heap.size + 1]? = some (.cells #[.int .i64 b.op, .string b.name, .slice aw' nw' cw', .int .i64 b.lo, .int .i64 b.hi, .slice ab nb cb] 28 (0, 0)) ∧ Ext w wr) (fun i _ => na - (intOf i).toNat)
    case atStart => exact ⟨0, by omega, rfl, fun j _ _ h => by omega, HEq.out.blk HBA.out, HEq.out.blk HBB.out, HE2.out.trans HEq.out⟩
    case round =>
      clear HBA HBB HEq t1 c2 t3 t4 t6 t7
      obtain ⟨k, hk, rfl, hall, hbx, hby, hb⟩ := hrel
      have HA := Lib.hid hall
      have HBX := Lib.hid hbx
      have HBY := Lib.hid hby
      have HB := Lib.hid hb
      have hlt0 := blk_lt hbx
      have hlt1 := blk_lt hby
      obtain ⟨b0, b1, b2, b3, b4, b5, bf⟩ := blk6 hbx
      obtain ⟨y0, y1, y2, y3, y4, y5, yf⟩ := blk6 hby
      clear hbx hby hb hall
      by_cases hlt : k < na
      · have hlt' : k < a.args.length := by have := HNA.out; omega
        have hlt2 : k < b.args.length := by have := HNB.out; have := HEN.out; omega
        have t1 : decide ((k : Int) < (na : Int)) = true := by simp; omega
        have hlt3 : k < nb := by omega
        obtain ⟨bb, off, rfl, aw1, nw1, cw1, aa1, na1, ca1, h0, h1, h2, h3, h4, h5, h6⟩ := ExsD.at a.args _ (ExsD.ext HB.out a.args _ HX.out) k hlt'
        obtain ⟨bb', off', rfl, aw2, nw2, cw2, aa2, na2, ca2, g0, g1, g2, g3, g4, g5, g6⟩ := ExsD.at b.args _ (ExsD.ext HB.out b.args _ HY.out) k hlt2
        have H6 := Lib.hid h6
        have G6 := Lib.hid g6
        have hsz := sizes_take_succ a.args k hlt'
        have hsl := sizes_take_le a.args (k + 1)
        have hk1 : a.args[k].size ≤ m := by omega
        clear h6 g6 hsz hsl
        have HK := Lib.hid (fun (W : World) (hW : Ext wr W) => H.out a.args[k] b.args[k] _ _ W hk1 (H6.out.ext hW) (G6.out.ext hW) (fewAll_at _ HF.out k hlt'))
        go_wp2_with fail
        refine wp_region_grow (m := 12) [11] (GSame wr) ESame (RSame (a.args[k] = b.args[k]) w.heap.size (w.heap.size + 1) bb off bb' off' na ca nb cb k (exV a.args[k].op a.args[k].name aw1 nw1 cw1 a.args[k].lo a.args[k].hi aa1 na1 ca1) (exV b.args[k].op b.args[k].name aw2 nw2 cw2 b.args[k].lo b.args[k].hi aa2 na2 ca2)) (by kernel_rfl) (by kernel_rfl) ((Ext.refl wr).drew) (fun i k v W W' hi _ _ _ hR _ => rsame_keeps hi hR) ?_ ?_
        · intro i o hi ho vs W hG hd ρ hρ
          have hi' : i = 0 ∨ i = 1 ∨ i = 2 ∨ i = 3 ∨ i = 4 ∨ i = 5 ∨ i = 6 ∨ i = 7 ∨ i = 8 ∨ i = 9 ∨ i = 10 ∨ i = 11 := by omega
          clear hi
          have o2 : ρ (.tmp 2) = .pointer (some ⟨w.heap.size, 0, none⟩) := hρ.out 2 rfl
          have o3 : ρ (.tmp 3) = .pointer (some ⟨w.heap.size + 1, 0, none⟩) := hρ.out 3 rfl
          have o5 : ρ (.tmp 5) = .int .i64 k := hρ.out 5 rfl
          have i0 := hρ.ins 0 56 (by omega) rfl (Nat.le_of_ble_eq_true rfl)
          have i1 := hρ.ins 1 57 (by omega) rfl (Nat.le_of_ble_eq_true rfl)
          have i2 := hρ.ins 2 58 (by omega) rfl (Nat.le_of_ble_eq_true rfl)
          have i3 := hρ.ins 3 59 (by omega) rfl (Nat.le_of_ble_eq_true rfl)
          have i4 := hρ.ins 4 60 (by omega) rfl (Nat.le_of_ble_eq_true rfl)
          have i5 := hρ.ins 5 61 (by omega) rfl (Nat.le_of_ble_eq_true rfl)
          have i6 := hρ.ins 6 62 (by omega) rfl (Nat.le_of_ble_eq_true rfl)
          have i7 := hρ.ins 7 63 (by omega) rfl (Nat.le_of_ble_eq_true rfl)
          have i8 := hρ.ins 8 64 (by omega) rfl (Nat.le_of_ble_eq_true rfl)
          have i9 := hρ.ins 9 65 (by omega) rfl (Nat.le_of_ble_eq_true rfl)
          have i10 := hρ.ins 10 66 (by omega) rfl (Nat.le_of_ble_eq_true rfl)
          have hcs := hρ.const
          have hfn := hρ.func
          clear hρ
          have hW : Ext wr W := hG
          replace b5 := hW.cell b5
          replace y5 := hW.cell y5
          replace h0 := hW.cell h0
          replace h1 := hW.cell h1
          replace h2 := hW.cell h2
          replace h3 := hW.cell h3
          replace h4 := hW.cell h4
          replace h5 := hW.cell h5
          replace g0 := hW.cell g0
          replace g1 := hW.cell g1
          replace g2 := hW.cell g2
          replace g3 := hW.cell g3
          replace g4 := hW.cell g4
          replace g5 := hW.cell g5
          clear b0 b1 b2 b3 b4 bf y0 y1 y2 y3 y4 yf
          have HG := Lib.hid hW
          clear hG hW
          rcases hi' with rfl | rfl | rfl | rfl | rfl | rfl | rfl | rfl | rfl | rfl | rfl | rfl
          · cases ho
            unfold GivesOp
            go_simp
            exact ⟨Ext.refl W, HG.out, rfl⟩
          · cases ho
            have r0 : vs 0 = _ := hd ⟨0, .data⟩ (by simp) rfl
            rw [r0] at i0
            unfold GivesOp
            go_simp
            exact ⟨Ext.refl W, HG.out, rfl⟩
          · cases ho
            unfold GivesOp
            go_simp
            exact ⟨Ext.refl W, HG.out, rfl⟩
          · cases ho
            have r1 : vs 1 = _ := hd ⟨1, .data⟩ (by simp) rfl
            rw [r1] at i1
            have r2 : vs 2 = _ := hd ⟨2, .data⟩ (by simp) rfl
            rw [r2] at i2
            unfold GivesOp
            go_simp
            exact ⟨Ext.refl W, HG.out, rfl⟩
          · cases ho
            have r3 : vs 3 = _ := hd ⟨3, .data⟩ (by simp) rfl
            rw [r3] at i3
            unfold GivesOp
            go_simp
            exact ⟨Ext.refl W, HG.out, rfl⟩
          · cases ho
            unfold GivesOp
            go_simp
            exact ⟨Ext.refl W, HG.out, rfl⟩
          · cases ho
            have r5 : vs 5 = _ := hd ⟨5, .data⟩ (by simp) rfl
            rw [r5] at i5
            unfold GivesOp
            go_simp
            exact ⟨Ext.refl W, HG.out, rfl⟩
          · cases ho
            unfold GivesOp
            go_simp
            exact ⟨Ext.refl W, HG.out, rfl⟩
          · cases ho
            have r6 : vs 6 = _ := hd ⟨6, .data⟩ (by simp) rfl
            rw [r6] at i6
            have r7 : vs 7 = _ := hd ⟨7, .data⟩ (by simp) rfl
            rw [r7] at i7
            unfold GivesOp
            go_simp
            exact ⟨Ext.refl W, HG.out, rfl⟩
          · cases ho
            have r8 : vs 8 = _ := hd ⟨8, .data⟩ (by simp) rfl
            rw [r8] at i8
            unfold GivesOp
            go_simp
            exact ⟨Ext.refl W, HG.out, rfl⟩
          · cases ho
            have r4 : vs 4 = _ := hd ⟨4, .data⟩ (by simp) rfl
            rw [r4] at i4
            have r9 : vs 9 = _ := hd ⟨9, .data⟩ (by simp) rfl
            rw [r9] at i9
            unfold GivesOp
            go_simp
            refine (HK.out W HG.out).mono ?_
            rintro r W1 ⟨B, rfl, hB, hx⟩
            exact ⟨_, rfl, hx, HG.out.trans hx, B, rfl, hB⟩
          · cases ho
            obtain ⟨B, r10, hB⟩ := hd ⟨10, .data⟩ (by simp) rfl
            rw [r10] at i10
            have HBB := Lib.hid hB
            clear hB
            unfold GivesOp
            go_simp
            exact ⟨Ext.refl W, HG.out, B, rfl, HBB.out⟩
        · intro vs W hG hR
          rw [if_pos (by decide +kernel)]
          obtain ⟨B, r11, hB⟩ := hR 11 (by simp) (by omega)
          have hW : Ext wr W := hG
          have HG := Lib.hid hW
          have HBB := Lib.hid hB
          simp only [acts, dstAt, List.range, List.range.loop, List.foldl_cons, List.foldl_nil, r11]
          go_simp
          have HBX2 := Lib.hid (hW.blk HBX.out)
          have HBY2 := Lib.hid (hW.blk HBY.out)
          clear hG hR hB hW r11 b0 b1 b2 b3 b4 b5 bf y0 y1 y2 y3 y4 y5 yf h0 h1 h2 h3 h4 h5 g0 g1 g2 g3 g4 g5
          cases B with
          | false =>
            have HNO := Lib.hid (show ¬ Pr from fun h => by
              have e := (HEQ.out.1 h).2.2.2.2.2
              have : a.args[k] = b.args[k] := by simp only [e]
              simpa using HBB.out.2 this)
            go_wp2_with fail
            go_ret
            exact says_false HNO.out (HB.out.trans HG.out)
          | true =>
            go_wp2_with fail
            go_roundw
            case rel =>
              refine ⟨k + 1, by omega, by go_num, fun j h1 h2 hjk => ?_, HBX2.out, HBY2.out, HB.out.trans HG.out⟩
              by_cases ej : j = k
              · subst ej; exact HBB.out.1 rfl
              · exact HA.out j h1 h2 (by omega)
            case measure => simp [intOf]; omega
      · have HPr := Lib.hid (show Pr from HEQ.out.2 ⟨HC1.out, HC2.out, HC5.out, HC3.out, HC4.out, List.ext_getElem (by have := HNA.out; have := HNB.out; have := HEN.out; omega) (fun j h1 h2 => HA.out j h1 h2 (by have := HNA.out; omega))⟩)
        have t1 : decide ((k : Int) < (na : Int)) = false := by simp; omega
        go_wp2_with fail
        go_ret
        exact says_true HPr.out HB.out
end Go.Proofs.YtaepiiediblleaaGreatDoor

namespace Go.Proofs.YtaepiiediblleaaGreatDoor
open Go.RowKit

def nm (c : UInt8) : Ex := .mk 3 ⟨#[c]⟩ [] 0 0 []
def awakeText : ByteArray := ⟨#[97, 32, 111, 114, 32, 98, 32, 97, 110, 100, 32, 110, 111, 116, 32, 99]⟩
def awakeToks : List Tok := [⟨1, ⟨#[97]⟩, 0, 0⟩, ⟨1, ⟨#[111, 114]⟩, 0, 2⟩, ⟨1, ⟨#[98]⟩, 0, 5⟩, ⟨1, ⟨#[97, 110, 100]⟩, 0, 7⟩, ⟨1, ⟨#[110, 111, 116]⟩, 0, 11⟩, ⟨1, ⟨#[99]⟩, 0, 15⟩]
def awakeEx : Ex := .mk 8 ⟨#[]⟩ [] 0 0 [nm 97, .mk 7 ⟨#[]⟩ [] 0 0 [nm 98, .mk 6 ⟨#[]⟩ [] 0 0 [nm 99]]]
theorem awake_scan : scanAll awakeText = (awakeToks, 0, 0) := by kernel_rfl
theorem awake_tokens : tokensF awakeToks 0 = (awakeEx, (awakeToks.length : Int), 0, 0) := by kernel_rfl
theorem awake_64 : ∀ i, i < awakeText.size → byteAt awakeText i ≠ 64 := by
  have h : (List.range 16).all (fun i => byteAt awakeText i != 64) = true := by decide +kernel
  intro i hi
  have := List.all_eq_true.1 h i (by rw [List.mem_range]; exact hi)
  simpa using this
theorem awake_parse (w : World) (ho : HasOps w) (M : List Nat) (hM : ∀ y ∈ M, y < w.heap.size) : Calls Tryz.prog 18 #[.string awakeText] w (ParseQ awakeEx 0 M w) :=
  Parse_ok awakeText awakeToks awakeEx w ho (by decide) awake_64 awake_scan (by decide) (fun t ht => by
    have h : awakeToks.all (fun t => decide (t.text.size ≤ 1000000000000000)) = true := by decide +kernel
    simpa using List.all_eq_true.1 h t ht) awake_tokens M hM

set_option maxRecDepth 100000 in
set_option maxHeartbeats 1000000 in
theorem awake_calls (w : World) (ho : HasOps w) : Calls Tryz.prog 6 #[] w (GivesE (.bool true) w) := by
  have HP := Lib.hid (awake_parse w ho [] (by simp))
  unfold awakeText at HP
  clear ho
  go_enter Tryz.func6, Tryz.ntmps6
  go_wp2_with fail
  refine HP.out.mono ?_
  rintro r w1 ⟨x, off, rfl, hx, h0, hE⟩
  obtain rfl := h0 rfl
  have hx' := hx.mono (mask_sub _ _)
  have HX := Lib.hid hx'
  obtain ⟨aw, nw, cw, aa, na, ca, e1, g1, g2, g3, g4, g5⟩ := hx'.parts
  rw [e1] at HX ⊢
  have hna : na = 2 := g2
  subst hna
  obtain ⟨b, o, ea, aw0, nw0, cw0, aa0, na0, ca0, p0, p1, p2, p3, p4, p5, p6⟩ := ExsD.at _ _ g5 0 (by decide)
  subst ea
  obtain ⟨b', o', ea, aw1, nw1, cw1, aa1, na1, ca1, q0, q1, q2, q3, q4, q5, q6⟩ := ExsD.at _ _ g5 1 (by decide)
  obtain ⟨rfl, rfl⟩ : b' = b ∧ o' = o := by simpa using ea.symm
  have hb := block_lt p1
  simp only [Nat.zero_mul, Nat.one_mul, Nat.add_zero] at p0 p1 p2 p3 p4 p5 q0 q1 q2 q3 q4 q5
  have p1' : w1.cell? ⟨b', o' + 1, none⟩ = some (.string ⟨#[97]⟩) := p1
  have q0' : w1.cell? ⟨b', o' + 6, none⟩ = some (.int .i64 7) := q0
  have HE := Lib.hid hE
  simp only at hb
  have hb2 : b' ≠ w1.heap.size := by omega
  clear hx hx' e1 g1 g2 g3 g4 g5 p0 p1 p2 p3 p4 p5 p6 q0 q1 q2 q3 q4 q5 q6 ea hE h0
  unfold exV awakeEx at *
  simp only [Ex.op, Ex.name, Ex.lo, Ex.hi] at *
  have HSZ := Lib.hid (size_calls 6 awakeEx _ _ (by decide +kernel) (by omega) (HX.out.ext ((Ext.refl w1).alloc (.cells #[.int .i64 8, .string ⟨#[]⟩, .slice aw nw cw, .int .i64 0, .int .i64 0, .slice (some ⟨b', o', none⟩) 2 ca] 28))))
  go_wp2_with fail
  refine HSZ.out.mono ?_
  rintro r w2 ⟨rfl, hx2⟩
  have hE2 := Lib.hid (HE.out.trans (((Ext.refl w1).alloc _).trans hx2))
  clear hx2
  rw [show awakeEx.size = 6 by decide +kernel]
  go_wp2_with fail
  go_ret
  exact ⟨rfl, hE2.out⟩
end Go.Proofs.YtaepiiediblleaaGreatDoor

namespace Go.Proofs.YtaepiiediblleaaGreatDoor
open Go.RowKit

theorem back_text {a : Ex} (hf : Fine 4 a) (w : World) (ho : HasOps w) : Calls Tryz.prog 18 #[bstr (fmtB a)] w (ParseQ a 0 [] w) := by
  obtain ⟨ts, h⟩ := parN_text hf (n := 0) (by omega)
  have b := bound4
  have h1 := hf.size; have h2 := hf.depth
  exact Parse_ok ⟨(fmtB a).toArray⟩ ts a w ho (by have := h.bytes; simp [ByteArray.size]; exact Nat.le_trans this (by omega)) (no64_pcs h.good) h.scan (by have := h.len; omega) h.text (tokensF_ok h.gr (by omega) (by omega)) [] (by simp)

set_option maxRecDepth 100000 in
set_option maxHeartbeats 4000000 in
theorem back_calls (l1 : Option Addr) (n1 q1 : Nat) (w : World) (ho : HasOps w) (htab : HasTab w) (h1 : IntsAt w l1 n1) (g1 : n1 ≤ 1000000000000000) :
    Calls Tryz.prog 5 #[.slice l1 n1 q1] w (GivesE (.bool true) w) := by
  have HO := Lib.hid ho
  have HTB := Lib.hid htab
  have H1 := Lib.hid h1
  clear ho h1 htab
  go_enter Tryz.func5, Tryz.ntmps5
  go_wp2_with fail
  refine (lexpr_fine _ _ _ _ H1.out g1).mono ?_
  rintro r w1 ⟨a, xa, rfl, hfa, hia, hx1⟩
  have HFA := Lib.hid hfa
  have HX1 := Lib.hid (hx1.trans ((Ext.refl w1).alloc (.cells xa.cells.toArray 28)))
  have HIA := Lib.hid (hia.ext ((Ext.refl w1).alloc (.cells xa.cells.toArray 28)))
  have HBA := Lib.hid (alloc_new w1 (.cells xa.cells.toArray 28))
  have HOKT := Lib.hid (okTree_fits a.size a (Nat.le_refl _) hfa.ok)
  have hsz : a.size ≤ 121 := by have := hfa.size; have b := bound4; omega
  have HFM := Lib.hid (fmtR_ok hfa)
  have HPT := Lib.hid (back_text hfa)
  clear hfa hia hx1 H1
  unfold ExV.val exV at *
  unfold ExV.cells at HX1 HIA HBA
  go_wp2_with fail
  generalize w1.alloc (.cells #[.int .i64 xa.op, .string xa.name, .slice xa.aw xa.nw xa.cw, .int .i64 xa.lo, .int .i64 xa.hi, .slice xa.aa xa.na xa.ca] 28) = wb at *
  refine (sformat_calls a _ _ HIA.out HOKT.out.1 (HO.out.ext HX1.out) (HTB.out.ext HX1.out)).mono ?_
  rintro r w2 ⟨rfl, hx2⟩
  rw [HFM.out]
  have HX2 := Lib.hid (HX1.out.trans hx2)
  have HIA2 := Lib.hid (HIA.out.ext hx2)
  have HBA2 := Lib.hid (hx2.blk HBA.out)
  clear hx2 HX1 HIA HBA
  have HC := Lib.hid (HPT.out w2 (HO.out.ext HX2.out))
  generalize fmtB a = T at *
  unfold bstr at *
  dsimp only
  go_wp2_with fail
  refine HC.out.mono ?_
  rintro r w4 ⟨xb, off, rfl, hib, hoff, hx4⟩
  obtain rfl := hoff rfl
  have HX4 := Lib.hid (HX2.out.trans (hx4.trans ((Ext.refl w4).alloc (.cells xb.cells.toArray 28))))
  have HIB := Lib.hid ((hib.mono (mask_sub _ _)).ext ((Ext.refl w4).alloc (.cells xb.cells.toArray 28)))
  have HIA4 := Lib.hid ((HIA2.out.ext hx4).ext ((Ext.refl w4).alloc (.cells xb.cells.toArray 28)))
  have HBA4 := Lib.hid (((Ext.refl w4).alloc (.cells xb.cells.toArray 28)).blk (hx4.blk HBA2.out))
  have HBB := Lib.hid (alloc_new w4 (.cells xb.cells.toArray 28))
  unfold ExV.val exV
  unfold ExV.cells at HX4 HIB HIA4 HBA4 HBB
  clear hib hoff hx4 HC HIA2 HBA2
  go_upto_region 4 with fail
  generalize w4.alloc (.cells [.int .i64 xb.op, .string xb.name, .slice xb.aw xb.nw xb.cw, .int .i64 xb.lo, .int .i64 xb.hi, .slice xb.aa xb.na xb.ca].toArray 28) = W5 at *
  obtain ⟨a0, a1, a2, a3, a4, a5, af⟩ := blk6 HBA4.out
  obtain ⟨b0, b1, b2, b3, b4, b5, bf⟩ := blk6 HBB.out
  have hla := blk_lt HBA4.out
  have hlb := blk_lt HBB.out
  have HSM := Lib.hid (rsame_calls a.size a a _ _ _ (Nat.le_refl _) (by omega) HIA4.out HIB.out HOKT.out.2)
  go_wp2_with fail
  refine HSM.out.mono ?_
  rintro r w6 ⟨B, rfl, hB, hx6⟩
  obtain rfl : B = true := hB.2 (by simp)
  have HX6 := Lib.hid (HX4.out.trans hx6)
  clear hx6 hB a0 a1 a2 a3 a4 a5 af b0 b1 b2 b3 b4 b5 bf HSM
  go_wp2_with fail
  refine (awake_calls _ (HO.out.ext HX6.out)).mono ?_
  rintro r w8 ⟨rfl, hx8⟩
  go_wp2_with fail
  go_ret
  exact ⟨rfl, HX6.out.trans hx8⟩
end Go.Proofs.YtaepiiediblleaaGreatDoor
