/-
  Texts of the claim, joined: Binds1, Ref1, Ref2, Ref3, Ref4.
-/
import Derived.Test.YtaepiiediblleaaGreatDoorTa12
import Derived.Test.YtaepiiediblleaaGreatDoorTa03
import Derived.Test.YtaepiiediblleaaGreatDoorTa08
import Derived.Test.YtaepiiediblleaaGreatDoorTa10
import Derived.Test.YtaepiiediblleaaGreatDoorTa02
namespace Go.Proofs.YtaepiiediblleaaGreatDoor

theorem accept_end {toks : List Tok} {k : Nat} (h : toks.length ≤ k) (kind : Int) (text : ByteArray) : acceptB toks k kind text = false := by rw [acceptB, List.getElem?_eq_none h]
theorem tokensF_ok {toks : List Tok} {e : Ex} (h : Gr toks .ors 0 [] e 0 toks.length) (h1 : e.size ≤ 300) (h2 : e.depth ≤ 16) : tokensF toks 0 = (e, (toks.length : Int), 0, 0) := by
  have hr := h.run
  rw [if_neg (by simp)] at hr
  unfold tokensF
  rw [show (0 : Int).toNat = 0 from rfl, hr, if_neg (by omega), if_neg (by simp), partOf_size, partOf_depth, if_neg (by omega), partOf_ex h1 h2]
theorem tokensF_limit {toks : List Tok} {e : Ex} (h : Gr toks .ors 0 [] e 0 toks.length) (h1 : 300 < e.size) : tokensF toks 0 = (ex0, 0, 0, 4) := by
  have hr := h.run
  rw [if_neg (by simp)] at hr
  unfold tokensF
  rw [show (0 : Int).toNat = 0 from rfl, hr, if_neg (by omega), if_neg (by simp), partOf_size, partOf_depth, if_pos (by omega)]
/-- The tokens of an expression in parentheses. -/
def parT (a : Ex) : List Tok := [markT 40] ++ tokE a ++ [markT 41]
def parPc (a : Ex) : List Pc := [.tk (markT 40)] ++ fmtPc a ++ [.tk (markT 41)]
theorem toksOf_fmtPc (a : Ex) : toksOf (fmtPc a) = tokE a := toksOf_joinPc _ _
theorem toksOf_parPc (a : Ex) : toksOf (parPc a) = parT a := by rw [parPc, toksOf_append, toksOf_append, toksOf_fmtPc]; rfl
theorem gr_par {toks : List Tok} {e : Ex} (hok : okTree e) {k : Nat} (ha : AtT toks k (parT e)) : Gr toks .neg k [] e 0 (k + (parT e).length) := (reads_ok toks e.size e (Nat.le_refl _) hok).parens ha
theorem parT_len (a : Ex) : (parT a).length = (tokE a).length + 2 := by simp [parT]

def notE (b : Ex) : Ex := .mk 6 ⟨#[]⟩ [] 0 0 [b]
def wantE (a b c : Ex) : Ex := .mk 8 ⟨#[]⟩ [] 0 0 [a, .mk 7 ⟨#[]⟩ [] 0 0 [notE b, c]]
def bindPc (a b c : Ex) : List Pc := parPc a ++ ([.sp, .tk (nameT wOr), .sp, .tk (nameT wNot), .sp] ++ (parPc b ++ ([.sp, .tk (nameT wAnd), .sp] ++ parPc c)))
def bindT (a b c : Ex) : List Tok := parT a ++ ([nameT wOr, nameT wNot] ++ (parT b ++ ([nameT wAnd] ++ parT c)))
theorem toksOf_bindPc (a b c : Ex) : toksOf (bindPc a b c) = bindT a b c := by
  simp only [bindPc, toksOf_append, toksOf_parPc, bindT, toksOf]
theorem binds_gr {toks : List Tok} {a b c : Ex} (ha : okTree a) (hb : okTree b) (hc : okTree c) (h : AtT toks 0 (bindT a b c)) (hl : toks.length = (bindT a b c).length) : Gr toks .ors 0 [] (wantE a b c) 0 toks.length := by
  unfold bindT at h
  rw [AtT.append, AtT.append, AtT.append, AtT.append] at h
  obtain ⟨h1, ⟨h2, h3, _⟩, h4, ⟨h5, _⟩, h6⟩ := h
  have ga := gr_par ha h1
  have gb := gr_par hb h4
  have gc := gr_par hc h6
  simp only [Nat.zero_add, List.length_cons, List.length_nil] at *
  have hend : (parT a).length + 2 + (parT b).length + 1 + (parT c).length = toks.length := by rw [hl]; simp [bindT]; omega
  rw [hend] at gc
  refine Gr.orStep (acc := []) (Gr.andStop (acc := []) ga (by rw [accept_at h2]; simp [nameT, wAnd_ne.2.2.2.2.1])) (by rw [accept_at h2]; simp [nameT]) ?_
  refine Gr.orStop (acc := [a]) (Gr.andStep (acc := []) (Gr.notOk (by rw [accept_at h3]; simp [nameT]) gb) (by rw [accept_at h5]; simp [nameT]) (Gr.andStop (acc := [notE b]) gc (accept_end (by omega) _ _))) (accept_end (by omega) _ _)
theorem sepA_par {a : Ex} (h : okTree a) (p : Bool) (r : List Pc) : sepA p (parPc a ++ r) = sepA false r := by
  have h1 : sepA false (fmtPc a) = true := sepA_joinPc (tokE a) true false (good_tokE a.size a (Nat.le_refl _) h) (by simp)
  unfold parPc
  rw [sepA_append, sepA_append, sepA_append]
  have e1 : endA p [.tk (markT 40)] = false := rfl
  have e2 : ∀ q, endA q [.tk (markT 41)] = false := fun _ => rfl
  have e3 : sepA p [.tk (markT 40)] = true := by simp [sepA, markT]
  have e4 : ∀ q, sepA q [.tk (markT 41)] = true := fun q => by simp [sepA, markT]
  have e5 : endA p ([.tk (markT 40)] ++ fmtPc a ++ [.tk (markT 41)]) = false := by
    have : ∀ (l m : List Pc) (q : Bool), endA q (l ++ m) = endA (endA q l) m := by
      intro l
      induction l with
      | nil => intro m q; rfl
      | cons x r ih => intro m q; cases x <;> simp [endA, ih]
    rw [this]; exact e2 _
  rw [e1, h1, e3, e4, e5]; rfl
theorem good_par {a : Ex} (h : okTree a) : ∀ t ∈ parT a, goodT t := by
  intro t ht
  simp only [parT, List.mem_append, List.mem_singleton] at ht
  rcases ht with (rfl | ht) | rfl
  · exact goodT_mark (by decide)
  · exact good_tokE a.size a (Nat.le_refl _) h t ht
  · exact goodT_mark (by decide)
theorem parPc_len {d : Nat} {a : Ex} (h : Fine d a) : (pcsB (parPc a)).length ≤ boundB d + 2 := by
  have h1 := pcsB_joinPc_le (tokE a) true
  have h2 := h.wt
  have e : (pcsB (parPc a)).length = 1 + (pcsB (fmtPc a)).length + 1 := by
    rw [parPc, pcsB_append, pcsB_append, List.length_append, List.length_append]; rfl
  unfold fmtPc at e
  omega
theorem bound4 : boundT 4 = 1211 ∧ boundB 4 = 4445 ∧ boundS 4 = 121 ∧ boundT 3 = 401 ∧ boundB 3 = 1475 ∧ boundS 3 = 40 := by decide
theorem binds_scan {a b c : Ex} (ha : Fine 4 a) (hb : Fine 4 b) (hc : Fine 4 c) : ∃ ts, scanAll ⟨(pcsB (bindPc a b c)).toArray⟩ = (ts, 0, 0) ∧ Gr ts .ors 0 [] (wantE a b c) 0 ts.length ∧ ts.length ≤ 4000 ∧ (∀ t ∈ ts, t.text.size ≤ 1000000000000000) ∧ (pcsB (bindPc a b c)).length ≤ 16384 ∧ 1 ≤ ts.length ∧ (∀ t ∈ toksOf (bindPc a b c), goodT t) := by
  have bd4 := bound4
  have l1 := ha.len; have l2 := hb.len; have l3 := hc.len
  have b1 := parPc_len ha; have b2 := parPc_len hb; have b3 := parPc_len hc
  have hgood : ∀ t ∈ toksOf (bindPc a b c), goodT t := by
    intro t ht
    rw [toksOf_bindPc, bindT] at ht
    simp only [List.mem_append, List.mem_cons, List.not_mem_nil, or_false] at ht
    rcases ht with ht | (rfl | rfl) | ht | rfl | ht
    · exact good_par ha.ok t ht
    · exact goodT_name words_ok.2.2.2.2.2.2.2
    · exact goodT_name words_ok.2.2.2.2.2.1
    · exact good_par hb.ok t ht
    · exact goodT_name words_ok.2.2.2.2.2.2.1
    · exact good_par hc.ok t ht
  have hlen : (pcsB (bindPc a b c)).length ≤ 16384 := by
    unfold bindPc
    rw [pcsB_append, pcsB_append, pcsB_append, pcsB_append]
    simp only [List.length_append]
    have q1 : (pcsB [.sp, .tk (nameT wOr), .sp, .tk (nameT wNot), .sp]).length = 8 := rfl
    have q2 : (pcsB [.sp, .tk (nameT wAnd), .sp]).length = 5 := rfl
    omega
  have hT : (bindT a b c).length ≤ 4000 := by
    simp only [bindT, List.length_append, parT_len, List.length_cons, List.length_nil]; omega
  have hsep : sepA false (bindPc a b c) = true := by
    unfold bindPc
    rw [sepA_par ha.ok]
    simp only [List.cons_append, List.nil_append, sepA, Bool.not_false, Bool.true_or, Bool.true_and]
    rw [sepA_par hb.ok]
    simp only [sepA, Bool.not_false, Bool.true_or, Bool.true_and]
    rw [show parPc c = parPc c ++ [] by simp, sepA_par hc.ok]; rfl
  obtain ⟨ts, h1, h2⟩ := scanAll_pcs hsep hgood (by rw [toksOf_bindPc]; exact hT) hlen
  rw [toksOf_bindPc] at h2
  obtain ⟨h3, h4⟩ := atT_all h2
  refine ⟨ts, h1, binds_gr ha.ok hb.ok hc.ok h3 h4, by omega, fun t ht => ?_, hlen, ?_, hgood⟩
  · have hz : zp t ∈ bindT a b c := by rw [← h2]; exact List.mem_map_of_mem ht
    have := hgood (zp t) (by rw [toksOf_bindPc]; exact hz)
    obtain ⟨_, ⟨_, h5, _⟩ | ⟨_, h5, _⟩ | ⟨_, _, c, h5, _⟩⟩ := this
    · simp only [wordB, Bool.and_eq_true, decide_eq_true_eq] at h5
      have : (zp t).text.size ≤ 16 := h5.1.1.1.2
      have e : (zp t).text = t.text := rfl
      rw [e] at this; omega
    · have e : (zp t).text = t.text := rfl
      rw [← e, h5]; decide
    · have e : (zp t).text = t.text := rfl
      rw [← e, h5]; exact (by simp [ByteArray.size] : (⟨#[c]⟩ : ByteArray).size ≤ 1000000000000000)
  · rw [h4]; simp only [bindT, List.length_append, parT_len]; omega
end Go.Proofs.YtaepiiediblleaaGreatDoor

namespace Go.Proofs.YtaepiiediblleaaGreatDoor
open Go.RowKit

theorem rletter_calls (c : Int) (w : World) : Calls Tryz.prog 31 #[.int .u8 c] w (Gives (.bool (letterB c)) w) := by
  go_enter Tryz.func31, Tryz.ntmps31
  go_wp2_with fail
  all_goals (go_ret; exact gives_bool (by simp [letterB]; omega))
theorem rdigit_calls (c : Int) (w : World) : Calls Tryz.prog 57 #[.int .u8 c] w (Gives (.bool (digitB c)) w) := by
  go_enter Tryz.func57, Tryz.ntmps57
  go_wp2_with fail
  all_goals (go_ret; exact gives_bool (by simp [digitB]; omega))
theorem far_calls (n : Int) (w : World) : Calls Tryz.prog 108 #[.int .i64 n] w (Gives (.bool (!numberB n)) w) := by
  go_enter Tryz.func108, Tryz.ntmps108
  go_wp2_with fail
  all_goals (go_ret; exact gives_bool (by rw [Bool.eq_iff_iff]; simp [numberB]; omega))
set_option maxHeartbeats 1000000 in
theorem rreserved_calls (s : ByteArray) (w : World) : Calls Tryz.prog 125 #[.string s] w (Gives (.bool (reservedB s)) w) := by
  go_enter Tryz.func125, Tryz.ntmps125
  go_wp2_with fail
  all_goals (go_ret; exact gives_bool (by simp_all [reservedB, reservedWords]))

theorem spanF_every (p : Int → Bool) (s : ByteArray) : ∀ (m k : Nat), s.size - k = m → k ≤ s.size → (spanF p s (s.size - k) k = s.size ↔ ∀ j (h : j < s.size), k ≤ j → p (s[j].toNat : Int) = true) := by
  intro m
  induction m with
  | zero =>
    intro k hm hk
    rw [spanF_end (by omega)]
    exact ⟨fun _ j h hj => by omega, fun _ => by omega⟩
  | succ m ih =>
    intro k hm hk
    have hlt : k < s.size := by omega
    cases hp : p (s[k].toNat : Int)
    · rw [spanF_stop hlt hp]
      exact ⟨fun h => by omega, fun h => by rw [h k hlt (Nat.le_refl _)] at hp; cases hp⟩
    · rw [spanF_step hlt hp, ih (k + 1) (by omega) (by omega)]
      refine ⟨fun h j hj hkj => ?_, fun h j hj hkj => h j hj (by omega)⟩
      by_cases e : j = k
      · subst e; exact hp
      · exact h j hj (by omega)
theorem wordB_of {s : ByteArray} (h0 : s.size ≠ 0) (h1 : s.size ≤ 16) (h2 : letterB (byteAt s 0) = true) (h3 : byteAt s (s.size - 1) ≠ 45) (h : ∀ j (hj : j < s.size), inWordB (s[j].toNat : Int) = true) : wordB s = true := by
  have := (spanF_every inWordB s _ 0 rfl (by omega)).2 (fun j hj _ => h j hj)
  rw [Nat.sub_zero] at this
  simp [wordB, h0, h1, h2, h3, this]
theorem wordB_no {s : ByteArray} {j : Nat} (hj : j < s.size) (h : inWordB (s[j].toNat : Int) = false) : wordB s = false := by
  cases hb : wordB s
  · rfl
  simp only [wordB, Bool.and_eq_true, beq_iff_eq] at hb
  have := (spanF_every inWordB s _ 0 rfl (by omega)).1 (by rw [Nat.sub_zero]; exact hb.2) j hj (by omega)
  rw [h] at this; cases this

set_option maxRecDepth 100000 in
set_option maxHeartbeats 1000000 in
theorem rword_calls (s : ByteArray) (w : World) (hs : s.size ≤ 1000000000000000) : Calls Tryz.prog 56 #[.string s] w (Gives (.bool (wordB s)) w) := by
  by_cases h0 : s.size = 0
  · have H := Lib.hid (show wordB s = false by simp [wordB, h0])
    have hz : decide ((s.size : Int) < 1) = true := by simp [h0]
    clear h0
    go_enter Tryz.func56, Tryz.ntmps56
    go_wp2_with fail
    go_ret
    exact gives_bool (by rw [H.out])
  have hz : decide ((s.size : Int) < 1) = false := by simp; omega
  by_cases h1 : s.size ≤ 16
  · have hb0 := byteAt_lt (show 0 < s.size by omega)
    have hb1 := byteAt_lt (show s.size - 1 < s.size by omega)
    have hz2 : decide ((16 : Int) < s.size) = false := by simp; omega
    cases h2 : letterB (s[0]'(by omega)).toNat
    · have H := Lib.hid (show wordB s = false by simp [wordB, hb0, h2])
      have H2 := Lib.hid h2
      clear h2 hb0 hb1
      go_enter Tryz.func56, Tryz.ntmps56
      go_wp2_with fail
      refine (rletter_calls _ _).mono ?_
      rintro e w' ⟨rfl, rfl⟩
      rw [H2.out]
      go_wp2_with fail
      go_ret
      exact gives_bool (by rw [H.out])
    · have H2 := Lib.hid h2
      have HB0 := Lib.hid hb0
      have HB1 := Lib.hid hb1
      clear h2 hb0 hb1
      have e1 : ((s.size : Int) - 1).toNat = s.size - 1 := by omega
      cases h3 : ((s[s.size - 1]'(by omega)).toNat : Int) == 45
      · have HY := Lib.hid (show (∀ j (hj : j < s.size), inWordB (s[j].toNat : Int) = true) → wordB s = true from fun h => wordB_of h0 h1 (by rw [HB0.out]; exact H2.out) (by rw [HB1.out]; simpa using h3) h)
        go_enter Tryz.func56, Tryz.ntmps56
        go_wp2_with fail
        refine (rletter_calls _ _).mono ?_
        rintro e w' ⟨rfl, rfl⟩
        rw [H2.out]
        go_wp2_with fail
        go_loop [3] (fun i => ∃ k : Nat, i = .int .i64 k ∧ k ≤ s.size ∧ ∀ j (hj : j < s.size), j < k → inWordB (s[j].toNat : Int) = true) (fun i => s.size - (intOf i).toNat)
        case atStart => exact ⟨0, rfl, by omega, fun j _ h => by omega⟩
        case round =>
          obtain ⟨k, rfl, hk, hall⟩ := hrel
          have HA := Lib.hid hall
          clear hall
          by_cases hlt : k < s.size
          · have HN := Lib.hid (fun h => wordB_no (s := s) hlt h)
            cases h4 : letterB (s[k].toNat : Int)
            · cases h5 : digitB (s[k].toNat : Int)
              · cases h6 : ((s[k].toNat : Int) == 45)
                · have H := Lib.hid (HN.out (by simp [inWordB, h4, h5, h6]))
                  have h6' : ((s[k].toNat : Int) != 45) = true := by simpa using h6
                  have H4 := Lib.hid h4
                  have H5 := Lib.hid h5
                  clear h4 h5
                  go_wp2_with fail
                  refine (rletter_calls _ _).mono ?_
                  rintro e w' ⟨rfl, rfl⟩
                  rw [H4.out]
                  go_wp2_with fail
                  refine (rdigit_calls _ _).mono ?_
                  rintro e w' ⟨rfl, rfl⟩
                  rw [H5.out]
                  go_wp2_with fail
                  go_ret
                  exact gives_bool (by rw [H.out])
                · have H := Lib.hid (show inWordB (s[k].toNat : Int) = true by simp [inWordB, h4, h5, h6])
                  have h6' : ((s[k].toNat : Int) != 45) = false := by simpa using h6
                  have H4 := Lib.hid h4
                  have H5 := Lib.hid h5
                  clear h4 h5
                  go_wp2_with fail
                  refine (rletter_calls _ _).mono ?_
                  rintro e w' ⟨rfl, rfl⟩
                  rw [H4.out]
                  go_wp2_with fail
                  refine (rdigit_calls _ _).mono ?_
                  rintro e w' ⟨rfl, rfl⟩
                  rw [H5.out]
                  go_wp2_with fail
                  go_round
                  case rel => exact ⟨k + 1, by go_num, by omega, fun j hj hjk => by
                    by_cases e : j = k
                    · subst e; exact H.out
                    · exact HA.out j hj (by omega)⟩
                  case measure => simp [intOf]; omega
              · have H := Lib.hid (show inWordB (s[k].toNat : Int) = true by simp [inWordB, h4, h5])
                have H4 := Lib.hid h4
                have H5 := Lib.hid h5
                clear h4 h5
                go_wp2_with fail
                refine (rletter_calls _ _).mono ?_
                rintro e w' ⟨rfl, rfl⟩
                rw [H4.out]
                go_wp2_with fail
                refine (rdigit_calls _ _).mono ?_
                rintro e w' ⟨rfl, rfl⟩
                rw [H5.out]
                go_wp2_with fail
                go_round
                case rel => exact ⟨k + 1, by go_num, by omega, fun j hj hjk => by
                  by_cases e : j = k
                  · subst e; exact H.out
                  · exact HA.out j hj (by omega)⟩
                case measure => simp [intOf]; omega
            · have H := Lib.hid (show inWordB (s[k].toNat : Int) = true by simp [inWordB, h4])
              have H4 := Lib.hid h4
              clear h4
              go_wp2_with fail
              refine (rletter_calls _ _).mono ?_
              rintro e w' ⟨rfl, rfl⟩
              rw [H4.out]
              go_wp2_with fail
              go_round
              case rel => exact ⟨k + 1, by go_num, by omega, fun j hj hjk => by
                by_cases e : j = k
                · subst e; exact H.out
                · exact HA.out j hj (by omega)⟩
              case measure => simp [intOf]; omega
          · go_wp2_with fail
            go_ret
            exact gives_bool (by rw [HY.out (fun j hj => HA.out j hj (by omega))])
      · have H := Lib.hid (show wordB s = false by simp [wordB, HB0.out, HB1.out, H2.out, h1, h0]; intro h; simp at h3; omega)
        go_enter Tryz.func56, Tryz.ntmps56
        go_wp2_with fail
        refine (rletter_calls _ _).mono ?_
        rintro e w' ⟨rfl, rfl⟩
        rw [H2.out]
        go_wp2_with fail
        go_ret
        exact gives_bool (by rw [H.out])
  · have H := Lib.hid (show wordB s = false by simp [wordB]; omega)
    have hz2 : decide ((16 : Int) < s.size) = true := by simp; omega
    go_enter Tryz.func56, Tryz.ntmps56
    go_wp2_with fail
    go_ret
    exact gives_bool (by rw [H.out])
theorem rname_calls (s : ByteArray) (w : World) (hs : s.size ≤ 1000000000000000) : Calls Tryz.prog 105 #[.string s] w (Gives (.bool (nameB s)) w) := by
  go_enter Tryz.func105, Tryz.ntmps105
  go_wp2_with (first
    | (go_at_call 56; refine (rword_calls _ _ hs).mono ?_; rintro e w' ⟨rfl, rfl⟩)
    | (go_at_call 125; refine (rreserved_calls _ _).mono ?_; rintro e w' ⟨rfl, rfl⟩))
  all_goals (go_ret; exact gives_bool (by simp_all [nameB]))

set_option maxRecDepth 100000 in
theorem names_calls (l : List ByteArray) (a : Option Addr) (n c : Nat) (w : World) (hl : IsStrs w l a n c) (hn : n ≤ 1000000000000000) (hsz : ∀ x ∈ l, x.size ≤ 1000000000000000) :
    Calls Tryz.prog 106 #[.slice a n c] w (Gives (.bool (l.all nameB)) w) := by
  have HL := Lib.hid hl
  have HZ := Lib.hid hsz
  have hnl := Lib.hid hl.1
  clear hl hsz
  go_enter Tryz.func106, Tryz.ntmps106
  go_wp2_with fail
  go_loop [3] (fun t => ∃ k : Nat, t = .int .i64 k ∧ k ≤ n ∧ ∀ j (hj : j < l.length), j < k → nameB l[j] = true) (fun t => n - (intOf t).toNat)
  case atStart => exact ⟨0, rfl, by omega, fun j _ h => by omega⟩
  case round =>
    obtain ⟨k, rfl, hk, hlo⟩ := hrel
    have HO := Lib.hid hlo
    clear hlo
    by_cases hlt : k < n
    · have hlt' : k < l.length := by have := hnl.out; omega
      have hsk := HZ.out _ (List.getElem_mem hlt')
      obtain ⟨b, off, rfl, hcell⟩ := HL.out.2.2.2 k hlt'
      cases h3 : nameB l[k]
      · have H := Lib.hid (show l.all nameB = false by
          rw [List.all_eq_false]; exact ⟨l[k], List.getElem_mem hlt', by simp [h3]⟩)
        have H3 := Lib.hid h3
        clear h3
        go_wp2_with fail
        refine (rname_calls _ _ hsk).mono ?_
        rintro e w' ⟨rfl, rfl⟩
        rw [H3.out]
        go_wp2_with fail
        go_ret
        exact gives_bool (by rw [H.out])
      · have H3 := Lib.hid h3
        clear h3
        go_wp2_with fail
        refine (rname_calls _ _ hsk).mono ?_
        rintro e w' ⟨rfl, rfl⟩
        rw [H3.out]
        go_wp2_with fail
        go_round
        case rel => exact ⟨k + 1, by go_num, by omega, fun j hj hjk => by
          by_cases e : j = k
          · subst e; exact H3.out
          · exact HO.out j hj (by omega)⟩
        case measure => simp [intOf]; omega
    · go_wp2_with fail
      go_ret
      exact gives_bool (by
        symm
        rw [List.all_eq_true]
        intro x hx
        obtain ⟨j, hj, rfl⟩ := List.getElem_of_mem hx
        exact HO.out j hj (by have := hnl.out; omega))

theorem nodup_of {l : List ByteArray} {n : Nat} (hn : n = l.length) (h : ∀ i j (hi : i < l.length) (hj : j < l.length), i < n → j < i → l[i] ≠ l[j]) : l.Nodup := by
  rw [List.Nodup, List.pairwise_iff_getElem]
  intro i j hi hj hij e
  exact h j i hj hi (by omega) hij e.symm

/-- A value is handed back; memory is as it was. -/
def GivesD (v : Value) (w : World) (e : Ending) (w' : World) : Prop := e = .returned v ∧ ∃ n, w' = w.drewN n
theorem drewN_drewN (w : World) (a b : Nat) : (w.drewN a).drewN b = w.drewN (a + b) := by simp [World.drewN, Nat.add_assoc]
theorem givesD_bool {a b : Bool} {w w' : World} (h : a = b) (hx : ∃ n, w' = w.drewN n) : GivesD (.bool b) w (.returned (.bool a)) w' := by subst h; exact ⟨rfl, hx⟩
set_option maxRecDepth 100000 in
set_option maxHeartbeats 1000000 in
theorem distinct_calls (l : List ByteArray) (a : Option Addr) (n c : Nat) (w : World) (hl : IsStrs w l a n c) (hn : n ≤ 1000000000000000) :
    Calls Tryz.prog 107 #[.slice a n c] w (GivesD (.bool (decide l.Nodup)) w) := by
  have HL := Lib.hid hl
  have hnl := Lib.hid hl.1
  clear hl
  go_enter Tryz.func107, Tryz.ntmps107
  go_wp2_with fail
  go_loopw [3, 4] (fun t _ wr => ∃ k : Nat, t = .int .i64 k ∧ k ≤ n ∧ (∀ i j (hi : i < l.length) (hj : j < l.length), i < k → j < i → l[i] ≠ l[j]) ∧ ∃ q, wr = w.drewN q) (fun t _ _ => n - (intOf t).toNat)
  case atStart => exact ⟨0, rfl, by omega, fun i j _ _ h => by omega, 0, rfl⟩
  case round =>
    obtain ⟨k, rfl, hk, hlo, q, rfl⟩ := hrel
    have HO := Lib.hid hlo
    clear hlo
    by_cases hlt : k < n
    · have hlt' : k < l.length := by have := hnl.out; omega
      go_wp2_with fail
      go_loopw [4] (fun t wr2 => ∃ m : Nat, t = .int .i64 m ∧ m ≤ k ∧ (∀ j (hj : j < l.length), j < m → l[k] ≠ l[j]) ∧ ∃ q, wr2 = w.drewN q) (fun t _ => k - (intOf t).toNat)
      case atStart => exact ⟨0, rfl, by omega, fun j _ h => by omega, q, rfl⟩
      case round =>
        obtain ⟨m, rfl, hm, hne, q2, rfl⟩ := hrel
        have HE := Lib.hid hne
        clear hne
        by_cases hmk : m < k
        · have hmk' : m < l.length := by omega
          obtain ⟨b, off, rfl, hc1⟩ := HL.out.2.2.2 k hlt'
          obtain ⟨b', off', e, hc2⟩ := HL.out.2.2.2 m hmk'
          simp only [Option.some.injEq, Addr.mk.injEq, and_true] at e
          obtain ⟨rfl, rfl⟩ := e
          have ti0 : (0 : Int) ≤ (k : Int) := by omega
          have ti1 : (k : Int) < (n : Int) := by omega
          have tj0 : (0 : Int) ≤ (m : Int) := by omega
          have tj1 : (m : Int) < (n : Int) := by omega
          cases he : (l[k].toList == l[m].toList)
          · have HQ := Lib.hid he
            go_wp2_with fail
            go_quiet (fail)
            go_wp2_with fail
            go_roundw
            case rel =>
              refine ⟨m + 1, by go_num, by omega, fun j hj hjm => ?_, _, rfl⟩
              by_cases e : j = m
              · subst e; intro h; have := HQ.out; rw [h] at this; simp at this
              · exact HE.out j hj (by omega)
            case measure => simp [intOf]; omega
          · have H := Lib.hid (show decide l.Nodup = false by
              rw [decide_eq_false_iff_not]
              intro hnd
              have h1 := toList_inj (beq_iff_eq.1 he)
              rw [List.Nodup, List.pairwise_iff_getElem] at hnd
              exact hnd m k hmk' hlt' hmk h1.symm)
            go_wp2_with fail
            go_quiet (fail)
            go_wp2_with fail
            go_ret
            exact givesD_bool (by rw [H.out]) ⟨_, drewN_drewN _ _ _⟩
        · go_wp2_with fail
          go_roundw
          case rel =>
            refine ⟨k + 1, by go_num, by omega, fun i j hi hj hik hji => ?_, q2, rfl⟩
            by_cases e : i = k
            · subst e; exact HE.out j hj (by omega)
            · exact HO.out i j hi hj (by omega) hji
          case measure => simp [intOf]; omega
    · go_wp2_with fail
      go_ret
      exact givesD_bool (by
        symm
        rw [decide_eq_true_eq]
        exact nodup_of hnl.out (fun i j hi hj hin hji => HO.out i j hi hj (by omega) hji)) ⟨q, rfl⟩
end Go.Proofs.YtaepiiediblleaaGreatDoor

namespace Go.Proofs.YtaepiiediblleaaGreatDoor
open Go.RowKit

theorem size_pos (e : Ex) : 1 ≤ e.size := by rw [e.size_eq]; omega

/-- Size of the reference: at most 301. -/
def refSize (e : Ex) : Nat := min e.size 301
def refSizes : List Ex → Nat
  | [] => 0
  | e :: r => refSize e + refSizes r
theorem refSizes_le (l : List Ex) : refSizes l ≤ sizes l ∧ l.length ≤ refSizes l ∧ min (1 + refSizes l) 301 = min (1 + sizes l) 301 := by
  induction l with
  | nil => simp [refSizes, sizes]
  | cons e r ih => have := size_pos e; simp only [refSizes, sizes, refSize, List.length_cons]; omega
theorem refSizes_take_succ (l : List Ex) (k : Nat) (hk : k < l.length) : refSizes (l.take (k + 1)) = refSizes (l.take k) + refSize l[k] := by
  induction l generalizing k with
  | nil => simp at hk
  | cons e r ih =>
    cases k with
    | zero => simp [refSizes]
    | succ k => have := ih k (by simpa using hk); simp only [List.take_succ_cons, refSizes, this, List.getElem_cons_succ]; omega
theorem refSize_of {e : Ex} {k : Nat} (hs : k = e.args.length ∨ 300 < 1 + refSizes (e.args.take k)) : min (1 + refSizes (e.args.take k)) 301 = refSize e := by
  have h1 := e.size_eq
  have h2 := refSizes_le (e.args.take k)
  have h3 := sizes_take_le e.args k
  have h4 := refSizes_le e.args
  unfold refSize
  rcases hs with hs | hs
  · rw [hs, List.take_length]; omega
  · omega

set_option maxRecDepth 100000 in
set_option maxHeartbeats 1000000 in
theorem rsize_calls (m : Nat) : ∀ (e : Ex) (v : Value) (w : World), e.size ≤ m → IsEx w e v → Calls Tryz.prog 32 #[v] w (GivesE (.int .i64 (refSize e)) w) := by
  induction m with
  | zero => intro e v w h; have := size_pos e; omega
  | succ m ih =>
    intro e v w hm he
    obtain ⟨aw, nw, cw, aa, na, ca, rfl, hw, hna, hca, ha, hx⟩ := he.parts
    have HX := Lib.hid hx
    have HN := Lib.hid hna
    have hS : e.size = 1 + sizes e.args := e.size_eq
    have hb2 : sizes e.args ≤ m := by omega
    have H : Hid (∀ (e : Ex) (v : Value) (w : World), e.size ≤ m → IsEx w e v → Calls Tryz.prog 32 #[v] w (GivesE (.int .i64 (refSize e)) w)) := ih
    clear ih hx hna hw hca ha he hS hm
    unfold exV
    go_enter Tryz.func32, Tryz.ntmps32
    go_wp2_with fail
    go_loopw [3, 4] (fun s i wr => ∃ k : Nat, k ≤ na ∧ i = .int .i64 k ∧ s = .int .i64 (1 + (refSizes (e.args.take k) : Int)) ∧ refSizes (e.args.take k) ≤ 601 ∧ wr.heap[w.heap.size]? = some (.cells #[.int .i64 e.op, .string e.name, .slice aw nw cw, .int .i64 e.lo, .int .i64 e.hi, .slice aa na ca] 28 (0, 0)) ∧ Ext w wr) (fun _ i _ => na - (intOf i).toNat)
    case atStart => exact ⟨0, by omega, rfl, by simp [refSizes], by simp [refSizes], alloc_new w _, (Ext.refl w).alloc _⟩
    case round =>
      obtain ⟨k, hk, rfl, rfl, hb6, hbx, hb⟩ := hrel
      have HBX := Lib.hid hbx
      have HB := Lib.hid hb
      have hlt0 := blk_lt hbx
      obtain ⟨b0, b1, b2, b3, b4, b5, bf⟩ := blk6 hbx
      have hkl : k ≤ refSizes (e.args.take k) := by have := (refSizes_le (e.args.take k)).2.1; have hl := HN.out; rw [List.length_take] at this; omega
      clear hbx hb
      by_cases hlt : k < na
      · have hlt' : k < e.args.length := by have := HN.out; omega
        by_cases hc : refSizes (e.args.take k) ≤ 299
        · have t1 : decide ((k : Int) < (na : Int)) = true := by simp; omega
          have t2 : decide (1 + (refSizes (e.args.take k) : Int) ≤ 300) = true := by simp; omega
          obtain ⟨b, off, rfl, aw1, nw1, cw1, aa1, na1, ca1, h0, h1, h2, h3, h4, h5, h6⟩ := ExsD.at e.args _ (ExsD.ext HB.out e.args _ HX.out) k hlt'
          have H6 := Lib.hid h6
          have hs1 := Lib.hid (refSizes_take_succ e.args k hlt')
          have hsz := sizes_take_succ e.args k hlt'
          have hsl := sizes_take_le e.args (k + 1)
          have hk1 : e.args[k].size ≤ m := by omega
          have hr : refSize e.args[k] ≤ 301 := by unfold refSize; omega
          clear h6 hsz hsl
          go_wp2_with fail
          refine (H.out e.args[k] _ _ hk1 H6.out).mono ?_
          rintro r w1 ⟨rfl, hb1⟩
          have HE1 := Lib.hid hb1
          clear b0 b1 b2 b3 b4 b5 bf hb1
          go_wp2_with fail
          go_roundw
          case rel => exact ⟨k + 1, by omega, by go_num, by rw [hs1.out]; go_num, by rw [hs1.out]; omega, HE1.out.blk HBX.out, HB.out.trans HE1.out⟩
          case measure => simp [intOf]; omega
        · have t1 : decide ((k : Int) < (na : Int)) = true := by simp; omega
          have t2 : decide (1 + (refSizes (e.args.take k) : Int) ≤ 300) = false := by simp; omega
          have H1 := Lib.hid (refSize_of (e := e) (k := k) (Or.inr (by omega)))
          go_wp2_with fail
          all_goals (go_ret; exact givesE_int (by rw [← H1.out]; omega) HB.out)
      · have t1 : decide ((k : Int) < (na : Int)) = false := by simp; omega
        have H1 := Lib.hid (refSize_of (e := e) (k := k) (Or.inl (by have := HN.out; omega)))
        go_wp2_with fail
        all_goals (go_ret; exact givesE_int (by rw [← H1.out]; omega) HB.out)
set_option maxRecDepth 100000 in
set_option maxHeartbeats 1000000 in
theorem deeper_calls (m : Nat) : ∀ (e : Ex) (v : Value) (w : World) (n : Nat), e.size ≤ m → m ≤ 1000000000000000 → n ≤ 1000 → IsEx w e v → Calls Tryz.prog 45 #[v, .int .i64 n] w (GivesE (.bool (decide (n < e.depth))) w) := by
  induction m with
  | zero => intro e v w n h; have := size_pos e; omega
  | succ m ih =>
    intro e v w n hm hMM hn he
    obtain ⟨aw, nw, cw, aa, na, ca, rfl, hw, hna, hca, ha, hx⟩ := he.parts
    have HX := Lib.hid hx
    have HN := Lib.hid hna
    have HD := Lib.hid e.depth_eq
    have hS : e.size = 1 + sizes e.args := e.size_eq
    have hb2 : sizes e.args ≤ m := by omega
    have hla := length_le_sizes e.args
    have H : Hid (∀ (e : Ex) (v : Value) (w : World) (n : Nat), e.size ≤ m → n ≤ 1000 → IsEx w e v → Calls Tryz.prog 45 #[v, .int .i64 n] w (GivesE (.bool (decide (n < e.depth))) w)) := fun e v w n h1 h2 h3 => ih e v w n h1 (by omega) h2 h3
    clear ih hx hna hw hca ha he hS hm
    unfold exV
    by_cases hn0 : n = 0
    · have t1 : ((n : Int) == 0) = true := by simp [hn0]
      have H1 := Lib.hid (show decide (n < e.depth) = true by rw [decide_eq_true_eq, HD.out]; omega)
      generalize decide (n < e.depth) = B at *
      go_enter Tryz.func45, Tryz.ntmps45
      go_wp2_with fail
      go_ret
      exact givesE_bool (by rw [H1.out]) ((Ext.refl w).alloc _)
    · have hn1 : 1 ≤ n := by omega
      have t1 : ((n : Int) == 0) = false := by simp; omega
      obtain ⟨B, hB⟩ : ∃ B, B = decide (n < e.depth) := ⟨_, rfl⟩
      rw [← hB]
      have HBQ := Lib.hid hB
      clear hB
      go_enter Tryz.func45, Tryz.ntmps45
      go_wp2_with fail
      go_loopw [5] (fun i wr => ∃ k : Nat, k ≤ na ∧ i = .int .i64 k ∧ (∀ j (hj : j < e.args.length), j < k → ¬ n - 1 < e.args[j].depth) ∧ wr.heap[w.heap.size]? = some (.cells #[.int .i64 e.op, .string e.name, .slice aw nw cw, .int .i64 e.lo, .int .i64 e.hi, .slice aa na ca] 28 (0, 0)) ∧ Ext w wr) (fun i _ => na - (intOf i).toNat)
      case atStart => exact ⟨0, by omega, rfl, fun j _ h => by omega, alloc_new w _, (Ext.refl w).alloc _⟩
      case round =>
        obtain ⟨k, hk, rfl, hall, hbx, hb⟩ := hrel
        have HA := Lib.hid hall
        have HBX := Lib.hid hbx
        have HB := Lib.hid hb
        have hlt0 := blk_lt hbx
        obtain ⟨b0, b1, b2, b3, b4, b5, bf⟩ := blk6 hbx
        clear hbx hb hall
        by_cases hlt : k < na
        · have hlt' : k < e.args.length := by have := HN.out; omega
          obtain ⟨b, off, rfl, aw1, nw1, cw1, aa1, na1, ca1, h0, h1, h2, h3, h4, h5, h6⟩ := ExsD.at e.args _ (ExsD.ext HB.out e.args _ HX.out) k hlt'
          have H6 := Lib.hid h6
          have hsz := sizes_take_succ e.args k hlt'
          have hsl := sizes_take_le e.args (k + 1)
          have hk1 : e.args[k].size ≤ m := by omega
          have HM1 := Lib.hid (depths_mem (List.getElem_mem hlt'))
          clear h6 hsz hsl
          have HCA := Lib.hid (show (n : Int) - 1 = ((n - 1 : Nat) : Int) by omega)
          go_wp2_with fail
          rw [HCA.out]
          refine (H.out e.args[k] _ _ (n - 1) hk1 (by omega) H6.out).mono ?_
          rintro r w1 ⟨rfl, hb1⟩
          have HE1 := Lib.hid hb1
          clear b0 b1 b2 b3 b4 b5 bf hb1
          by_cases hdp : n - 1 < e.args[k].depth
          · rw [decide_eq_true hdp]
            have H1 := Lib.hid (show B = true by rw [HBQ.out, decide_eq_true_eq, HD.out]; have := HM1.out; omega)
            clear hdp
            go_wp2_with fail
            go_ret
            exact givesE_bool (by rw [H1.out]) (HB.out.trans HE1.out)
          · rw [decide_eq_false hdp]
            have HND := Lib.hid hdp
            clear hdp
            go_wp2_with fail
            go_roundw
            case rel =>
              refine ⟨k + 1, by omega, by go_num, fun j hj hjk => ?_, HE1.out.blk HBX.out, HB.out.trans HE1.out⟩
              by_cases ej : j = k
              · subst ej; exact HND.out
              · exact HA.out j hj (by omega)
            case measure => simp [intOf]; omega
        · have H1 := Lib.hid (show B = false by
            rw [HBQ.out, decide_eq_false_iff_not, HD.out]
            have : ∀ l : List Ex, (∀ x ∈ l, ¬ n - 1 < x.depth) → depths l ≤ n - 1 := by
              intro l
              induction l with
              | nil => intro _; simp [depths]
              | cons y r ih =>
                intro h
                have h1 := h y (by simp)
                have h2 := ih (fun x hx => h x (List.mem_cons_of_mem _ hx))
                simp only [depths]; omega
            have := this e.args (fun x hx => by
              obtain ⟨j, hj, rfl⟩ := List.getElem_of_mem hx
              exact HA.out j hj (by have := HN.out; omega))
            omega)
          go_wp2_with fail
          go_ret
          exact givesE_bool (by rw [H1.out]) HB.out

set_option maxRecDepth 100000 in
theorem sameWords_calls (l1 l2 : List ByteArray) (a1 a2 : Option Addr) (n1 c1 n2 c2 : Nat) (w : World) (h1 : IsStrs w l1 a1 n1 c1) (h2 : IsStrs w l2 a2 n2 c2) (hn : n1 ≤ 1000000000000000) :
    Calls Tryz.prog 23 #[.slice a1 n1 c1, .slice a2 n2 c2] w (GivesD (.bool (decide (l1 = l2))) w) := by
  have HL1 := Lib.hid h1
  have HL2 := Lib.hid h2
  have hn1 := Lib.hid h1.1
  have hn2 := Lib.hid h2.1
  obtain ⟨B, hB⟩ : ∃ B, B = decide (l1 = l2) := ⟨_, rfl⟩
  rw [← hB]
  have HBQ := Lib.hid hB
  clear h1 h2 hB
  by_cases he : n1 = n2
  · have t1 : ((n1 : Int) != (n2 : Int)) = false := by simp [he]
    have t2 : (n1 != n2) = false := by simp [he]
    have hle : n1 ≤ n2 := by omega
    have HEQ := Lib.hid he
    clear he
    go_enter Tryz.func23, Tryz.ntmps23
    go_wp2_with fail
    go_loopw [5] (fun t wr => ∃ k : Nat, t = .int .i64 k ∧ k ≤ n1 ∧ (∀ j (hj : j < l1.length) (hj2 : j < l2.length), j < k → l1[j] = l2[j]) ∧ ∃ q, wr = w.drewN q) (fun t _ => n1 - (intOf t).toNat)
    case atStart => exact ⟨0, rfl, by omega, fun j _ _ h => by omega, 0, rfl⟩
    case round =>
      obtain ⟨k, rfl, hk, hal, q, rfl⟩ := hrel
      have HA := Lib.hid hal
      clear hal
      by_cases hlt : k < n1
      · have hk1 : k < l1.length := by have := hn1.out; omega
        have hk2 : k < l2.length := by have := hn2.out; omega
        obtain ⟨b, off, rfl, hc1⟩ := HL1.out.2.2.2 k hk1
        obtain ⟨b', off', rfl, hc2⟩ := HL2.out.2.2.2 k hk2
        have ti0 : (0 : Int) ≤ (k : Int) := by omega
        have ti1 : (k : Int) < (n1 : Int) := by omega
        have tj1 : (k : Int) < (n2 : Int) := by omega
        have tj2 : k < n2 := by omega
        cases hx : (l1[k].toList == l2[k].toList)
        · have H1 := Lib.hid (show B = false by
            rw [HBQ.out, decide_eq_false_iff_not]
            intro e
            subst e
            simp at hx)
          have hx2 : (l1[k].toList != l2[k].toList) = true := by simp only [bne, hx]; rfl
          go_wp2_with fail
          go_quiet (fail)
          go_wp2_with fail
          go_ret
          exact givesD_bool (by rw [H1.out]) ⟨_, drewN_drewN _ _ _⟩
        · have HQ := Lib.hid hx
          have hx2 : (l1[k].toList != l2[k].toList) = false := by simp only [bne, hx]; rfl
          go_wp2_with fail
          go_quiet (fail)
          go_wp2_with fail
          go_roundw
          case rel =>
            refine ⟨k + 1, by go_num, by omega, fun j hj hj2 hjk => ?_, _, rfl⟩
            by_cases e : j = k
            · subst e; exact toList_inj (beq_iff_eq.1 HQ.out)
            · exact HA.out j hj hj2 (by omega)
          case measure => simp [intOf]; omega
      · have H1 := Lib.hid (show B = true by
          rw [HBQ.out, decide_eq_true_eq]
          have e1 := hn1.out
          have e2 := hn2.out
          have e3 := HEQ.out
          exact List.ext_getElem (by omega) (fun j hj hj2 => HA.out j hj hj2 (by omega)))
        go_wp2_with fail
        go_ret
        exact givesD_bool (by rw [H1.out]) ⟨q, rfl⟩
  · have t1 : ((n1 : Int) != (n2 : Int)) = true := by simp [bne_iff_ne]; omega
    have t2 : (n1 != n2) = true := by simp [bne_iff_ne]; omega
    have H1 := Lib.hid (show B = false by
      rw [HBQ.out, decide_eq_false_iff_not]
      intro e
      have e1 := hn1.out
      have e2 := hn2.out
      rw [e] at e1
      omega)
    go_enter Tryz.func23, Tryz.ntmps23
    go_wp2_with fail
    go_ret
    exact givesD_bool (by rw [H1.out]) ⟨0, rfl⟩
end Go.Proofs.YtaepiiediblleaaGreatDoor

namespace Go.Proofs.YtaepiiediblleaaGreatDoor
open Go.RowKit

/-- The reference's look at one node; na, nw: the numbers of arguments and of words. -/
def refNode (op : Int) (name : ByteArray) (words : List ByteArray) (lo hi : Int) (na nw : Nat) : Bool :=
  decide (1 ≤ op ∧ op ≤ 8) && (if op == 3 || op == 4 || op == 5 then nameB name else name.toList.isEmpty) && (if op == 4 then decide (1 ≤ nw) && decide (nw ≤ 12) && words.all nameB && decide words.Nodup else decide (nw = 0)) &&
  (if op == 5 then numberB lo && numberB hi && decide (lo ≤ hi) else (lo == 0) && (hi == 0)) && (if op == 6 then decide (na = 1) else if op == 7 || op == 8 then decide (2 ≤ na) else decide (na = 0))
def refNodeB (e : Ex) : Bool := refNode e.op e.name e.words e.lo e.hi e.args.length e.words.length

theorem int_beq0 (n : Nat) : ((n : Int) == 0) = decide (n = 0) := by rw [Bool.eq_iff_iff]; simp
theorem int_beq1 (n : Nat) : ((n : Int) == 1) = decide (n = 1) := by rw [Bool.eq_iff_iff]; simp; omega
set_option maxRecDepth 100000 in
set_option maxHeartbeats 4000000 in
theorem rnode_calls (e : Ex) (v : Value) (w : World) (he : IsEx w e v) (hs : e.name.size ≤ 1000000000000000) (hws : ∀ x ∈ e.words, x.size ≤ 1000000000000000) (hnw : e.words.length ≤ 1000000000000000) :
    Calls Tryz.prog 84 #[v] w (GivesE (.bool (refNodeB e)) w) := by
  obtain ⟨aw, nw, cw, aa, na, ca, rfl, hw, hna, hca, ha, hx⟩ := he.parts
  clear he hx ha hca
  have HW := Lib.hid hw
  have HS := Lib.hid hws
  have hnw' : nw ≤ 1000000000000000 := by have := hw.1; omega
  have HB := Lib.hid (show refNodeB e = refNode e.op e.name e.words e.lo e.hi na nw by unfold refNodeB; rw [hna, hw.1])
  generalize refNodeB e = B at *
  clear hw hws hna hnw
  obtain ⟨op, name, words, lo, hi, args⟩ := e
  simp only [Ex.op, Ex.name, Ex.words, Ex.lo, Ex.hi] at *
  unfold exV
  by_cases h1 : 1 ≤ op
  · by_cases h8 : op ≤ 8
    · have hk : op = 1 ∨ op = 2 ∨ op = 3 ∨ op = 4 ∨ op = 5 ∨ op = 6 ∨ op = 7 ∨ op = 8 := by omega
      clear h1 h8
      rcases hk with rfl | rfl | rfl | rfl | rfl | rfl | rfl | rfl
      case inr.inr.inr.inl =>
        obtain ⟨P, hP⟩ : ∃ P, P = words.all nameB := ⟨_, rfl⟩
        obtain ⟨Q, hQ⟩ : ∃ Q, Q = decide words.Nodup := ⟨_, rfl⟩
        have HP := Lib.hid hP
        have HQ := Lib.hid hQ
        have HB2 := Lib.hid (show B = (nameB name && (decide (1 ≤ nw) && decide (nw ≤ 12) && P && Q) && ((lo == 0) && (hi == 0)) && decide (na = 0)) by rw [HB.out]; unfold refNode; rw [hP, hQ]; simp)
        clear hP hQ HB
        cases P
        all_goals cases Q
        all_goals
          by_cases hn1 : 1 ≤ nw
          · by_cases hn2 : nw ≤ 12
            · have t1 : decide ((nw : Int) < 1) = false := by simp; omega
              have t2 : decide ((12 : Int) < nw) = false := by simp; omega
              have HB3 := Lib.hid HB2.out
              simp only [hn1, hn2, decide_true, Bool.false_and, Bool.and_false, Bool.and_true] at HB3
              clear HB2
              go_enter Tryz.func84, Tryz.ntmps84
              go_wp2_with (first
                | (go_at_call 105; refine (rname_calls _ _ hs).mono ?_; rintro e w' ⟨rfl, rfl⟩)
                | (go_at_call 106; refine (names_calls words _ _ _ _ (HW.out.ext ((Ext.refl w).alloc _)) hnw' HS.out).mono ?_; rintro e w' ⟨rfl, rfl⟩; rw [← HP.out])
                | (go_at_call 107; refine (distinct_calls words _ _ _ _ (HW.out.ext ((Ext.refl w).alloc _)) hnw').mono ?_; rintro e w' ⟨rfl, q, rfl⟩; rw [← HQ.out]))
              all_goals (go_ret; exact givesE_bool (by first | (rw [HB3.out]; done) | (rw [HB3.out]; simp_all [int_beq0])) (by first | exact (Ext.refl w).alloc _ | exact ((Ext.refl w).alloc _).drewN _))
            · have t1 : decide ((nw : Int) < 1) = false := by simp; omega
              have t2 : decide ((12 : Int) < nw) = true := by simp; omega
              have HF := Lib.hid (show B = false by rw [HB2.out]; simp [hn2])
              clear HB2
              go_enter Tryz.func84, Tryz.ntmps84
              go_wp2_with (go_at_call 105; refine (rname_calls _ _ hs).mono ?_; rintro e w' ⟨rfl, rfl⟩)
              all_goals (go_ret; exact givesE_bool (by rw [HF.out]) ((Ext.refl w).alloc _))
          · have t1 : decide ((nw : Int) < 1) = true := by simp; omega
            have HF := Lib.hid (show B = false by rw [HB2.out]; simp [hn1])
            clear HB2
            go_enter Tryz.func84, Tryz.ntmps84
            go_wp2_with (go_at_call 105; refine (rname_calls _ _ hs).mono ?_; rintro e w' ⟨rfl, rfl⟩)
            all_goals (go_ret; exact givesE_bool (by rw [HF.out]) ((Ext.refl w).alloc _))
      all_goals
        go_enter Tryz.func84, Tryz.ntmps84
        go_wp2_with (first
          | (go_at_call 105; refine (rname_calls _ _ hs).mono ?_; rintro e w' ⟨rfl, rfl⟩)
          | (go_at_call 108; refine (far_calls _ _).mono ?_; rintro e w' ⟨rfl, rfl⟩))
        all_goals (go_ret; exact givesE_bool (by rw [HB.out]; simp_all [refNode, int_beq0, int_beq1]; try omega) ((Ext.refl w).alloc _))
    · have H := Lib.hid (show B = false by rw [HB.out]; simp [refNode, h8])
      have t1 : decide (op < 1) = false := by simp; omega
      have t2 : decide (8 < op) = true := by simp; omega
      have e3 : (op == 3) = false := by simp; omega
      have e4 : (op == 4) = false := by simp; omega
      have e5 : (op == 5) = false := by simp; omega
      go_enter Tryz.func84, Tryz.ntmps84
      go_wp2_with fail
      go_ret
      exact givesE_bool (by rw [H.out]) ((Ext.refl w).alloc _)
  · have H := Lib.hid (show B = false by rw [HB.out]; simp [refNode, h1])
    have t1 : decide (op < 1) = true := by simp; omega
    have e3 : (op == 3) = false := by simp; omega
    have e4 : (op == 4) = false := by simp; omega
    have e5 : (op == 5) = false := by simp; omega
    go_enter Tryz.func84, Tryz.ntmps84
    go_wp2_with fail
    go_ret
    exact givesE_bool (by rw [H.out]) ((Ext.refl w).alloc _)
end Go.Proofs.YtaepiiediblleaaGreatDoor

namespace Go.Proofs.YtaepiiediblleaaGreatDoor
open Go.RowKit

mutual
def nodesB : Ex → Bool
  | .mk op name words lo hi args => refNodeB (.mk op name words lo hi args) && nodesAll args
def nodesAll : List Ex → Bool
  | [] => true
  | e :: r => nodesB e && nodesAll r
end
theorem nodesB_eq (e : Ex) : nodesB e = (refNodeB e && nodesAll e.args) := by cases e; rw [nodesB]; rfl
theorem nodesAll_iff (l : List Ex) : nodesAll l = true ↔ ∀ j (h : j < l.length), nodesB l[j] = true := by
  induction l with
  | nil => simp [nodesAll]
  | cons e r ih =>
    rw [nodesAll, Bool.and_eq_true, ih]
    constructor
    · rintro ⟨h1, h2⟩ j hj
      cases j with
      | zero => exact h1
      | succ j => exact h2 j (by simpa using hj)
    · intro h
      exact ⟨h 0 (by simp), fun j hj => h (j + 1) (by simpa using hj)⟩
mutual
def Ex.few : Ex → Prop
  | .mk _ _ words _ _ args => words.length ≤ 1000000000000000 ∧ fewAll args
def fewAll : List Ex → Prop
  | [] => True
  | e :: r => e.few ∧ fewAll r
end
theorem fewAll_at : (l : List Ex) → fewAll l → (k : Nat) → (hk : k < l.length) → l[k].few
  | [], _, k, hk => by simp at hk
  | e :: r, h, 0, _ => by unfold fewAll at h; exact h.1
  | e :: r, h, k + 1, hk => by unfold fewAll at h; simpa using fewAll_at r h.2 k (by simpa using hk)
theorem few_parts {e : Ex} (h : e.few) : e.words.length ≤ 1000000000000000 ∧ fewAll e.args := by
  cases e; unfold Ex.few at h; exact h

set_option maxRecDepth 100000 in
set_option maxHeartbeats 1000000 in
theorem nodes_calls (m : Nat) : ∀ (e : Ex) (v : Value) (w : World), e.size ≤ m → m ≤ 1000000000000000 → e.fits → e.few → IsEx w e v → Calls Tryz.prog 47 #[v] w (GivesE (.bool (nodesB e)) w) := by
  induction m with
  | zero => intro e v w h; have := size_pos e; omega
  | succ m ih =>
    intro e v w hm hMM hf hw2 he
    have HE := Lib.hid he
    obtain ⟨aw, nw, cw, aa, na, ca, rfl, hw, hna, hca, ha, hx⟩ := he.parts
    have HX := Lib.hid hx
    have HN := Lib.hid hna
    have HF := Lib.hid (fits_parts hf)
    have HW := Lib.hid (few_parts hw2)
    have hS : e.size = 1 + sizes e.args := e.size_eq
    have hb2 : sizes e.args ≤ m := by omega
    have hla := length_le_sizes e.args
    have H : Hid (∀ (e : Ex) (v : Value) (w : World), e.size ≤ m → e.fits → e.few → IsEx w e v → Calls Tryz.prog 47 #[v] w (GivesE (.bool (nodesB e)) w)) := fun e v w h1 h2 h3 h4 => ih e v w h1 (by omega) h2 h3 h4
    have HQ := Lib.hid (nodesB_eq e)
    generalize nodesB e = B at *
    clear ih hx hna hw hca ha he hS hm hf hw2
    have HNC := Lib.hid (rnode_calls e _ (w.alloc (.cells #[.int .i64 e.op, .string e.name, .slice aw nw cw, .int .i64 e.lo, .int .i64 e.hi, .slice aa na ca] 28)) (HE.out.ext ((Ext.refl w).alloc _)) HF.out.1 HF.out.2.1 HW.out.1)
    unfold exV at *
    cases hnode : refNodeB e
    · have HND := Lib.hid hnode
      have H1 := Lib.hid (show B = false by rw [HQ.out, hnode]; rfl)
      clear hnode
      go_enter Tryz.func47, Tryz.ntmps47
      go_wp2_with fail
      refine HNC.out.mono ?_
      rintro r w1 ⟨rfl, hx1⟩
      rw [HND.out]
      have HX1 := Lib.hid (((Ext.refl w).alloc _).trans hx1)
      clear hx1
      go_wp2_with fail
      go_ret
      exact givesE_bool (by rw [H1.out]) HX1.out
    · have HND := Lib.hid hnode
      have HQ2 := Lib.hid (show B = nodesAll e.args by rw [HQ.out, hnode]; rfl)
      clear hnode
      go_enter Tryz.func47, Tryz.ntmps47
      go_wp2_with fail
      refine HNC.out.mono ?_
      rintro r w1 ⟨rfl, hx1⟩
      rw [HND.out]
      have HBX1 := Lib.hid (hx1.blk (alloc_new w _))
      have HX1 := Lib.hid (((Ext.refl w).alloc _).trans hx1)
      clear hx1
      go_wp2_with fail
      go_loopw [3] (fun i wr => ∃ k : Nat, k ≤ na ∧ i = .int .i64 k ∧ (∀ j (hj : j < e.args.length), j < k → nodesB e.args[j] = true) ∧ wr.heap[w.heap.size]? = some (.cells #[.int .i64 e.op, .string e.name, .slice aw nw cw, .int .i64 e.lo, .int .i64 e.hi, .slice aa na ca] 28 (0, 0)) ∧ Ext w wr) (fun i _ => na - (intOf i).toNat)
      case atStart => exact ⟨0, by omega, rfl, fun j _ h => by omega, HBX1.out, HX1.out⟩
      case round =>
        obtain ⟨k, hk, rfl, hall, hbx, hb⟩ := hrel
        have HA := Lib.hid hall
        have HBX := Lib.hid hbx
        have HB := Lib.hid hb
        have hlt0 := blk_lt hbx
        obtain ⟨b0, b1, b2, b3, b4, b5, bf⟩ := blk6 hbx
        clear hbx hb hall
        by_cases hlt : k < na
        · have hlt' : k < e.args.length := by have := HN.out; omega
          obtain ⟨b, off, rfl, aw1, nw1, cw1, aa1, na1, ca1, h0, h1, h2, h3, h4, h5, h6⟩ := ExsD.at e.args _ (ExsD.ext HB.out e.args _ HX.out) k hlt'
          have H6 := Lib.hid h6
          have hsz := sizes_take_succ e.args k hlt'
          have hsl := sizes_take_le e.args (k + 1)
          have hk1 : e.args[k].size ≤ m := by omega
          clear h6 hsz hsl
          go_wp2_with fail
          refine (H.out e.args[k] _ _ hk1 (fitsAll_at _ HF.out.2.2 k hlt') (fewAll_at _ HW.out.2 k hlt') H6.out).mono ?_
          rintro r w2 ⟨rfl, hb1⟩
          have HE1 := Lib.hid hb1
          clear b0 b1 b2 b3 b4 b5 bf hb1
          cases hdp : nodesB e.args[k]
          · have H1 := Lib.hid (show B = false by
              rw [HQ2.out]
              cases hz : nodesAll e.args
              · rfl
              · have := (nodesAll_iff _).1 hz k hlt'; rw [hdp] at this; cases this)
            clear hdp
            go_wp2_with fail
            go_ret
            exact givesE_bool (by rw [H1.out]) (HB.out.trans HE1.out)
          · have HND2 := Lib.hid hdp
            clear hdp
            go_wp2_with fail
            go_roundw
            case rel =>
              refine ⟨k + 1, by omega, by go_num, fun j hj hjk => ?_, HE1.out.blk HBX.out, HB.out.trans HE1.out⟩
              by_cases ej : j = k
              · subst ej; exact HND2.out
              · exact HA.out j hj (by omega)
            case measure => simp [intOf]; omega
        · have H1 := Lib.hid (show B = true by rw [HQ2.out]; exact (nodesAll_iff _).2 (fun j hj => HA.out j hj (by have := HN.out; omega)))
          go_wp2_with fail
          go_ret
          exact givesE_bool (by rw [H1.out]) HB.out

def refExprB (e : Ex) : Bool := !decide (16 < e.depth) && decide (refSize e ≤ 300) && nodesB e
set_option maxRecDepth 100000 in
theorem rexpr_calls (e : Ex) (v : Value) (w : World) (he : IsEx w e v) (hsz : e.size ≤ 1000000000000000) (hf : e.fits) (hw : e.few) : Calls Tryz.prog 24 #[v] w (GivesE (.bool (refExprB e)) w) := by
  have HE := Lib.hid he
  have HF := Lib.hid hf
  have HW := Lib.hid hw
  have HQ := Lib.hid (show refExprB e = (!decide (16 < e.depth) && decide (refSize e ≤ 300) && nodesB e) from rfl)
  generalize refExprB e = B at *
  obtain ⟨aw, nw, cw, aa, na, ca, rfl, -⟩ := he.parts
  clear he hf hw
  have HA := Lib.hid (fun W (h : Ext (w.alloc (.cells #[.int .i64 e.op, .string e.name, .slice aw nw cw, .int .i64 e.lo, .int .i64 e.hi, .slice aa na ca] 28)) W) => ((Ext.refl w).alloc _).trans h)
  have HNB := Lib.hid (alloc_new w (.cells #[.int .i64 e.op, .string e.name, .slice aw nw cw, .int .i64 e.lo, .int .i64 e.hi, .slice aa na ca] 28))
  unfold exV at *
  go_enter Tryz.func24, Tryz.ntmps24
  go_wp2_with fail
  refine (deeper_calls e.size e _ _ 16 (Nat.le_refl _) hsz (by omega) (HE.out.ext ((Ext.refl w).alloc _))).mono ?_
  rintro r w1 ⟨rfl, hx1⟩
  have HX1 := Lib.hid (HA.out _ hx1)
  have hb1 := hx1.blk HNB.out
  have HB1 := Lib.hid hb1
  have hz1 := blk_lt hb1
  obtain ⟨b0, b1, b2, b3, b4, b5, bf⟩ := blk6 hb1
  clear hx1 hb1 HA
  by_cases hd : 16 < e.depth
  · rw [decide_eq_true hd]
    have H1 := Lib.hid (show B = false by rw [HQ.out]; simp [hd])
    clear hd
    go_wp2_with fail
    go_ret
    exact givesE_bool (by rw [H1.out]) HX1.out
  · rw [decide_eq_false hd]
    have HD := Lib.hid hd
    clear hd
    go_wp2_with fail
    refine (rsize_calls e.size e _ _ (Nat.le_refl _) (HE.out.ext HX1.out)).mono ?_
    rintro r w2 ⟨rfl, hx2⟩
    have HX2 := Lib.hid (HX1.out.trans hx2)
    have hb2 := hx2.blk HB1.out
    have hz2 := blk_lt hb2
    clear b0 b1 b2 b3 b4 b5 bf hx2
    obtain ⟨b0, b1, b2, b3, b4, b5, bf⟩ := blk6 hb2
    clear hb2
    by_cases hs : refSize e ≤ 300
    · have t1 : decide ((refSize e : Int) ≤ 300) = true := by simp; omega
      have HS := Lib.hid hs
      clear hs
      go_wp2_with fail
      refine (nodes_calls e.size e _ _ (Nat.le_refl _) hsz HF.out HW.out (HE.out.ext HX2.out)).mono ?_
      rintro r w3 ⟨rfl, hx3⟩
      have HX3 := Lib.hid (HX2.out.trans hx3)
      clear b0 b1 b2 b3 b4 b5 bf hx3
      go_wp2_with fail
      go_ret
      exact givesE_bool (by rw [HQ.out]; simp [HD.out, HS.out]) HX3.out
    · have t1 : decide ((refSize e : Int) ≤ 300) = false := by simp; omega
      have H1 := Lib.hid (show B = false by rw [HQ.out]; simp [hs])
      clear hs
      go_wp2_with fail
      go_ret
      exact givesE_bool (by rw [H1.out]) HX2.out
end Go.Proofs.YtaepiiediblleaaGreatDoor
