import Derived.Test.YtaepiiediblleaaDoorLex3
namespace Go.Proofs.YtaepiiediblleaaDoor
open Go.RowKit

structure Tok where
  kind : Int
  text : ByteArray
  num : Int
  pos : Int

def tokV (t : Tok) : Value := .agg #[.int .i64 t.kind, .string t.text, .int .i64 t.num, .int .i64 t.pos]
def tok0 : Tok := ⟨0, ⟨#[]⟩, 0, 0⟩

theorem spanF_bd (p : Int → Bool) (s : ByteArray) : ∀ (n i : Nat), i ≤ s.size → i ≤ spanF p s n i ∧ spanF p s n i ≤ s.size
  | 0, i, h => by simp [spanF]; omega
  | n + 1, i, h => by
    rw [spanF]
    split
    · split
      · have := spanF_bd p s n (i + 1) (by omega); omega
      · omega
    · omega
theorem spanF_all (p : Int → Bool) (s : ByteArray) : ∀ (n i : Nat), ∀ j (hj : j < s.size), i ≤ j → j < spanF p s n i → p (s[j].toNat : Int) = true
  | 0, i, j, hj, h1, h2 => by simp [spanF] at h2; omega
  | n + 1, i, j, hj, h1, h2 => by
    rw [spanF] at h2
    split at h2
    · split at h2
      · rename_i h3 h4
        by_cases he : j = i
        · subst he; exact h4
        · exact spanF_all p s n (i + 1) j hj (by omega) h2
      · omega
    · omega

/-- The token at an offset, the offset after it, and the error; no hours. -/
def tokenF (s : ByteArray) (i : Nat) : Tok × Int × Int :=
  if letterB (byteAt s i) then
    (if wordB (s.extract i (spanF inWordB s (s.size - i) i)) then (⟨1, s.extract i (spanF inWordB s (s.size - i) i), 0, i⟩, (spanF inWordB s (s.size - i) i : Nat), 0) else (tok0, 0, 6))
  else if digitB (byteAt s i) || byteAt s i == 45 then
    (if (numberF (s.extract i (spanF digitB s (s.size - (i + 1)) (i + 1)))).2 = 0 then (⟨2, ⟨#[]⟩, (numberF (s.extract i (spanF digitB s (s.size - (i + 1)) (i + 1)))).1, i⟩, (spanF digitB s (s.size - (i + 1)) (i + 1) : Nat), 0)
     else (tok0, 0, (numberF (s.extract i (spanF digitB s (s.size - (i + 1)) (i + 1)))).2))
  else if markB (byteAt s i) then (⟨4, s.extract i (i + 1), 0, i⟩, (i + 1 : Nat), 0)
  else (tok0, 0, 5)

theorem numText_extract {s : ByteArray} {i : Nat} (hi : i < s.size) (hc : (digitB (byteAt s i) || byteAt s i == 45) = true) : NumText (s.extract i (spanF digitB s (s.size - (i + 1)) (i + 1))) := by
  have hb := spanF_bd digitB s (s.size - (i + 1)) (i + 1) (by omega)
  have ha := spanF_all digitB s (s.size - (i + 1)) (i + 1)
  generalize spanF digitB s (s.size - (i + 1)) (i + 1) = e at *
  have hsz : (s.extract i e).size = e - i := by simp; omega
  have h0 : byteAt (s.extract i e) 0 = byteAt s i := by
    rw [byteAt_lt hi, byteAt_lt (by omega), ByteArray.getElem_extract]
    rfl
  refine ⟨by omega, ?_⟩
  have hrest : ∀ j (hj : j < (s.extract i e).size), 1 ≤ j → 48 ≤ ((s.extract i e)[j].toNat : Int) ∧ ((s.extract i e)[j].toNat : Int) ≤ 57 := by
    intro j hj h1
    have := ha (i + j) (by omega) (by omega) (by omega)
    simp [digitB] at this
    rw [ByteArray.getElem_extract]
    exact this
  split
  · rename_i h1
    intro j hj
    have hs2 := size_tail (s.extract i e)
    rw [getElem_tail (s.extract i e) j hj]
    exact hrest (j + 1) (by omega) (by omega)
  · rename_i h1
    intro j hj
    by_cases hj0 : j = 0
    · subst hj0
      rw [h0] at h1
      simp [h1, digitB] at hc
      rw [byteAt_lt hi] at hc
      rw [ByteArray.getElem_extract]
      exact hc
    · exact hrest j hj (by omega)

/-- Three results, the first one a token. -/
def GivesT (r : Tok × Int × Int) (w : World) (e : Ending) (w' : World) : Prop := e = .returned (.tuple #[tokV r.1, .int .i64 r.2.1, .int .i64 r.2.2]) ∧ Ext w w'

theorem givesT {r : Tok × Int × Int} {t : Tok} {a b : Int} {w w' : World} (h : r = (t, a, b)) (hx : Ext w w') : GivesT r w (.returned (.tuple #[tokV t, .int .i64 a, .int .i64 b])) w' := by subst h; exact ⟨rfl, hx⟩

set_option maxRecDepth 100000 in
set_option maxHeartbeats 1000000 in
theorem token_calls (s : ByteArray) (i : Nat) (w : World) (hs : s.size ≤ 1000000000000000) (hi : i < s.size) (h64 : byteAt s i ≠ 64) :
    Calls Tryd.prog 54 #[.string s, .int .i64 i] w (GivesT (tokenF s i) w) := by
  have hb := byteAt_lt hi
  have h64' : ((s[i].toNat : Int) == 64) = false := by rw [hb] at h64; simpa using h64
  cases h1 : letterB (s[i].toNat : Int)
  · have H1 := Lib.hid h1
    cases h2 : digitB (s[i].toNat : Int) || (s[i].toNat : Int) == 45
    · have t1 : digitB (s[i].toNat : Int) = false := by simp at h2; exact h2.1
      have t2 : ((s[i].toNat : Int) == 45) = false := by simp at h2; simp [h2.2]
      have T1 := Lib.hid t1
      cases h3 : markB (s[i].toNat : Int)
      · have H := Lib.hid (show tokenF s i = (tok0, 0, 5) by simp only [tokenF, hb, h1, h2, h3]; rfl)
        have H3 := Lib.hid h3
        clear hb h1 h2 h3 h64 t1
        generalize tokenF s i = R at *
        go_enter Tryd.func54, Tryd.ntmps54
        go_wp2_with fail
        refine (letter_calls _ _).mono ?_
        rintro r w' ⟨rfl, rfl⟩
        rw [H1.out]
        go_wp2_with fail
        refine (digit_calls _ _).mono ?_
        rintro r w' ⟨rfl, rfl⟩
        rw [T1.out]
        go_wp2_with fail
        refine (mark_calls _ _).mono ?_
        rintro r w' ⟨rfl, rfl⟩
        rw [H3.out]
        go_wp2_with fail
        exact bodyPost_ret (v := .tuple #[tokV tok0, .int .i64 0, .int .i64 5]) (by simp [results, Tryd.results54, go_sem, tokV, tok0]) rfl (givesT H.out ((Ext.refl w).alloc _))
      · have H := Lib.hid (show tokenF s i = ((⟨4, s.extract i (i + 1), 0, i⟩ : Tok), ((i + 1 : Nat) : Int), 0) by simp only [tokenF, hb, h1, h2, h3]; rfl)
        have c1 : (i : Int) + 1 ≤ s.size := by omega
        have c0 : (i : Int) ≤ (i : Int) + 1 := by omega
        have c2 : (0 : Int) ≤ (i : Int) + 1 := by omega
        have H3 := Lib.hid h3
        clear hb h1 h2 h3 h64 t1
        generalize tokenF s i = R at *
        go_enter Tryd.func54, Tryd.ntmps54
        go_wp2_with fail
        refine (letter_calls _ _).mono ?_
        rintro r w' ⟨rfl, rfl⟩
        rw [H1.out]
        go_wp2_with fail
        refine (digit_calls _ _).mono ?_
        rintro r w' ⟨rfl, rfl⟩
        rw [T1.out]
        go_wp2_with fail
        refine (mark_calls _ _).mono ?_
        rintro r w' ⟨rfl, rfl⟩
        rw [H3.out]
        go_wp2_with fail
        exact bodyPost_ret (v := .tuple #[tokV ⟨4, s.extract i (i + 1), 0, i⟩, .int .i64 (i + 1 : Nat), .int .i64 0]) (by simp [results, Tryd.results54, go_sem, tokV]) rfl (givesT H.out ((Ext.refl w).alloc _))
    · have hbd := spanF_bd digitB s (s.size - (i + 1)) (i + 1) (by omega)
      have HP := Lib.hid (span_calls 71 digitB digit_calls s (i + 1) · hs enter_digit)
      have HN := Lib.hid (lexnumber_calls (s.extract i (spanF digitB s (s.size - (i + 1)) (i + 1))) · (by simp; omega) (numText_extract hi (by rw [hb]; exact h2)))
      by_cases h3 : (numberF (s.extract i (spanF digitB s (s.size - (i + 1)) (i + 1)))).2 = 0
      · have H := Lib.hid (show tokenF s i = ((⟨2, ⟨#[]⟩, (numberF (s.extract i (spanF digitB s (s.size - (i + 1)) (i + 1)))).1, i⟩ : Tok), ((spanF digitB s (s.size - (i + 1)) (i + 1) : Nat) : Int), 0) by simp only [tokenF, hb, h1, h2, h3]; rfl)
        generalize numberF (s.extract i (spanF digitB s (s.size - (i + 1)) (i + 1))) = V at *
        obtain ⟨n, er⟩ := V
        simp only at h3
        subst h3
        have t : digitB (s[i].toNat : Int) = true ∨ (digitB (s[i].toNat : Int) = false ∧ ((s[i].toNat : Int) == 45) = true) := by
          cases h : digitB (s[i].toNat : Int) <;> simp_all
        clear hb h1 h2 h64
        generalize tokenF s i = R at *
        generalize spanF digitB s (s.size - (i + 1)) (i + 1) = e at *
        obtain ⟨b1, b2⟩ := hbd
        have b0 : i ≤ e := by omega
        rcases t with t | ⟨t, t2⟩
        all_goals
          have T := Lib.hid t
          clear t
          go_enter Tryd.func54, Tryd.ntmps54
          go_wp2_with fail
          refine (letter_calls _ _).mono ?_
          rintro r w' ⟨rfl, rfl⟩
          rw [H1.out]
          go_wp2_with fail
          refine (digit_calls _ _).mono ?_
          rintro r w' ⟨rfl, rfl⟩
          rw [T.out]
          go_wp2_with fail
          refine (HP.out _).mono ?_
          rintro r w' ⟨rfl, rfl⟩
          go_wp2_with fail
          refine (HN.out _).mono ?_
          rintro r w' ⟨rfl, rfl⟩
          go_wp2_with fail
          exact bodyPost_ret (v := .tuple #[tokV ⟨2, ⟨#[]⟩, n, i⟩, .int .i64 e, .int .i64 0]) (by simp [results, Tryd.results54, go_sem, tokV]) rfl (givesT H.out ((Ext.refl w).alloc _))
      · have H := Lib.hid (show tokenF s i = (tok0, 0, (numberF (s.extract i (spanF digitB s (s.size - (i + 1)) (i + 1)))).2) by simp only [tokenF, hb, h1, h2, h3]; rfl)
        generalize numberF (s.extract i (spanF digitB s (s.size - (i + 1)) (i + 1))) = V at *
        obtain ⟨n, er⟩ := V
        simp only at h3
        have h3' : (er == 0) = false := by simpa using h3
        have t : digitB (s[i].toNat : Int) = true ∨ (digitB (s[i].toNat : Int) = false ∧ ((s[i].toNat : Int) == 45) = true) := by
          cases h : digitB (s[i].toNat : Int) <;> simp_all
        clear hb h1 h2 h64 h3
        generalize tokenF s i = R at *
        generalize spanF digitB s (s.size - (i + 1)) (i + 1) = e at *
        obtain ⟨b1, b2⟩ := hbd
        have b0 : i ≤ e := by omega
        rcases t with t | ⟨t, t2⟩
        all_goals
          have T := Lib.hid t
          clear t
          go_enter Tryd.func54, Tryd.ntmps54
          go_wp2_with fail
          refine (letter_calls _ _).mono ?_
          rintro r w' ⟨rfl, rfl⟩
          rw [H1.out]
          go_wp2_with fail
          refine (digit_calls _ _).mono ?_
          rintro r w' ⟨rfl, rfl⟩
          rw [T.out]
          go_wp2_with fail
          refine (HP.out _).mono ?_
          rintro r w' ⟨rfl, rfl⟩
          go_wp2_with fail
          refine (HN.out _).mono ?_
          rintro r w' ⟨rfl, rfl⟩
          go_wp2_with fail
          exact bodyPost_ret (v := .tuple #[tokV tok0, .int .i64 0, .int .i64 er]) (by simp [results, Tryd.results54, go_sem, tokV, tok0]) rfl (givesT H.out ((Ext.refl w).alloc _))
  · have hbd := spanF_bd inWordB s (s.size - i) i (by omega)
    have HP := Lib.hid (span_calls 69 inWordB inWord_calls s i · hs enter_inWord)
    have H1 := Lib.hid h1
    cases h2 : wordB (s.extract i (spanF inWordB s (s.size - i) i))
    · have H := Lib.hid (show tokenF s i = (tok0, 0, 6) by simp only [tokenF, hb, h1, h2]; rfl)
      have H2 := Lib.hid h2
      clear hb h1 h2 h64
      generalize tokenF s i = R at *
      generalize spanF inWordB s (s.size - i) i = e at *
      obtain ⟨b1, b2⟩ := hbd
      go_enter Tryd.func54, Tryd.ntmps54
      go_wp2_with fail
      refine (letter_calls _ _).mono ?_
      rintro r w' ⟨rfl, rfl⟩
      rw [H1.out]
      go_wp2_with fail
      refine (HP.out _).mono ?_
      rintro r w' ⟨rfl, rfl⟩
      go_wp2_with fail
      refine (word_calls _ _ (by simp; omega)).mono ?_
      rintro r w' ⟨rfl, rfl⟩
      rw [H2.out]
      go_wp2_with fail
      exact bodyPost_ret (v := .tuple #[tokV tok0, .int .i64 0, .int .i64 6]) (by simp [results, Tryd.results54, go_sem, tokV, tok0]) rfl (givesT H.out ((Ext.refl w).alloc _))
    · have H := Lib.hid (show tokenF s i = ((⟨1, s.extract i (spanF inWordB s (s.size - i) i), 0, i⟩ : Tok), ((spanF inWordB s (s.size - i) i : Nat) : Int), 0) by simp only [tokenF, hb, h1, h2]; rfl)
      have H2 := Lib.hid h2
      clear hb h1 h2 h64
      generalize tokenF s i = R at *
      generalize spanF inWordB s (s.size - i) i = e at *
      obtain ⟨b1, b2⟩ := hbd
      go_enter Tryd.func54, Tryd.ntmps54
      go_wp2_with fail
      refine (letter_calls _ _).mono ?_
      rintro r w' ⟨rfl, rfl⟩
      rw [H1.out]
      go_wp2_with fail
      refine (HP.out _).mono ?_
      rintro r w' ⟨rfl, rfl⟩
      go_wp2_with fail
      refine (word_calls _ _ (by simp; omega)).mono ?_
      rintro r w' ⟨rfl, rfl⟩
      rw [H2.out]
      go_wp2_with fail
      exact bodyPost_ret (v := .tuple #[tokV ⟨1, s.extract i e, 0, i⟩, .int .i64 e, .int .i64 0]) (by simp [results, Tryd.results54, go_sem, tokV]) rfl (givesT H.out ((Ext.refl w).alloc _))
end Go.Proofs.YtaepiiediblleaaDoor
