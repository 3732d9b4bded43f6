import Derived.Test.YtaepiiediblleaaDoorLex1
namespace Go.Proofs.YtaepiiediblleaaDoor
open Go.RowKit

/-- The byte at i, as a number; 0 beyond the end. -/
def byteAt (s : ByteArray) (i : Nat) : Int := if h : i < s.size then (s[i].toNat : Int) else 0
theorem byteAt_lt {s : ByteArray} {i : Nat} (h : i < s.size) : byteAt s i = (s[i].toNat : Int) := by simp [byteAt, h]

def wordB (s : ByteArray) : Bool := s.size != 0 && decide (s.size ≤ 16) && letterB (byteAt s 0) && (byteAt s (s.size - 1) != 45) && spanF inWordB s s.size 0 == s.size

set_option maxRecDepth 100000 in
theorem word_calls (s : ByteArray) (w : World) (hs : s.size ≤ 1000000000000000) : Calls Tryd.prog 70 #[.string s] w (Gives (.bool (wordB s)) w) := by
  by_cases h0 : s.size = 0
  · have H := Lib.hid (show wordB s = false by simp [wordB, h0])
    have hz : ((s.size : Int) == 0) = true := by simp [h0]
    clear h0
    go_enter Tryd.func70, Tryd.ntmps70
    go_wp2_with fail
    go_ret
    exact gives_bool (by rw [H.out])
  have hz : ((s.size : Int) == 0) = false := by simp [h0]
  by_cases h1 : s.size ≤ 16
  · have hb0 := byteAt_lt (show 0 < s.size by omega)
    have hb1 := byteAt_lt (show s.size - 1 < s.size by omega)
    cases h2 : letterB (s[0]'(by omega)).toNat
    · have H := Lib.hid (show wordB s = false by simp [wordB, hb0, h2])
      have H2 := Lib.hid h2
      clear h2 hb0 hb1
      go_enter Tryd.func70, Tryd.ntmps70
      go_wp2_with fail
      refine (letter_calls _ _).mono ?_
      rintro e w' ⟨rfl, rfl⟩
      rw [H2.out]
      go_wp2_with fail
      go_ret
      exact gives_bool (by rw [H.out])
    · have H2 := Lib.hid h2
      have HB0 := Lib.hid hb0
      have HB1 := Lib.hid hb1
      clear h2 hb0 hb1
      cases h3 : ((s[s.size - 1]'(by omega)).toNat : Int) == 45
      · have H := Lib.hid (show wordB s = (spanF inWordB s s.size 0 == s.size) by simp [wordB, HB0.out, HB1.out, H2.out, h1, h0]; intro h; simp at h3; omega)
        have e1 : ((s.size : Int) - 1).toNat = s.size - 1 := by omega
        go_enter Tryd.func70, Tryd.ntmps70
        go_wp2_with fail
        refine (letter_calls _ _).mono ?_
        rintro e w' ⟨rfl, rfl⟩
        rw [H2.out]
        go_wp2_with fail
        refine (span_calls _ inWordB inWord_calls s 0 _ hs enter_inWord).mono ?_
        rintro e w' ⟨rfl, rfl⟩
        go_wp2_with fail
        go_ret
        refine gives_bool ?_
        rw [H.out]
        rw [Bool.eq_iff_iff, beq_iff_eq, beq_iff_eq]
        show ((spanF inWordB s (s.size - 0) 0 : Nat) : Int) = (s.size : Int) ↔ _
        simp only [Nat.sub_zero]
        omega
      · have H := Lib.hid (show wordB s = false by simp [wordB, HB0.out, HB1.out, H2.out, h1, h0]; intro h; simp at h3; omega)
        have e1 : ((s.size : Int) - 1).toNat = s.size - 1 := by omega
        go_enter Tryd.func70, Tryd.ntmps70
        go_wp2_with fail
        refine (letter_calls _ _).mono ?_
        rintro e w' ⟨rfl, rfl⟩
        rw [H2.out]
        go_wp2_with fail
        go_ret
        exact gives_bool (by rw [H.out])
  · have H := Lib.hid (show wordB s = false by simp [wordB]; omega)
    go_enter Tryd.func70, Tryd.ntmps70
    go_wp2_with fail
    go_ret
    exact gives_bool (by rw [H.out])

def nameB (s : ByteArray) : Bool := wordB s && !reservedB s
theorem name_calls (s : ByteArray) (w : World) (hs : s.size ≤ 1000000000000000) : Calls Tryd.prog 82 #[.string s] w (Gives (.bool (nameB s)) w) := by
  go_enter Tryd.func82, Tryd.ntmps82
  go_wp2_with (first
    | (go_at_call 70; refine (word_calls _ _ hs).mono ?_; rintro e w' ⟨rfl, rfl⟩)
    | (go_at_call 105; refine (reserved_calls _ _).mono ?_; rintro e w' ⟨rfl, rfl⟩))
  all_goals (go_ret; exact gives_bool (by simp_all [nameB]))
end Go.Proofs.YtaepiiediblleaaDoor
