import Derived.Test.YtaepiiediblleaaDoorLex2
namespace Go.Proofs.YtaepiiediblleaaDoor
open Go.RowKit

/-- The value of the bytes from k on as digits, after n; none beyond the greatest amount. -/
def decF (s : ByteArray) : Nat → Nat → Int → Option Int
  | 0, _, n => some n
  | f + 1, k, n => if h : k < s.size then (if 17592186044416 < n * 10 + ((s[k].toNat : Int) - 48) then none else decF s f (k + 1) (n * 10 + ((s[k].toNat : Int) - 48))) else some n

theorem decF_step {s : ByteArray} {k : Nat} {n : Int} (h : k < s.size) (hn : ¬ 17592186044416 < n * 10 + ((s[k].toNat : Int) - 48)) : decF s (s.size - k) k n = decF s (s.size - (k + 1)) (k + 1) (n * 10 + ((s[k].toNat : Int) - 48)) := by
  obtain ⟨f, hf⟩ : ∃ f, s.size - k = f + 1 := ⟨s.size - k - 1, by omega⟩
  rw [hf, show s.size - (k + 1) = f by omega, decF, dif_pos h, if_neg hn]
theorem decF_over {s : ByteArray} {k : Nat} {n : Int} (h : k < s.size) (hn : 17592186044416 < n * 10 + ((s[k].toNat : Int) - 48)) : decF s (s.size - k) k n = none := by
  obtain ⟨f, hf⟩ : ∃ f, s.size - k = f + 1 := ⟨s.size - k - 1, by omega⟩
  rw [hf, decF, dif_pos h, if_pos hn]
theorem decF_end {s : ByteArray} {k : Nat} {n : Int} (h : ¬ k < s.size) : decF s (s.size - k) k n = some n := by
  rw [show s.size - k = 0 by omega, decF]

/-- The value and the error of a number with these digits. -/
def numOf (neg : Bool) (ds : ByteArray) : Int × Int :=
  if ds.size = 0 ∨ (byteAt ds 0 = 48 ∧ (neg = true ∨ 1 < ds.size)) then (0, 5) else
  match decF ds (ds.size - 0) 0 0 with
  | none => (0, 1)
  | some n => (if neg then -n else n, 0)
/-- The value and the error of a number's text. -/
def numberF (s : ByteArray) : Int × Int := if byteAt s 0 = 45 then numOf true (s.extract 1 s.size) else numOf false s

theorem isEmpty_false {s : ByteArray} (h : 0 < s.size) : s.toList.isEmpty = false := by
  rw [ByteArray.toList_eq]
  cases hd : s.data.toList with
  | nil => have : s.size = s.data.toList.length := (Array.length_toList).symm
           rw [hd] at this; rw [this] at h; exact absurd h (by decide)
  | cons a l => rfl
theorem isEmpty_true {s : ByteArray} (h : s.size = 0) : s.toList.isEmpty = true := by
  rw [ByteArray.toList_eq]
  have : s.size = s.data.toList.length := (Array.length_toList).symm
  rw [h] at this
  cases hd : s.data.toList with
  | nil => rfl
  | cons a l => rw [hd] at this; simp at this

def Digits (s : ByteArray) : Prop := ∀ i (h : i < s.size), 48 ≤ (s[i].toNat : Int) ∧ (s[i].toNat : Int) ≤ 57

/-- Two results, the world as it was. -/
def Gives2 (r : Int × Int) (w : World) (e : Ending) (w' : World) : Prop := e = .returned (.tuple #[.int .i64 r.1, .int .i64 r.2]) ∧ w = w'
theorem gives2 {r : Int × Int} {a b : Int} {w : World} (h : r = (a, b)) : Gives2 r w (.returned (.tuple #[.int .i64 a, .int .i64 b])) w := by subst h; exact ⟨rfl, rfl⟩


set_option maxRecDepth 100000 in
theorem lexnumber_pos (s : ByteArray) (w : World) (hs : s.size ≤ 1000000000000000) (h0 : 0 < s.size) (h1 : ((s[0].toNat : Int) == 45) = false) (hd : Digits s) :
    Calls Tryd.prog 72 #[.string s] w (Gives2 (numOf false s) w) := by
  have e0 := isEmpty_false h0
  have hb0 := byteAt_lt h0
  have HD := Lib.hid hd
  clear hd
  by_cases h2 : (s[0].toNat : Int) = 48 ∧ 1 < s.size
  · have H := Lib.hid (show numOf false s = (0, 5) by rw [numOf, if_pos (Or.inr ⟨hb0.trans h2.1, Or.inr h2.2⟩)])
    have t1 : ((s[0].toNat : Int) == 48) = true := by simp [h2.1]
    have t2 : 1 < s.size := h2.2
    clear h2 hb0
    generalize numOf false s = R at *
    go_enter Tryd.func72, Tryd.ntmps72
    go_wp2_with fail
    go_ret2
    exact gives2 H.out
  · have H := Lib.hid (show numOf false s = match decF s (s.size - 0) 0 0 with | none => (0, 1) | some n => (n, 0) by
      rw [numOf, if_neg (by rw [hb0]; rintro (h | ⟨h3, h4 | h4⟩) <;> first | omega | exact h2 ⟨h3, h4⟩ | cases h4)]; rfl)
    clear hb0
    generalize numOf false s = R at *
    have t1 : ((s[0].toNat : Int) == 48) = false ∨ (((s[0].toNat : Int) == 48) = true ∧ decide (1 < (s.size : Int)) = false) := by
      by_cases h : (s[0].toNat : Int) = 48
      · exact Or.inr ⟨by simp [h], by simp; omega⟩
      · exact Or.inl (by simpa using h)
    clear h2
    rcases t1 with t1 | ⟨t1, t2⟩
    all_goals
      go_enter Tryd.func72, Tryd.ntmps72
      go_wp2_with fail
      go_loop [6, 32] (fun t i => ∃ (k : Nat) (n : Int), i = .int .i64 k ∧ t = .int .i64 n ∧ 0 ≤ n ∧ n ≤ 17592186044416 ∧ decF s (s.size - k) k n = decF s (s.size - 0) 0 0) (fun _ i => s.size - (intOf i).toNat)
      case atStart => exact ⟨0, 0, rfl, rfl, by omega, by omega, rfl⟩
      case round =>
        obtain ⟨k, n, rfl, rfl, hn0, hn1, hdec⟩ := hrel
        have HC := Lib.hid hdec
        clear hdec
        by_cases hlt : k < s.size
        · obtain ⟨d1, d2⟩ := HD.out k hlt
          by_cases hov : 17592186044416 < n * 10 + ((s[k].toNat : Int) - 48)
          · have HV := Lib.hid (HC.out.symm.trans (decF_over hlt hov))
            go_wp2_with fail
            go_ret2
            exact gives2 (by rw [H.out, HV.out])
          · have HV := Lib.hid (decF_step hlt hov)
            go_wp2_with fail
            go_round
            case rel => exact ⟨k + 1, _, by go_num, rfl, by omega, by omega, by rw [← HC.out, HV.out]⟩
            case measure => simp [intOf]; omega
        · have HV := Lib.hid (HC.out.symm.trans (decF_end hlt))
          go_wp2_with fail
          go_ret2
          exact gives2 (by rw [H.out, HV.out])

theorem size_tail (s : ByteArray) : (s.extract 1 s.size).size = s.size - 1 := by simp
theorem getElem_tail (s : ByteArray) (k : Nat) (h : k < (s.extract 1 s.size).size) : (s.extract 1 s.size)[k] = s[k + 1]'(by simp at h; omega) := by
  have := size_tail s
  rw [ByteArray.getElem_extract]
  congr 1
  omega

set_option maxRecDepth 100000 in
theorem lexnumber_neg (s : ByteArray) (w : World) (hs : s.size ≤ 1000000000000000) (h0 : 0 < s.size) (h1 : ((s[0].toNat : Int) == 45) = true) (hd : Digits (s.extract 1 s.size)) :
    Calls Tryd.prog 72 #[.string s] w (Gives2 (numOf true (s.extract 1 s.size)) w) := by
  have hsz := size_tail s
  by_cases h3 : s.size = 1
  · have H := Lib.hid (show numOf true (s.extract 1 s.size) = (0, 5) by rw [numOf, if_pos (Or.inl (by omega))])
    have e1 := isEmpty_true (s := s.extract 1 s.size) (by omega)
    generalize numOf true (s.extract 1 s.size) = R at *
    go_enter Tryd.func72, Tryd.ntmps72
    go_wp2_with fail
    go_ret2
    exact gives2 H.out
  · have e1 := isEmpty_false (s := s.extract 1 s.size) (by omega)
    have HD := Lib.hid hd
    have HZ := Lib.hid hsz
    clear hd hsz
    have hb0 := byteAt_lt (s := s.extract 1 s.size) (i := 0) (by rw [HZ.out]; omega)
    cases t1 : (((s.extract 1 s.size)[0]'(by rw [HZ.out]; omega)).toNat : Int) == 48
    · have H := Lib.hid (show numOf true (s.extract 1 s.size) = match decF (s.extract 1 s.size) ((s.extract 1 s.size).size - 0) 0 0 with | none => (0, 1) | some n => (-n, 0) by
        rw [numOf, if_neg (by rw [hb0]; have := HZ.out; simp at t1; rintro (h | ⟨h3, _⟩) <;> omega)]; rfl)
      clear hb0
      generalize numOf true (s.extract 1 s.size) = R at *
      go_enter Tryd.func72, Tryd.ntmps72
      go_wp2_with fail
      go_loop [6, 32] (fun t i => ∃ (k : Nat) (n : Int), i = .int .i64 k ∧ t = .int .i64 n ∧ 0 ≤ n ∧ n ≤ 17592186044416 ∧ decF (s.extract 1 s.size) ((s.extract 1 s.size).size - k) k n = decF (s.extract 1 s.size) ((s.extract 1 s.size).size - 0) 0 0) (fun _ i => s.size - (intOf i).toNat)
      case atStart => exact ⟨0, 0, rfl, rfl, by omega, by omega, rfl⟩
      case round =>
        obtain ⟨k, n, rfl, rfl, hn0, hn1, hdec⟩ := hrel
        have HC := Lib.hid hdec
        clear hdec
        by_cases hlt : k < s.size - 1
        · have hlt' : k < (s.extract 1 s.size).size := by rw [HZ.out]; exact hlt
          obtain ⟨d1, d2⟩ := HD.out k hlt'
          by_cases hov : 17592186044416 < n * 10 + (((s.extract 1 s.size)[k].toNat : Int) - 48)
          · have HV := Lib.hid (HC.out.symm.trans (decF_over hlt' hov))
            go_wp2_with fail
            go_ret2
            exact gives2 (by rw [H.out, HV.out])
          · have HV := Lib.hid (decF_step hlt' hov)
            go_wp2_with fail
            go_round
            case rel => exact ⟨k + 1, _, by go_num, rfl, by omega, by omega, by rw [← HC.out, HV.out]⟩
            case measure => simp [intOf]; omega
        · have HV := Lib.hid (HC.out.symm.trans (decF_end (s := s.extract 1 s.size) (by rw [HZ.out]; exact hlt)))
          go_wp2_with fail
          go_ret2
          exact gives2 (by rw [H.out, HV.out])
    · have H := Lib.hid (show numOf true (s.extract 1 s.size) = (0, 5) by rw [numOf, if_pos (Or.inr ⟨hb0.trans (by simpa using t1), Or.inl rfl⟩)])
      clear hb0
      generalize numOf true (s.extract 1 s.size) = R at *
      go_enter Tryd.func72, Tryd.ntmps72
      go_wp2_with fail
      go_ret2
      exact gives2 H.out

/-- The text of a number: digits, which a hyphen may precede. -/
def NumText (s : ByteArray) : Prop := 0 < s.size ∧ Digits (if byteAt s 0 = 45 then s.extract 1 s.size else s)
theorem lexnumber_calls (s : ByteArray) (w : World) (hs : s.size ≤ 1000000000000000) (hn : NumText s) : Calls Tryd.prog 72 #[.string s] w (Gives2 (numberF s) w) := by
  obtain ⟨h0, hd⟩ := hn
  have hb0 := byteAt_lt h0
  by_cases h : byteAt s 0 = 45
  · rw [if_pos h] at hd
    rw [numberF, if_pos h]
    exact lexnumber_neg s w hs h0 (by rw [← hb0]; simp [h]) hd
  · rw [if_neg h] at hd
    rw [numberF, if_neg h]
    exact lexnumber_pos s w hs h0 (by rw [← hb0]; simp [h]) hd
end Go.Proofs.YtaepiiediblleaaDoor
