/-
  Texts of the claim, joined: Lex3, Lex4, Scan, Parse1.
-/
import Derived.Test.YtaepiiediblleaaGreatDoorFo01
import Derived.Test.YtaepiiediblleaaGreatDoorFo02
import Derived.WalkMore
import Derived.Deep.LoopGhost
namespace Go.Proofs.YtaepiiediblleaaGreatDoor
open Go.RowKit

/-- The value of the bytes from k on as digits, after n; none beyond the greatest amount. -/
def decF (s : ByteArray) : Nat → Nat → Int → Option Int
  | 0, _, n => some n
  | f + 1, k, n => if h : k < s.size then (if 17592186044416 < n * 10 + ((s[k].toNat : Int) - 48) then none else decF s f (k + 1) (n * 10 + ((s[k].toNat : Int) - 48))) else some n

theorem decF_step {s : ByteArray} {k : Nat} {n : Int} (h : k < s.size) (hn : ¬ 17592186044416 < n * 10 + ((s[k].toNat : Int) - 48)) : decF s (s.size - k) k n = decF s (s.size - (k + 1)) (k + 1) (n * 10 + ((s[k].toNat : Int) - 48)) := by
  obtain ⟨f, hf⟩ : ∃ f, s.size - k = f + 1 := ⟨s.size - k - 1, by omega⟩
  rw [hf, show s.size - (k + 1) = f by omega, decF, dif_pos h, if_neg hn]
theorem decF_over {s : ByteArray} {k : Nat} {n : Int} (h : k < s.size) (hn : 17592186044416 < n * 10 + ((s[k].toNat : Int) - 48)) : decF s (s.size - k) k n = none := by
  obtain ⟨f, hf⟩ : ∃ f, s.size - k = f + 1 := ⟨s.size - k - 1, by omega⟩
  rw [hf, decF, dif_pos h, if_pos hn]
theorem decF_end {s : ByteArray} {k : Nat} {n : Int} (h : ¬ k < s.size) : decF s (s.size - k) k n = some n := by
  rw [show s.size - k = 0 by omega, decF]

/-- The value and the error of a number with these digits. -/
def numOf (neg : Bool) (ds : ByteArray) : Int × Int :=
  if ds.size = 0 ∨ (byteAt ds 0 = 48 ∧ (neg = true ∨ 1 < ds.size)) then (0, 5) else
  match decF ds (ds.size - 0) 0 0 with
  | none => (0, 1)
  | some n => (if neg then -n else n, 0)
/-- The value and the error of a number's text. -/
def numberF (s : ByteArray) : Int × Int := if byteAt s 0 = 45 then numOf true (s.extract 1 s.size) else numOf false s

theorem isEmpty_false {s : ByteArray} (h : 0 < s.size) : s.toList.isEmpty = false := by
  rw [ByteArray.toList_eq]
  cases hd : s.data.toList with
  | nil => have : s.size = s.data.toList.length := (Array.length_toList).symm
           rw [hd] at this; rw [this] at h; exact absurd h (by decide)
  | cons a l => rfl
theorem isEmpty_true {s : ByteArray} (h : s.size = 0) : s.toList.isEmpty = true := by
  rw [ByteArray.toList_eq]
  have : s.size = s.data.toList.length := (Array.length_toList).symm
  rw [h] at this
  cases hd : s.data.toList with
  | nil => rfl
  | cons a l => rw [hd] at this; simp at this

def Digits (s : ByteArray) : Prop := ∀ i (h : i < s.size), 48 ≤ (s[i].toNat : Int) ∧ (s[i].toNat : Int) ≤ 57

/-- Two results, the world as it was. -/
def Gives2 (r : Int × Int) (w : World) (e : Ending) (w' : World) : Prop := e = .returned (.tuple #[.int .i64 r.1, .int .i64 r.2]) ∧ w = w'
theorem gives2 {r : Int × Int} {a b : Int} {w : World} (h : r = (a, b)) : Gives2 r w (.returned (.tuple #[.int .i64 a, .int .i64 b])) w := by subst h; exact ⟨rfl, rfl⟩


set_option maxRecDepth 100000 in
theorem lexnumber_pos (s : ByteArray) (w : World) (hs : s.size ≤ 1000000000000000) (h0 : 0 < s.size) (h1 : ((s[0].toNat : Int) == 45) = false) (hd : Digits s) :
    Calls Tryz.prog 98 #[.string s] w (Gives2 (numOf false s) w) := by
  have e0 := isEmpty_false h0
  have hb0 := byteAt_lt h0
  have HD := Lib.hid hd
  clear hd
  by_cases h2 : (s[0].toNat : Int) = 48 ∧ 1 < s.size
  · have H := Lib.hid (show numOf false s = (0, 5) by rw [numOf, if_pos (Or.inr ⟨hb0.trans h2.1, Or.inr h2.2⟩)])
    have t1 : ((s[0].toNat : Int) == 48) = true := by simp [h2.1]
    have t2 : 1 < s.size := h2.2
    clear h2 hb0
    generalize numOf false s = R at *
    go_enter Tryz.func98, Tryz.ntmps98
    go_wp2_with fail
    go_ret2
    exact gives2 H.out
  · have H := Lib.hid (show numOf false s = match decF s (s.size - 0) 0 0 with | none => (0, 1) | some n => (n, 0) by
      rw [numOf, if_neg (by rw [hb0]; rintro (h | ⟨h3, h4 | h4⟩) <;> first | omega | exact h2 ⟨h3, h4⟩ | cases h4)]; rfl)
    clear hb0
    generalize numOf false s = R at *
    have t1 : ((s[0].toNat : Int) == 48) = false ∨ (((s[0].toNat : Int) == 48) = true ∧ decide (1 < (s.size : Int)) = false) := by
      by_cases h : (s[0].toNat : Int) = 48
      · exact Or.inr ⟨by simp [h], by simp; omega⟩
      · exact Or.inl (by simpa using h)
    clear h2
    rcases t1 with t1 | ⟨t1, t2⟩
    all_goals
      go_enter Tryz.func98, Tryz.ntmps98
      go_wp2_with fail
      go_loop [6, 32] (fun t i => ∃ (k : Nat) (n : Int), i = .int .i64 k ∧ t = .int .i64 n ∧ 0 ≤ n ∧ n ≤ 17592186044416 ∧ decF s (s.size - k) k n = decF s (s.size - 0) 0 0) (fun _ i => s.size - (intOf i).toNat)
      case atStart => exact ⟨0, 0, rfl, rfl, by omega, by omega, rfl⟩
      case round =>
        obtain ⟨k, n, rfl, rfl, hn0, hn1, hdec⟩ := hrel
        have HC := Lib.hid hdec
        clear hdec
        by_cases hlt : k < s.size
        · obtain ⟨d1, d2⟩ := HD.out k hlt
          by_cases hov : 17592186044416 < n * 10 + ((s[k].toNat : Int) - 48)
          · have HV := Lib.hid (HC.out.symm.trans (decF_over hlt hov))
            go_wp2_with fail
            go_ret2
            exact gives2 (by rw [H.out, HV.out])
          · have HV := Lib.hid (decF_step hlt hov)
            go_wp2_with fail
            go_round
            case rel => exact ⟨k + 1, _, by go_num, rfl, by omega, by omega, by rw [← HC.out, HV.out]⟩
            case measure => simp [intOf]; omega
        · have HV := Lib.hid (HC.out.symm.trans (decF_end hlt))
          go_wp2_with fail
          go_ret2
          exact gives2 (by rw [H.out, HV.out])

theorem size_tail (s : ByteArray) : (s.extract 1 s.size).size = s.size - 1 := by simp
theorem getElem_tail (s : ByteArray) (k : Nat) (h : k < (s.extract 1 s.size).size) : (s.extract 1 s.size)[k] = s[k + 1]'(by simp at h; omega) := by
  have := size_tail s
  rw [ByteArray.getElem_extract]
  congr 1
  omega

set_option maxRecDepth 100000 in
theorem lexnumber_neg (s : ByteArray) (w : World) (hs : s.size ≤ 1000000000000000) (h0 : 0 < s.size) (h1 : ((s[0].toNat : Int) == 45) = true) (hd : Digits (s.extract 1 s.size)) :
    Calls Tryz.prog 98 #[.string s] w (Gives2 (numOf true (s.extract 1 s.size)) w) := by
  have hsz := size_tail s
  by_cases h3 : s.size = 1
  · have H := Lib.hid (show numOf true (s.extract 1 s.size) = (0, 5) by rw [numOf, if_pos (Or.inl (by omega))])
    have e1 := isEmpty_true (s := s.extract 1 s.size) (by omega)
    generalize numOf true (s.extract 1 s.size) = R at *
    go_enter Tryz.func98, Tryz.ntmps98
    go_wp2_with fail
    go_ret2
    exact gives2 H.out
  · have e1 := isEmpty_false (s := s.extract 1 s.size) (by omega)
    have HD := Lib.hid hd
    have HZ := Lib.hid hsz
    clear hd hsz
    have hb0 := byteAt_lt (s := s.extract 1 s.size) (i := 0) (by rw [HZ.out]; omega)
    cases t1 : (((s.extract 1 s.size)[0]'(by rw [HZ.out]; omega)).toNat : Int) == 48
    · have H := Lib.hid (show numOf true (s.extract 1 s.size) = match decF (s.extract 1 s.size) ((s.extract 1 s.size).size - 0) 0 0 with | none => (0, 1) | some n => (-n, 0) by
        rw [numOf, if_neg (by rw [hb0]; have := HZ.out; simp at t1; rintro (h | ⟨h3, _⟩) <;> omega)]; rfl)
      clear hb0
      generalize numOf true (s.extract 1 s.size) = R at *
      go_enter Tryz.func98, Tryz.ntmps98
      go_wp2_with fail
      go_loop [6, 32] (fun t i => ∃ (k : Nat) (n : Int), i = .int .i64 k ∧ t = .int .i64 n ∧ 0 ≤ n ∧ n ≤ 17592186044416 ∧ decF (s.extract 1 s.size) ((s.extract 1 s.size).size - k) k n = decF (s.extract 1 s.size) ((s.extract 1 s.size).size - 0) 0 0) (fun _ i => s.size - (intOf i).toNat)
      case atStart => exact ⟨0, 0, rfl, rfl, by omega, by omega, rfl⟩
      case round =>
        obtain ⟨k, n, rfl, rfl, hn0, hn1, hdec⟩ := hrel
        have HC := Lib.hid hdec
        clear hdec
        by_cases hlt : k < s.size - 1
        · have hlt' : k < (s.extract 1 s.size).size := by rw [HZ.out]; exact hlt
          obtain ⟨d1, d2⟩ := HD.out k hlt'
          by_cases hov : 17592186044416 < n * 10 + (((s.extract 1 s.size)[k].toNat : Int) - 48)
          · have HV := Lib.hid (HC.out.symm.trans (decF_over hlt' hov))
            go_wp2_with fail
            go_ret2
            exact gives2 (by rw [H.out, HV.out])
          · have HV := Lib.hid (decF_step hlt' hov)
            go_wp2_with fail
            go_round
            case rel => exact ⟨k + 1, _, by go_num, rfl, by omega, by omega, by rw [← HC.out, HV.out]⟩
            case measure => simp [intOf]; omega
        · have HV := Lib.hid (HC.out.symm.trans (decF_end (s := s.extract 1 s.size) (by rw [HZ.out]; exact hlt)))
          go_wp2_with fail
          go_ret2
          exact gives2 (by rw [H.out, HV.out])
    · have H := Lib.hid (show numOf true (s.extract 1 s.size) = (0, 5) by rw [numOf, if_pos (Or.inr ⟨hb0.trans (by simpa using t1), Or.inl rfl⟩)])
      clear hb0
      generalize numOf true (s.extract 1 s.size) = R at *
      go_enter Tryz.func98, Tryz.ntmps98
      go_wp2_with fail
      go_ret2
      exact gives2 H.out

/-- The text of a number: digits, which a hyphen may precede. -/
def NumText (s : ByteArray) : Prop := 0 < s.size ∧ Digits (if byteAt s 0 = 45 then s.extract 1 s.size else s)
theorem lexnumber_calls (s : ByteArray) (w : World) (hs : s.size ≤ 1000000000000000) (hn : NumText s) : Calls Tryz.prog 98 #[.string s] w (Gives2 (numberF s) w) := by
  obtain ⟨h0, hd⟩ := hn
  have hb0 := byteAt_lt h0
  by_cases h : byteAt s 0 = 45
  · rw [if_pos h] at hd
    rw [numberF, if_pos h]
    exact lexnumber_neg s w hs h0 (by rw [← hb0]; simp [h]) hd
  · rw [if_neg h] at hd
    rw [numberF, if_neg h]
    exact lexnumber_pos s w hs h0 (by rw [← hb0]; simp [h]) hd
end Go.Proofs.YtaepiiediblleaaGreatDoor

namespace Go.Proofs.YtaepiiediblleaaGreatDoor
open Go.RowKit

structure Tok where
  kind : Int
  text : ByteArray
  num : Int
  pos : Int

def tokV (t : Tok) : Value := .agg #[.int .i64 t.kind, .string t.text, .int .i64 t.num, .int .i64 t.pos]
def tok0 : Tok := ⟨0, ⟨#[]⟩, 0, 0⟩

theorem spanF_bd (p : Int → Bool) (s : ByteArray) : ∀ (n i : Nat), i ≤ s.size → i ≤ spanF p s n i ∧ spanF p s n i ≤ s.size
  | 0, i, h => by simp [spanF]; omega
  | n + 1, i, h => by
    rw [spanF]
    split
    · split
      · have := spanF_bd p s n (i + 1) (by omega); omega
      · omega
    · omega
theorem spanF_all (p : Int → Bool) (s : ByteArray) : ∀ (n i : Nat), ∀ j (hj : j < s.size), i ≤ j → j < spanF p s n i → p (s[j].toNat : Int) = true
  | 0, i, j, hj, h1, h2 => by simp [spanF] at h2; omega
  | n + 1, i, j, hj, h1, h2 => by
    rw [spanF] at h2
    split at h2
    · split at h2
      · rename_i h3 h4
        by_cases he : j = i
        · subst he; exact h4
        · exact spanF_all p s n (i + 1) j hj (by omega) h2
      · omega
    · omega

/-- The token at an offset, the offset after it, and the error; no hours. -/
def tokenF (s : ByteArray) (i : Nat) : Tok × Int × Int :=
  if letterB (byteAt s i) then
    (if wordB (s.extract i (spanF inWordB s (s.size - i) i)) then (⟨1, s.extract i (spanF inWordB s (s.size - i) i), 0, i⟩, (spanF inWordB s (s.size - i) i : Nat), 0) else (tok0, 0, 6))
  else if digitB (byteAt s i) || byteAt s i == 45 then
    (if (numberF (s.extract i (spanF digitB s (s.size - (i + 1)) (i + 1)))).2 = 0 then (⟨2, ⟨#[]⟩, (numberF (s.extract i (spanF digitB s (s.size - (i + 1)) (i + 1)))).1, i⟩, (spanF digitB s (s.size - (i + 1)) (i + 1) : Nat), 0)
     else (tok0, 0, (numberF (s.extract i (spanF digitB s (s.size - (i + 1)) (i + 1)))).2))
  else if markB (byteAt s i) then (⟨4, s.extract i (i + 1), 0, i⟩, (i + 1 : Nat), 0)
  else (tok0, 0, 5)

theorem numText_extract {s : ByteArray} {i : Nat} (hi : i < s.size) (hc : (digitB (byteAt s i) || byteAt s i == 45) = true) : NumText (s.extract i (spanF digitB s (s.size - (i + 1)) (i + 1))) := by
  have hb := spanF_bd digitB s (s.size - (i + 1)) (i + 1) (by omega)
  have ha := spanF_all digitB s (s.size - (i + 1)) (i + 1)
  generalize spanF digitB s (s.size - (i + 1)) (i + 1) = e at *
  have hsz : (s.extract i e).size = e - i := by simp; omega
  have h0 : byteAt (s.extract i e) 0 = byteAt s i := by
    rw [byteAt_lt hi, byteAt_lt (by omega), ByteArray.getElem_extract]
    rfl
  refine ⟨by omega, ?_⟩
  have hrest : ∀ j (hj : j < (s.extract i e).size), 1 ≤ j → 48 ≤ ((s.extract i e)[j].toNat : Int) ∧ ((s.extract i e)[j].toNat : Int) ≤ 57 := by
    intro j hj h1
    have := ha (i + j) (by omega) (by omega) (by omega)
    simp [digitB] at this
    rw [ByteArray.getElem_extract]
    exact this
  split
  · rename_i h1
    intro j hj
    have hs2 := size_tail (s.extract i e)
    rw [getElem_tail (s.extract i e) j hj]
    exact hrest (j + 1) (by omega) (by omega)
  · rename_i h1
    intro j hj
    by_cases hj0 : j = 0
    · subst hj0
      rw [h0] at h1
      simp [h1, digitB] at hc
      rw [byteAt_lt hi] at hc
      rw [ByteArray.getElem_extract]
      exact hc
    · exact hrest j hj (by omega)

/-- Three results, the first one a token. -/
def GivesT (r : Tok × Int × Int) (w : World) (e : Ending) (w' : World) : Prop := e = .returned (.tuple #[tokV r.1, .int .i64 r.2.1, .int .i64 r.2.2]) ∧ Ext w w'

theorem givesT {r : Tok × Int × Int} {t : Tok} {a b : Int} {w w' : World} (h : r = (t, a, b)) (hx : Ext w w') : GivesT r w (.returned (.tuple #[tokV t, .int .i64 a, .int .i64 b])) w' := by subst h; exact ⟨rfl, hx⟩

set_option maxRecDepth 100000 in
set_option maxHeartbeats 1000000 in
theorem token_calls (s : ByteArray) (i : Nat) (w : World) (hs : s.size ≤ 1000000000000000) (hi : i < s.size) (h64 : byteAt s i ≠ 64) :
    Calls Tryz.prog 74 #[.string s, .int .i64 i] w (GivesT (tokenF s i) w) := by
  have hb := byteAt_lt hi
  have h64' : ((s[i].toNat : Int) == 64) = false := by rw [hb] at h64; simpa using h64
  cases h1 : letterB (s[i].toNat : Int)
  · have H1 := Lib.hid h1
    cases h2 : digitB (s[i].toNat : Int) || (s[i].toNat : Int) == 45
    · have t1 : digitB (s[i].toNat : Int) = false := by simp at h2; exact h2.1
      have t2 : ((s[i].toNat : Int) == 45) = false := by simp at h2; simp [h2.2]
      have T1 := Lib.hid t1
      cases h3 : markB (s[i].toNat : Int)
      · have H := Lib.hid (show tokenF s i = (tok0, 0, 5) by simp only [tokenF, hb, h1, h2, h3]; rfl)
        have H3 := Lib.hid h3
        clear hb h1 h2 h3 h64 t1
        generalize tokenF s i = R at *
        go_enter Tryz.func74, Tryz.ntmps74
        go_wp2_with fail
        refine (letter_calls _ _).mono ?_
        rintro r w' ⟨rfl, rfl⟩
        rw [H1.out]
        go_wp2_with fail
        refine (digit_calls _ _).mono ?_
        rintro r w' ⟨rfl, rfl⟩
        rw [T1.out]
        go_wp2_with fail
        refine (mark_calls _ _).mono ?_
        rintro r w' ⟨rfl, rfl⟩
        rw [H3.out]
        go_wp2_with fail
        exact bodyPost_ret (v := .tuple #[tokV tok0, .int .i64 0, .int .i64 5]) (by simp [results, Tryz.results74, go_sem, tokV, tok0]) rfl (givesT H.out ((Ext.refl w).alloc _))
      · have H := Lib.hid (show tokenF s i = ((⟨4, s.extract i (i + 1), 0, i⟩ : Tok), ((i + 1 : Nat) : Int), 0) by simp only [tokenF, hb, h1, h2, h3]; rfl)
        have c1 : (i : Int) + 1 ≤ s.size := by omega
        have c0 : (i : Int) ≤ (i : Int) + 1 := by omega
        have c2 : (0 : Int) ≤ (i : Int) + 1 := by omega
        have H3 := Lib.hid h3
        clear hb h1 h2 h3 h64 t1
        generalize tokenF s i = R at *
        go_enter Tryz.func74, Tryz.ntmps74
        go_wp2_with fail
        refine (letter_calls _ _).mono ?_
        rintro r w' ⟨rfl, rfl⟩
        rw [H1.out]
        go_wp2_with fail
        refine (digit_calls _ _).mono ?_
        rintro r w' ⟨rfl, rfl⟩
        rw [T1.out]
        go_wp2_with fail
        refine (mark_calls _ _).mono ?_
        rintro r w' ⟨rfl, rfl⟩
        rw [H3.out]
        go_wp2_with fail
        exact bodyPost_ret (v := .tuple #[tokV ⟨4, s.extract i (i + 1), 0, i⟩, .int .i64 (i + 1 : Nat), .int .i64 0]) (by simp [results, Tryz.results74, go_sem, tokV]) rfl (givesT H.out ((Ext.refl w).alloc _))
    · have hbd := spanF_bd digitB s (s.size - (i + 1)) (i + 1) (by omega)
      have HP := Lib.hid (span_calls 97 digitB digit_calls s (i + 1) · hs enter_digit)
      have HN := Lib.hid (lexnumber_calls (s.extract i (spanF digitB s (s.size - (i + 1)) (i + 1))) · (by simp; omega) (numText_extract hi (by rw [hb]; exact h2)))
      by_cases h3 : (numberF (s.extract i (spanF digitB s (s.size - (i + 1)) (i + 1)))).2 = 0
      · have H := Lib.hid (show tokenF s i = ((⟨2, ⟨#[]⟩, (numberF (s.extract i (spanF digitB s (s.size - (i + 1)) (i + 1)))).1, i⟩ : Tok), ((spanF digitB s (s.size - (i + 1)) (i + 1) : Nat) : Int), 0) by simp only [tokenF, hb, h1, h2, h3]; rfl)
        generalize numberF (s.extract i (spanF digitB s (s.size - (i + 1)) (i + 1))) = V at *
        obtain ⟨n, er⟩ := V
        simp only at h3
        subst h3
        have t : digitB (s[i].toNat : Int) = true ∨ (digitB (s[i].toNat : Int) = false ∧ ((s[i].toNat : Int) == 45) = true) := by
          cases h : digitB (s[i].toNat : Int) <;> simp_all
        clear hb h1 h2 h64
        generalize tokenF s i = R at *
        generalize spanF digitB s (s.size - (i + 1)) (i + 1) = e at *
        obtain ⟨b1, b2⟩ := hbd
        have b0 : i ≤ e := by omega
        rcases t with t | ⟨t, t2⟩
        all_goals
          have T := Lib.hid t
          clear t
          go_enter Tryz.func74, Tryz.ntmps74
          go_wp2_with fail
          refine (letter_calls _ _).mono ?_
          rintro r w' ⟨rfl, rfl⟩
          rw [H1.out]
          go_wp2_with fail
          refine (digit_calls _ _).mono ?_
          rintro r w' ⟨rfl, rfl⟩
          rw [T.out]
          go_wp2_with fail
          refine (HP.out _).mono ?_
          rintro r w' ⟨rfl, rfl⟩
          go_wp2_with fail
          refine (HN.out _).mono ?_
          rintro r w' ⟨rfl, rfl⟩
          go_wp2_with fail
          exact bodyPost_ret (v := .tuple #[tokV ⟨2, ⟨#[]⟩, n, i⟩, .int .i64 e, .int .i64 0]) (by simp [results, Tryz.results74, go_sem, tokV]) rfl (givesT H.out ((Ext.refl w).alloc _))
      · have H := Lib.hid (show tokenF s i = (tok0, 0, (numberF (s.extract i (spanF digitB s (s.size - (i + 1)) (i + 1)))).2) by simp only [tokenF, hb, h1, h2, h3]; rfl)
        generalize numberF (s.extract i (spanF digitB s (s.size - (i + 1)) (i + 1))) = V at *
        obtain ⟨n, er⟩ := V
        simp only at h3
        have h3' : (er == 0) = false := by simpa using h3
        have t : digitB (s[i].toNat : Int) = true ∨ (digitB (s[i].toNat : Int) = false ∧ ((s[i].toNat : Int) == 45) = true) := by
          cases h : digitB (s[i].toNat : Int) <;> simp_all
        clear hb h1 h2 h64 h3
        generalize tokenF s i = R at *
        generalize spanF digitB s (s.size - (i + 1)) (i + 1) = e at *
        obtain ⟨b1, b2⟩ := hbd
        have b0 : i ≤ e := by omega
        rcases t with t | ⟨t, t2⟩
        all_goals
          have T := Lib.hid t
          clear t
          go_enter Tryz.func74, Tryz.ntmps74
          go_wp2_with fail
          refine (letter_calls _ _).mono ?_
          rintro r w' ⟨rfl, rfl⟩
          rw [H1.out]
          go_wp2_with fail
          refine (digit_calls _ _).mono ?_
          rintro r w' ⟨rfl, rfl⟩
          rw [T.out]
          go_wp2_with fail
          refine (HP.out _).mono ?_
          rintro r w' ⟨rfl, rfl⟩
          go_wp2_with fail
          refine (HN.out _).mono ?_
          rintro r w' ⟨rfl, rfl⟩
          go_wp2_with fail
          exact bodyPost_ret (v := .tuple #[tokV tok0, .int .i64 0, .int .i64 er]) (by simp [results, Tryz.results74, go_sem, tokV, tok0]) rfl (givesT H.out ((Ext.refl w).alloc _))
  · have hbd := spanF_bd inWordB s (s.size - i) i (by omega)
    have HP := Lib.hid (span_calls 96 inWordB inWord_calls s i · hs enter_inWord)
    have H1 := Lib.hid h1
    cases h2 : wordB (s.extract i (spanF inWordB s (s.size - i) i))
    · have H := Lib.hid (show tokenF s i = (tok0, 0, 6) by simp only [tokenF, hb, h1, h2]; rfl)
      have H2 := Lib.hid h2
      clear hb h1 h2 h64
      generalize tokenF s i = R at *
      generalize spanF inWordB s (s.size - i) i = e at *
      obtain ⟨b1, b2⟩ := hbd
      go_enter Tryz.func74, Tryz.ntmps74
      go_wp2_with fail
      refine (letter_calls _ _).mono ?_
      rintro r w' ⟨rfl, rfl⟩
      rw [H1.out]
      go_wp2_with fail
      refine (HP.out _).mono ?_
      rintro r w' ⟨rfl, rfl⟩
      go_wp2_with fail
      refine (word_calls _ _ (by simp; omega)).mono ?_
      rintro r w' ⟨rfl, rfl⟩
      rw [H2.out]
      go_wp2_with fail
      exact bodyPost_ret (v := .tuple #[tokV tok0, .int .i64 0, .int .i64 6]) (by simp [results, Tryz.results74, go_sem, tokV, tok0]) rfl (givesT H.out ((Ext.refl w).alloc _))
    · have H := Lib.hid (show tokenF s i = ((⟨1, s.extract i (spanF inWordB s (s.size - i) i), 0, i⟩ : Tok), ((spanF inWordB s (s.size - i) i : Nat) : Int), 0) by simp only [tokenF, hb, h1, h2]; rfl)
      have H2 := Lib.hid h2
      clear hb h1 h2 h64
      generalize tokenF s i = R at *
      generalize spanF inWordB s (s.size - i) i = e at *
      obtain ⟨b1, b2⟩ := hbd
      go_enter Tryz.func74, Tryz.ntmps74
      go_wp2_with fail
      refine (letter_calls _ _).mono ?_
      rintro r w' ⟨rfl, rfl⟩
      rw [H1.out]
      go_wp2_with fail
      refine (HP.out _).mono ?_
      rintro r w' ⟨rfl, rfl⟩
      go_wp2_with fail
      refine (word_calls _ _ (by simp; omega)).mono ?_
      rintro r w' ⟨rfl, rfl⟩
      rw [H2.out]
      go_wp2_with fail
      exact bodyPost_ret (v := .tuple #[tokV ⟨1, s.extract i e, 0, i⟩, .int .i64 e, .int .i64 0]) (by simp [results, Tryz.results74, go_sem, tokV]) rfl (givesT H.out ((Ext.refl w).alloc _))
end Go.Proofs.YtaepiiediblleaaGreatDoor

namespace Go.Proofs.YtaepiiediblleaaGreatDoor
open Go.RowKit

def tokCells (t : Tok) : List Value := [.int .i64 t.kind, .string t.text, .int .i64 t.num, .int .i64 t.pos]
abbrev IsToks (w : World) (l : List Tok) (a : Option Addr) (n c : Nat) : Prop := IsRows w 4 tokCells l a n c

theorem elemTok : ElemT 22 73 (.agg #[.int .i64 0, .string ⟨#[]⟩, .int .i64 0, .int .i64 0]) 4 40 := ⟨by kernel_rfl, by kernel_rfl, rfl, by decide⟩

/-- The tokens of a text from i on, after those of acc: the tokens, the offset of an error, and the error. -/
def scanF (s : ByteArray) : Nat → Nat → List Tok → List Tok × Int × Int
  | 0, _, acc => (acc, 0, 0)
  | f + 1, i, acc =>
    if s.size ≤ i then (acc, 0, 0) else
    if byteAt s i == 32 || byteAt s i == 10 then scanF s f (i + 1) acc else
    if byteAt s i == 35 then scanF s f (spanF inLineB s (s.size - i) i) acc else
    if (tokenF s i).2.2 ≠ 0 then ([], i, (tokenF s i).2.2) else
    if acc.length = 4000 then ([], i, 4) else
    if (tokenF s i).1.kind = 2 ∧ (tokenF s i).2.1 < s.size ∧ (letterB (byteAt s (tokenF s i).2.1.toNat) || byteAt s (tokenF s i).2.1.toNat == 45) then ([], (tokenF s i).2.1, 5) else
    scanF s f (tokenF s i).2.1.toNat (acc ++ [(tokenF s i).1])

/-- What is done with a token. -/
def tokStep (s : ByteArray) (g k : Nat) (acc : List Tok) (T : Tok × Int × Int) : List Tok × Int × Int :=
  if T.2.2 ≠ 0 then ([], (k : Int), T.2.2) else
  if acc.length = 4000 then ([], (k : Int), 4) else
  if T.1.kind = 2 ∧ T.2.1 < s.size ∧ (letterB (byteAt s T.2.1.toNat) || byteAt s T.2.1.toNat == 45) then ([], T.2.1, 5) else
  scanF s g T.2.1.toNat (acc ++ [T.1])
theorem scanF_tok {s : ByteArray} {g k : Nat} {acc : List Tok} (hlt : k < s.size) (h1 : (byteAt s k == 32) = false) (h2 : (byteAt s k == 10) = false) (h3 : (byteAt s k == 35) = false) :
    scanF s (g + 1) k acc = tokStep s g k acc (tokenF s k) := by
  rw [scanF, if_neg (show ¬ s.size ≤ k by omega), if_neg (show ¬ (byteAt s k == 32 || byteAt s k == 10) = true by simp [h1, h2]), if_neg (show ¬ (byteAt s k == 35) = true by simp [h3])]
  rfl

theorem tokStep_stop {s : ByteArray} {g k n : Nat} {acc : List Tok} {T : Tok} (h4 : ¬ acc.length = 4000) (h1 : (T.kind == 2) = true) (h2 : n < s.size) (h3 : letterB (s[n].toNat : Int) = true ∨ ((s[n].toNat : Int) == 45) = true) :
    tokStep s g k acc (T, (n : Int), 0) = ([], (n : Int), 5) := by
  rw [tokStep, if_neg (by simp), if_neg h4, if_pos]
  refine ⟨by simpa using h1, by simpa using h2, ?_⟩
  simp only [Int.toNat_natCast]
  rw [byteAt_lt h2]
  rcases h3 with h3 | h3 <;> simp [h3]
theorem tokStep_go {s : ByteArray} {g k n : Nat} {acc : List Tok} {T : Tok} (h4 : ¬ acc.length = 4000) (h : (T.kind == 2) = false ∨ ¬ n < s.size ∨ ∃ h2 : n < s.size, letterB (s[n].toNat : Int) = false ∧ ((s[n].toNat : Int) == 45) = false) :
    tokStep s g k acc (T, (n : Int), 0) = scanF s g n (acc ++ [T]) := by
  rw [tokStep, if_neg (by simp), if_neg h4, if_neg]
  · simp only [Int.toNat_natCast]
  · rintro ⟨h1, h2, h3⟩
    rcases h with h | h | ⟨h5, h6, h7⟩
    · simp at h; exact h h1
    · exact h (by simpa using h2)
    · simp only [Int.toNat_natCast] at h3
      rw [byteAt_lt h5, h6, h7] at h3
      simp at h3

theorem tokenF_next {s : ByteArray} {i : Nat} (hi : i < s.size) (h : (tokenF s i).2.2 = 0) : ∃ n : Nat, (tokenF s i).2.1 = n ∧ i < n ∧ n ≤ s.size := by
  unfold tokenF at *
  have h1 := spanF_bd inWordB s (s.size - i) i (by omega)
  have h2 := spanF_bd digitB s (s.size - (i + 1)) (i + 1) (by omega)
  split
  · rename_i hl
    split
    · refine ⟨_, rfl, ?_, h1.2⟩
      have hw : inWordB (s[i].toNat : Int) = true := by rw [← byteAt_lt hi]; simp [inWordB, hl]
      have := spanF_step (p := inWordB) hi hw
      have h3 := spanF_bd inWordB s (s.size - (i + 1)) (i + 1) (by omega)
      omega
    · rename_i hw; rw [if_pos hl, if_neg hw] at h; simp at h
  · rename_i hl
    split
    · rename_i hd
      split
      · exact ⟨_, rfl, by omega, h2.2⟩
      · rename_i hn; rw [if_neg hl, if_pos hd, if_neg hn] at h; exact absurd h hn
    · rename_i hd
      split
      · exact ⟨i + 1, rfl, by omega, by omega⟩
      · rename_i hm; rw [if_neg hl, if_neg hd, if_neg hm] at h; simp at h

/-- What Scan hands back. -/
def ScanQ (R : List Tok × Int × Int) (w : World) (e : Ending) (w' : World) : Prop :=
  ∃ a n c, e = .returned (.tuple #[.slice a n c, .int .i64 R.2.1, .int .i64 R.2.2]) ∧ IsToks w' R.1 a n c ∧ Ext w w'
theorem isRows_nil {α : Type} (w : World) (size : Nat) (f : α → List Value) : IsRows w size f [] none 0 0 := ⟨rfl, by omega, Or.inl ⟨rfl, rfl⟩, fun i hi => by simp at hi⟩
theorem scanQ_err {R : List Tok × Int × Int} {a b : Int} {w w' : World} (h : R = ([], a, b)) (hx : Ext w w') : ScanQ R w (.returned (.tuple #[.slice none 0 0, .int .i64 a, .int .i64 b])) w' := by
  subst h; exact ⟨none, 0, 0, rfl, isRows_nil _ _ _, hx⟩

set_option maxRecDepth 100000 in
set_option maxHeartbeats 2000000 in
theorem scan_calls (s : ByteArray) (w : World) (hs : s.size ≤ 1000000000000000) (h64 : ∀ i, i < s.size → byteAt s i ≠ 64) :
    Calls Tryz.prog 37 #[.string s] w (ScanQ (if 16384 < s.size then ([], 0, 4) else scanF s s.size 0 []) w) := by
  by_cases hbig : 16384 < s.size
  · rw [if_pos hbig]
    go_enter Tryz.func37, Tryz.ntmps37
    go_wp2_with fail
    go_step3
    go_wp2_with fail
    try rw [Exit.noGoto_ret]
    go_ret3
    exact scanQ_err rfl (Ext.refl _)
  · rw [if_neg hbig]
    obtain ⟨R, hR⟩ : ∃ R, R = scanF s s.size 0 [] := ⟨_, rfl⟩
    rw [← hR]
    have HR := Lib.hid hR
    have H64 := Lib.hid h64
    clear hR h64
    go_enter Tryz.func37, Tryz.ntmps37
    go_wp2_with fail
    go_step3
    go_wp2_with fail
    go_step3
    go_wp2_with fail
    go_loopg [5, 6] s.size (fun m v i wr => ∃ (k f : Nat) (acc : List Tok), k ≤ s.size ∧ m = s.size - k ∧ i = .int .i64 k ∧ s.size - k ≤ f ∧ acc.length ≤ 4000 ∧ wr.ownsRow w.heap.size 73 4 v acc.length (acc.flatMap tokCells) ∧ Ext w wr ∧ scanF s f k acc = R)
    case atStart => exact ⟨0, s.size, [], by omega, rfl, rfl, by omega, by simp, World.ownsRow_nil _ _ _ _, Ext.refl _, HR.out.symm⟩
    case round =>
      obtain ⟨k, f, acc, hk, hgk, rfl, hf, hacc, hown, hx, hsc⟩ := hrel
      have HG := Lib.hid hgk
      have HO := Lib.hid hown
      have HX := Lib.hid hx
      have HS := Lib.hid hsc
      clear hown hx hsc hgk
      by_cases hlt : k < s.size
      · obtain ⟨g, rfl⟩ : ∃ g, f = g + 1 := ⟨f - 1, by omega⟩
        have hb := byteAt_lt hlt
        have hn64 := H64.out k hlt
        by_cases h1 : byteAt s k = 32 ∨ byteAt s k = 10
        · have HN := Lib.hid (show scanF s g (k + 1) acc = R by rw [← HS.out, scanF, if_neg (by omega), if_pos (by simpa using h1)])
          rw [hb] at h1
          have t : ((s[k].toNat : Int) == 32) = true ∨ (((s[k].toNat : Int) == 32) = false ∧ ((s[k].toNat : Int) == 10) = true) := by
            by_cases h : (s[k].toNat : Int) = 32
            · exact Or.inl (by simp [h])
            · exact Or.inr ⟨by simp [h], by rcases h1 with h1 | h1; exact absurd h1 h; simp [h1]⟩
          clear h1 hb hn64
          rcases t with t | ⟨t, t2⟩
          all_goals
            go_wp2_with fail
            go_roundg (s.size - (k + 1))
            case measure => have := HG.out; omega
            case rel => exact ⟨k + 1, g, acc, by omega, rfl, by go_num, by omega, hacc, HO.out, HX.out, HN.out⟩
        · rw [hb] at h1
          have t1 : ((s[k].toNat : Int) == 32) = false := by simp; omega
          have t2 : ((s[k].toNat : Int) == 10) = false := by simp; omega
          by_cases h2 : (s[k].toNat : Int) = 35
          · have t3 : ((s[k].toNat : Int) == 35) = true := by simp [h2]
            have HN := Lib.hid (show scanF s g (spanF inLineB s (s.size - k) k) acc = R by rw [← HS.out, scanF, if_neg (by omega), hb, if_neg (by simp [t1, t2]), if_pos t3])
            have hbd := spanF_bd inLineB s (s.size - (k + 1)) (k + 1) (by omega)
            rw [← spanF_step (p := inLineB) hlt (by simp [inLineB, h2])] at hbd
            have HP := Lib.hid (span_calls 73 inLineB inLine_calls s k · hs enter_inLine)
            clear h1 h2 hb hn64
            generalize spanF inLineB s (s.size - k) k = e at *
            obtain ⟨b1, b2⟩ := hbd
            go_wp2_with fail
            refine (HP.out _).mono ?_
            rintro r w' ⟨rfl, rfl⟩
            go_wp2_with fail
            go_roundg (s.size - e)
            case measure => have := HG.out; omega
            case rel => exact ⟨e, g, acc, by omega, rfl, rfl, by omega, hacc, HO.out, HX.out, HN.out⟩
          · have t3 : ((s[k].toNat : Int) == 35) = false := by simpa using h2
            have HN := Lib.hid (show tokStep s g k acc (tokenF s k) = R by rw [← HS.out, scanF_tok hlt (by rw [hb]; exact t1) (by rw [hb]; exact t2) (by rw [hb]; exact t3)])
            have HT := Lib.hid (token_calls s k · hs hlt hn64)
            have HX1 := Lib.hid (tokenF_next hlt)
            clear h1 h2 hb hn64
            generalize tokenF s k = T at *
            obtain ⟨T, nx, er⟩ := T
            simp only at HN HX1
            by_cases h3 : er = 0
            · subst h3
              obtain ⟨n, rfl, b1, b2⟩ := HX1.out rfl
              by_cases h4 : acc.length = 4000
              · have H := Lib.hid (show R = ([], (k : Int), 4) by rw [← HN.out]; simp [tokStep, h4])
                have t4 : ((acc.length : Int) == 4000) = true := by simp [h4]
                obtain ⟨a, c, rfl, hrows⟩ := IsRows.of_owns (f := tokCells) (fun _ => rfl) HO.out
                have HRR := Lib.hid hrows
                clear hrows h4
                go_wp2_with fail
                refine (HT.out _).mono ?_
                rintro r w1 ⟨rfl, hw1⟩
                have HW1 := Lib.hid hw1
                clear hw1
                unfold tokV
                go_wp2_with fail
                try rw [Exit.noGoto_ret]
                go_ret3
                exact scanQ_err H.out ((HX.out.trans HW1.out).alloc _)
              · have t4 : ((acc.length : Int) == 4000) = false := by simp; omega
                obtain ⟨a, c, rfl, hrows⟩ := IsRows.of_owns (f := tokCells) (fun _ => rfl) HO.out
                clear hrows
                go_wp2_with fail
                refine (HT.out _).mono ?_
                rintro r w1 ⟨rfl, hw1⟩
                have HW1 := Lib.hid hw1
                have hx := HX.out.trans hw1
                clear hw1
                unfold tokV
                have HOW := Lib.hid ((owns_ext HO.out HW1.out).alloc (.cells #[.int .i64 T.kind, .string T.text, .int .i64 T.num, .int .i64 T.pos] 73))
                have hz := hx.size
                go_wp2_with (at_builtin; refine wpList_append_new elemTok rfl _ _ rfl w.heap.size _ _ _ rfl HOW.out _ 1 1 rfl ?c0 rfl ?c1 ?c2 ?c3 ?c4 ?_)
                case c0 => simp
                case c1 => simp [Value.oneCell']
                case c2 => simp only [maxLen]; omega
                case c3 => omega
                case c4 => simp; omega
                intro v2 w2 hown2 hgrow2
                have HX2 := Lib.hid (((HX.out.trans HW1.out).alloc _).grown hgrow2 (owns_base HOW.out))
                have hk0 : w2.cell? ⟨w1.heap.size, 0, none⟩ = some (.int .i64 T.kind) := hgrow2.cell (by go_simp) (by
                  intro e
                  have := ((owns_ext HO.out HW1.out).lt _ e.symm).2
                  simp at this)
                have HO2 := Lib.hid hown2
                have hL := Lib.hid (show (acc ++ [T]).length = acc.length + 1 by simp)
                have hF := Lib.hid (show (acc ++ [T]).flatMap tokCells = acc.flatMap tokCells ++ [.int .i64 T.kind, .string T.text, .int .i64 T.num, .int .i64 T.pos] by simp [tokCells])
                have cs : ((T.kind == 2) = false ∨ ((T.kind == 2) = true ∧ ¬ n < s.size)) ∨ ((T.kind == 2) = true ∧ ∃ hn : n < s.size, (letterB (s[n].toNat : Int) = true ∨ (letterB (s[n].toNat : Int) = false ∧ ((s[n].toNat : Int) == 45) = true)) ∨ (letterB (s[n].toNat : Int) = false ∧ ((s[n].toNat : Int) == 45) = false)) := by
                  cases h5 : T.kind == 2
                  · exact Or.inl (Or.inl rfl)
                  · by_cases h6 : n < s.size
                    · refine Or.inr ⟨rfl, h6, ?_⟩
                      cases letterB (s[n].toNat : Int) <;> cases ((s[n].toNat : Int) == 45) <;> simp
                    · exact Or.inl (Or.inr ⟨rfl, h6⟩)
                clear hown2 hgrow2 hx HOW HX1
                rcases cs with (t5 | ⟨t5, t6⟩) | ⟨t5, t6, (t7 | ⟨t7, t8⟩) | ⟨t7, t8⟩⟩
                · have HG2 := Lib.hid ((tokStep_go h4 (Or.inl t5)).symm.trans HN.out)
                  go_wp2_with fail
                  go_roundg (s.size - n)
                  case measure => have := HG.out; omega
                  case rel => exact ⟨n, g, acc ++ [T], by omega, rfl, rfl, by omega, by rw [hL.out]; omega, by rw [hL.out, hF.out]; exact HO2.out, HX2.out, HG2.out⟩
                · have HG2 := Lib.hid ((tokStep_go h4 (Or.inr (Or.inl t6))).symm.trans HN.out)
                  go_wp2_with fail
                  go_roundg (s.size - n)
                  case measure => have := HG.out; omega
                  case rel => exact ⟨n, g, acc ++ [T], by omega, rfl, rfl, by omega, by rw [hL.out]; omega, by rw [hL.out, hF.out]; exact HO2.out, HX2.out, HG2.out⟩
                · have HG2 := Lib.hid ((tokStep_stop h4 t5 t6 (Or.inl t7)).symm.trans HN.out)
                  have T7 := Lib.hid t7
                  clear t7
                  go_wp2_with fail
                  refine (letter_calls _ _).mono ?_
                  rintro r w' ⟨rfl, rfl⟩
                  rw [T7.out]
                  go_wp2_with fail
                  try rw [Exit.noGoto_ret]
                  go_ret3
                  exact scanQ_err HG2.out.symm HX2.out
                · have HG2 := Lib.hid ((tokStep_stop h4 t5 t6 (Or.inr t8)).symm.trans HN.out)
                  have T7 := Lib.hid t7
                  clear t7
                  go_wp2_with fail
                  refine (letter_calls _ _).mono ?_
                  rintro r w' ⟨rfl, rfl⟩
                  rw [T7.out]
                  go_wp2_with fail
                  try rw [Exit.noGoto_ret]
                  go_ret3
                  exact scanQ_err HG2.out.symm HX2.out
                · have HG2 := Lib.hid ((tokStep_go h4 (Or.inr (Or.inr ⟨t6, t7, t8⟩))).symm.trans HN.out)
                  have T7 := Lib.hid t7
                  clear t7
                  go_wp2_with fail
                  refine (letter_calls _ _).mono ?_
                  rintro r w' ⟨rfl, rfl⟩
                  rw [T7.out]
                  go_wp2_with fail
                  go_roundg (s.size - n)
                  case measure => have := HG.out; omega
                  case rel => exact ⟨n, g, acc ++ [T], by omega, rfl, rfl, by omega, by rw [hL.out]; omega, by rw [hL.out, hF.out]; exact HO2.out, HX2.out, HG2.out⟩
            · have H := Lib.hid (show R = ([], (k : Int), er) by rw [← HN.out]; simp [tokStep, h3])
              have t4 : (er == 0) = false := by simpa using h3
              clear h3
              go_wp2_with fail
              refine (HT.out _).mono ?_
              rintro r w1 ⟨rfl, hw1⟩
              have HW1 := Lib.hid hw1
              clear hw1
              unfold tokV
              go_wp2_with fail
              try rw [Exit.noGoto_ret]
              go_ret3
              exact scanQ_err H.out ((HX.out.trans HW1.out).alloc _)
      · have HN := Lib.hid (show (acc, (0 : Int), (0 : Int)) = R by
          rw [← HS.out]; cases f with
          | zero => rfl
          | succ f => rw [scanF, if_pos (by omega)])
        go_wp2_with fail
        try rw [Exit.noGoto_ret]
        go_ret3
        obtain ⟨a, c, rfl, hrows⟩ := IsRows.of_owns (f := tokCells) (fun _ => rfl) HO.out
        rw [← HN.out]
        exact ⟨a, acc.length, c, rfl, hrows, HX.out⟩
end Go.Proofs.YtaepiiediblleaaGreatDoor

namespace Go.Proofs.YtaepiiediblleaaGreatDoor
open Go.RowKit

/-- From w to w' only blocks of N have changed, and blocks have been added. -/
structure Chg (N : List Nat) (w w' : World) : Prop where
  os : w'.os = w.os
  tape : w'.tape = w.tape
  output : w'.output = w.output
  size : w.heap.size ≤ w'.heap.size
  block : ∀ k, k < w.heap.size → k ∉ N → w'.heap[k]? = w.heap[k]?

theorem Chg.refl (N : List Nat) (w : World) : Chg N w w := ⟨rfl, rfl, rfl, Nat.le_refl _, fun _ _ _ => rfl⟩
theorem Chg.trans {N N' : List Nat} {a b c : World} (h : Chg N a b) (k : Chg N' b c) (hN : ∀ x ∈ N', x ∈ N ∨ a.heap.size ≤ x) : Chg N a c :=
  ⟨k.os.trans h.os, k.tape.trans h.tape, k.output.trans h.output, Nat.le_trans h.size k.size, fun i hi hn =>
    (k.block i (Nat.lt_of_lt_of_le hi h.size) (fun h' => by rcases hN i h' with h' | h'; exact hn h'; omega)).trans (h.block i hi hn)⟩
theorem Ext.chg {w w' : World} (h : Ext w w') (N : List Nat) : Chg N w w' := ⟨h.os, h.tape, h.output, h.size, fun k hk _ => h.block k hk⟩
theorem Chg.ext {N : List Nat} {w0 w w' : World} (h : Chg N w w') (h0 : Ext w0 w) (hN : ∀ x ∈ N, w0.heap.size ≤ x) : Ext w0 w' :=
  ⟨h.os.trans h0.os, h.tape.trans h0.tape, h.output.trans h0.output, Nat.le_trans h0.size h.size, fun k hk =>
    (h.block k (Nat.lt_of_lt_of_le hk h0.size) (fun h' => by have := hN k h'; omega)).trans (h0.block k hk)⟩
theorem Chg.setCell {N : List Nat} {a w : World} (h : Chg N a w) {p : Addr} (hp : p.block ∈ N ∨ a.heap.size ≤ p.block) (v : Value) : Chg N a (w.setCell p v) :=
  ⟨h.os, h.tape, h.output, by simpa using h.size, fun k hk hn => (heap_setCell_other w p k v (fun e => by subst e; rcases hp with hp | hp; exact hn hp; omega)).trans (h.block k hk hn)⟩
theorem Chg.alloc {N : List Nat} {a w : World} (h : Chg N a w) (o : Obj) : Chg N a (w.alloc o) :=
  ⟨h.os, h.tape, h.output, by have := h.size; simp; omega, fun k hk hn => (Below.heap_alloc w o k (by have := h.size; omega)).trans (h.block k hk hn)⟩
theorem Chg.drew {N : List Nat} {a w : World} (h : Chg N a w) : Chg N a w.drew := ⟨h.os, h.tape, h.output, h.size, h.block⟩
theorem Ext.drewN {a w : World} (h : Ext a w) (n : Nat) : Ext a (w.drewN n) := ⟨h.os, h.tape, h.output, h.size, h.block⟩
theorem drewN_heap (w : World) (n : Nat) : (w.drewN n).heap = w.heap := rfl
theorem Chg.drewN {N : List Nat} {a w : World} (h : Chg N a w) (n : Nat) : Chg N a (w.drewN n) := ⟨h.os, h.tape, h.output, h.size, h.block⟩

/-- The parser in memory: its tokens, its place and its levels. -/
def PB (w : World) (bp : Nat) (ta : Option Addr) (tn tc : Nat) (k : Nat) (vl : Value) : Prop := w.heap[bp]? = some (.cells #[.slice ta tn tc, .int .i64 k, vl] 54 (0, 0))

def acceptB (toks : List Tok) (k : Nat) (kind : Int) (text : ByteArray) : Bool := match toks[k]? with | some t => (t.kind == kind) && decide (t.text = text) | none => false

/-- What accept does. -/
def AcceptQ (b : Bool) (bp : Nat) (ta : Option Addr) (tn tc k : Nat) (vl : Value) (w : World) (e : Ending) (w' : World) : Prop :=
  e = .returned (.bool b) ∧ PB w' bp ta tn tc (if b then k + 1 else k) vl ∧ Chg [bp] w w'

set_option maxRecDepth 100000 in
set_option maxHeartbeats 1000000 in
theorem accept_calls (toks : List Tok) (ta : Option Addr) (tn tc : Nat) (w0 w : World) (bp k : Nat) (vl : Value) (kind : Int) (text : ByteArray) (ht : IsToks w0 toks ta tn tc) (hx : Ext w0 w) (hb : PB w bp ta tn tc k vl) (hk : k ≤ tn) (htn : tn ≤ 1000000000000000) :
    Calls Tryz.prog 43 #[.pointer (some ⟨bp, 0, none⟩), .int .i64 kind, .string text] w (AcceptQ (acceptB toks k kind text) bp ta tn tc k vl w) := by
  have HB := Lib.hid hb
  unfold PB at hb
  have hlt := blk_lt hb
  obtain ⟨c0, c1, c2, cf⟩ := blk3 hb
  have HN := Lib.hid ht.1
  by_cases h1 : k = tn
  · have H := Lib.hid (show acceptB toks k kind text = false by
      have : toks[k]? = none := by rw [List.getElem?_eq_none]; rw [h1, HN.out]; exact Nat.le_refl _
      simp [acceptB, this])
    have t1 : ((k : Int) == (tn : Int)) = true := by simp [h1]
    generalize acceptB toks k kind text = B at *
    clear h1 hb ht hx
    go_enter Tryz.func43, Tryz.ntmps43
    go_wp2_with fail
    go_quiet (fail)
    go_wp2_with fail
    go_ret
    rw [H.out]
    exact ⟨rfl, HB.out, (Chg.refl _ _).drewN _⟩
  · have hlt1 : k < toks.length := by have := HN.out; omega
    have t1 : ((k : Int) == (tn : Int)) = false := by simp; omega
    have ti : (k : Int) < (tn : Int) := by omega
    have ti0 : (0 : Int) ≤ (k : Int) := by omega
    obtain ⟨b, off, rfl, hcells⟩ := ht.2.2.2 k hlt1
    have g0 := hx.cell (hcells 0 (by simp [tokCells]))
    have g1 := hx.cell (hcells 1 (by simp [tokCells]))
    simp only [tokCells, List.getElem_cons_zero, List.getElem_cons_succ, Nat.add_zero] at g0 g1
    have HA := Lib.hid (show acceptB toks k kind text = ((toks[k].kind == kind) && decide (toks[k].text = text)) by simp [acceptB, List.getElem?_eq_getElem hlt1])
    generalize acceptB toks k kind text = B at *
    generalize toks[k] = T at *
    clear hcells ht hx hb h1
    by_cases h2 : T.kind = kind
    · by_cases h3 : T.text = text
      · have t2 : (T.kind != kind) = false := by simpa using h2
        have t3 : (T.text.toList == text.toList) = true := by rw [h3]; simp
        have HA2 := Lib.hid (show B = true by rw [HA.out]; simp [h2, h3])
        clear HA h2 h3
        go_enter Tryz.func43, Tryz.ntmps43
        go_wp2_with fail
        go_quiet (fail)
        go_wp2_with fail
        go_ret
        rw [HA2.out]
        refine ⟨rfl, ?_, ?_⟩
        · have := heap_setCell_same w bp 1 _ _ (.int .i64 ((k : Int) + 1)) HB.out
          exact this
        · first
          | exact ((Chg.refl [bp] w).setCell (Or.inl (by simp)) _).drewN _
          | exact ((Chg.refl [bp] w).drewN _).setCell (Or.inl (by simp)) _
      · have t2 : (T.kind != kind) = false := by simpa using h2
        have t3 : (T.text.toList == text.toList) = false := by rw [toList_beq]; simpa using h3
        have HA2 := Lib.hid (show B = false by rw [HA.out]; simp [h3])
        clear HA h2 h3
        go_enter Tryz.func43, Tryz.ntmps43
        go_wp2_with fail
        go_quiet (fail)
        go_wp2_with fail
        go_ret
        rw [HA2.out]
        exact ⟨rfl, HB.out, (Chg.refl _ _).drewN _⟩
    · have t2 : (T.kind != kind) = true := by simpa using h2
      have t3 : (T.kind == kind) = false := by simpa using h2
      go_enter Tryz.func43, Tryz.ntmps43
      go_wp2_with fail
      go_quiet (fail)
      go_wp2_with fail
      go_ret
      rw [HA.out, t3]
      exact ⟨rfl, HB.out, (Chg.refl _ _).drewN _⟩
end Go.Proofs.YtaepiiediblleaaGreatDoor
