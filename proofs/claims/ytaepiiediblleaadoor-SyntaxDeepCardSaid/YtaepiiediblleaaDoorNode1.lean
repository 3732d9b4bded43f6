import Derived.Test.YtaepiiediblleaaDoorLex2
namespace Go.Proofs.YtaepiiediblleaaDoor
open Go.RowKit

def numberB (n : Int) : Bool := decide (-1000000000 ≤ n ∧ n ≤ 1000000000)
theorem number_calls (n : Int) (w : World) : Calls Tryd.prog 84 #[.int .i64 n] w (Gives (.bool (numberB n)) w) := by
  go_enter Tryd.func84, Tryd.ntmps84
  go_wp2_with fail
  all_goals (go_ret; exact gives_bool (by simp [numberB]; omega))

/-- The index of the first string of l from k on that is x; -1 if there is none. -/
def indexF (l : List ByteArray) (x : ByteArray) : Int := match l.findIdx? (fun y => decide (y = x)) with | some i => i | none => -1

theorem indexF_of {l : List ByteArray} {x : ByteArray} {k : Nat} (hk : k < l.length) (h1 : ∀ j (hj : j < l.length), j < k → l[j] ≠ x) (h2 : l[k] = x) : indexF l x = k := by
  unfold indexF
  have : l.findIdx? (fun y => decide (y = x)) = some k := by
    rw [List.findIdx?_eq_some_iff_getElem]
    exact ⟨hk, by simp [h2], fun j hj => by simpa using h1 j (by omega) hj⟩
  rw [this]
theorem indexF_none {l : List ByteArray} {x : ByteArray} (h1 : ∀ j (hj : j < l.length), l[j] ≠ x) : indexF l x = -1 := by
  unfold indexF
  have : l.findIdx? (fun y => decide (y = x)) = none := by
    rw [List.findIdx?_eq_none_iff]
    intro y hy
    obtain ⟨j, hj, rfl⟩ := List.getElem_of_mem hy
    simpa using h1 j hj
  rw [this]
theorem indexF_nonneg {l : List ByteArray} {x : ByteArray} : (0 ≤ indexF l x) ↔ x ∈ l := by
  unfold indexF
  cases h : l.findIdx? (fun y => decide (y = x)) with
  | none =>
    rw [List.findIdx?_eq_none_iff] at h
    constructor
    · intro h'; simp at h'
    · intro h'; have := h x h'; simp at this
  | some i =>
    rw [List.findIdx?_eq_some_iff_getElem] at h
    obtain ⟨hi, h2, _⟩ := h
    constructor
    · intro _; simp at h2; rw [← h2]; exact List.getElem_mem hi
    · intro _; simp

set_option maxRecDepth 100000 in
theorem index_calls (l : List ByteArray) (x : ByteArray) (a : Option Addr) (n c : Nat) (w : World) (hn : n ≤ 1000000000000000) (hl : IsStrs w l a n c) :
    Calls Tryd.prog 124 #[.slice a n c, .string x] w (Gives (.int .i64 (indexF l x)) w) := by
  have HL := Lib.hid hl
  clear hl
  go_enter Tryd.func124, Tryd.ntmps124
  go_wp2_with fail
  go_loop [8] (fun t => ∃ k : Nat, t = .int .i64 k ∧ k ≤ n ∧ ∀ j (hj : j < l.length), j < k → l[j] ≠ x) (fun t => n - (intOf t).toNat)
  case atStart => exact ⟨0, rfl, by omega, fun _ _ h => by omega⟩
  case round =>
    obtain ⟨k, rfl, hk, hne⟩ := hrel
    have HE := Lib.hid hne
    clear hne
    by_cases hlt : k < n
    · have hlt' : k < l.length := by have := HL.out.1; omega
      obtain ⟨b, off, rfl, hcell⟩ := HL.out.2.2.2 k hlt'
      cases hx : (x.toList == l[k].toList)
      · go_wp2_with fail
        go_round
        case rel =>
          refine ⟨k + 1, by go_num, by omega, ?_⟩
          intro j hj hj2
          by_cases hjk : j < k
          · exact HE.out j hj hjk
          · obtain rfl : j = k := by omega
            intro h; subst h; simp at hx
        case measure => simp [intOf]; omega
      · go_wp2_with fail
        go_ret
        exact gives_int (by rw [indexF_of hlt' HE.out (toList_inj (beq_iff_eq.1 hx)).symm])
    · go_wp2_with fail
      go_ret
      exact gives_int (by rw [indexF_none (fun j hj => HE.out j hj (by have := HL.out.1; omega))])

theorem contains_calls (l : List ByteArray) (x : ByteArray) (a : Option Addr) (n c : Nat) (w : World) (hn : n ≤ 1000000000000000) (hl : IsStrs w l a n c) :
    Calls Tryd.prog 106 #[.slice a n c, .string x] w (Gives (.bool (decide (x ∈ l))) w) := by
  have HL := Lib.hid hl
  clear hl
  go_enter Tryd.func106, Tryd.ntmps106
  go_wp2_with (go_at_call 124; refine (index_calls l _ _ _ _ _ hn HL.out).mono ?_; rintro e w' ⟨rfl, rfl⟩)
  go_ret
  exact gives_bool (by rw [Bool.eq_iff_iff]; simp [indexF_nonneg])

/-- The first k words of a list, as a slice of it. -/
theorem IsStrs.take {w : World} {l : List ByteArray} {a : Option Addr} {n c : Nat} (h : IsStrs w l a n c) {k : Nat} (hk : k ≤ n) : IsStrs w (l.take k) a k c := by
  obtain ⟨h1, h2, h3, h4⟩ := h
  refine ⟨by simp; omega, by omega, h3, fun i hi => ?_⟩
  have : i < l.length := by simp at hi; omega
  obtain ⟨b, off, e1, e2⟩ := h4 i this
  exact ⟨b, off, e1, by simpa using e2⟩

def wordsB (l : List ByteArray) : Bool := l.length != 0 && decide (l.length ≤ 12) && (l.all nameB) && decide l.Nodup

/-- What has been looked at: k words, all of them names, no two alike. -/
def Looked (l : List ByteArray) (k : Nat) : Prop := (∀ x ∈ l.take k, nameB x = true) ∧ (l.take k).Nodup

theorem Looked.next {l : List ByteArray} {k : Nat} (h : Looked l k) (hk : k < l.length) (h1 : nameB l[k] = true) (h2 : l[k] ∉ l.take k) : Looked l (k + 1) := by
  unfold Looked at *
  rw [List.take_succ_eq_append_getElem hk]
  refine ⟨fun x hx => ?_, ?_⟩
  · rcases List.mem_append.1 hx with hx | hx
    · exact h.1 x hx
    · simp at hx; subst hx; exact h1
  · rw [List.nodup_append]
    exact ⟨h.2, by simp, fun a ha b hb => by simp at hb; subst hb; intro e; subst e; exact h2 ha⟩
theorem wordsB_of {l : List ByteArray} (h : Looked l l.length) (h0 : l.length ≠ 0) (h1 : l.length ≤ 12) : wordsB l = true := by
  unfold Looked at h
  simp at h
  simp [wordsB, h0, h1, h.2]
  exact h.1
theorem wordsB_no {l : List ByteArray} {k : Nat} (hk : k < l.length) (h : nameB l[k] = false ∨ l[k] ∈ l.take k) : wordsB l = false := by
  cases hb : wordsB l
  · rfl
  simp [wordsB] at hb
  obtain ⟨⟨_, h3⟩, h4⟩ := hb
  rcases h with h | h
  · rw [h3 _ (List.getElem_mem hk)] at h; cases h
  · have : (l.take (k + 1)).Nodup := h4.sublist (List.take_sublist _ _)
    rw [List.take_succ_eq_append_getElem hk, List.nodup_append] at this
    exact absurd rfl (this.2.2 _ h _ (by simp))

set_option maxRecDepth 100000 in
theorem words_calls (l : List ByteArray) (a : Option Addr) (n c : Nat) (w : World) (hl : IsStrs w l a n c) (hsz : ∀ x ∈ l, x.size ≤ 1000000000000000) :
    Calls Tryd.prog 83 #[.slice a n c] w (Gives (.bool (wordsB l)) w) := by
  have HL := Lib.hid hl
  have HZ := Lib.hid hsz
  have hnc := hl.2.1
  have hnl := Lib.hid hl.1
  clear hl hsz
  by_cases h0 : n = 0
  · have H := Lib.hid (show wordsB l = false by have hl0 : l.length = 0 := by have := hnl.out; omega
                                                simp [wordsB, hl0])
    have hz : ((n : Int) == 0) = true := by simp [h0]
    clear h0
    go_enter Tryd.func83, Tryd.ntmps83
    go_wp2_with fail
    go_ret
    exact gives_bool (by rw [H.out])
  have hz : ((n : Int) == 0) = false := by simp [h0]
  by_cases h1 : n ≤ 12
  · have h12 : decide ((12 : Int) < n) = false := by simp; omega
    go_enter Tryd.func83, Tryd.ntmps83
    go_wp2_with fail
    go_loop [15] (fun t => ∃ k : Nat, t = .int .i64 k ∧ k ≤ n ∧ Looked l k) (fun t => n - (intOf t).toNat)
    case atStart => exact ⟨0, rfl, by omega, by simp [Looked]⟩
    case round =>
      obtain ⟨k, rfl, hk, hlo⟩ := hrel
      have HO := Lib.hid hlo
      clear hlo
      by_cases hlt : k < n
      · have hlt' : k < l.length := by have := hnl.out; omega
        have hsk := HZ.out _ (List.getElem_mem hlt')
        have HT := Lib.hid (HL.out.take hk)
        obtain ⟨b, off, rfl, hcell⟩ := HL.out.2.2.2 k hlt'
        cases h3 : nameB l[k]
        · have H := Lib.hid (wordsB_no hlt' (Or.inl h3))
          have H3 := Lib.hid h3
          clear h3
          go_wp2_with fail
          refine (name_calls _ _ hsk).mono ?_
          rintro e w' ⟨rfl, rfl⟩
          rw [H3.out]
          go_wp2_with fail
          go_ret
          exact gives_bool (by rw [H.out])
        · have H3 := Lib.hid h3
          clear h3
          by_cases h4 : l[k] ∈ l.take k
          · have H := Lib.hid (wordsB_no hlt' (Or.inr h4))
            have H4 := Lib.hid h4
            clear h4
            go_wp2_with fail
            refine (name_calls _ _ hsk).mono ?_
            rintro e w' ⟨rfl, rfl⟩
            rw [H3.out]
            go_wp2_with fail
            refine (contains_calls _ _ _ _ _ _ (by omega) HT.out).mono ?_
            rintro e w' ⟨rfl, rfl⟩
            rw [decide_eq_true H4.out]
            go_wp2_with fail
            go_ret
            exact gives_bool (by rw [H.out])
          · have H4 := Lib.hid h4
            clear h4
            go_wp2_with fail
            refine (name_calls _ _ hsk).mono ?_
            rintro e w' ⟨rfl, rfl⟩
            rw [H3.out]
            go_wp2_with fail
            refine (contains_calls _ _ _ _ _ _ (by omega) HT.out).mono ?_
            rintro e w' ⟨rfl, rfl⟩
            rw [decide_eq_false H4.out]
            go_wp2_with fail
            go_round
            case rel => exact ⟨k + 1, by go_num, by omega, HO.out.next hlt' H3.out H4.out⟩
            case measure => simp [intOf]; omega
      · go_wp2_with fail
        go_ret
        exact gives_bool (by
          have e1 := hnl.out
          obtain rfl : k = l.length := by omega
          rw [wordsB_of HO.out (by omega) (by omega)])
  · have H := Lib.hid (show wordsB l = false by have hl0 : ¬ l.length ≤ 12 := by have := hnl.out; omega
                                                simp [wordsB, hl0])
    go_enter Tryd.func83, Tryd.ntmps83
    go_wp2_with fail
    go_ret
    exact gives_bool (by rw [H.out])
end Go.Proofs.YtaepiiediblleaaDoor
