/-
  Texts of the claim, joined: Exs, Ref1, Ref2, Names2, Names3.
-/
import Derived.Test.YtaepiiediblleaaDoorNa08
import Derived.Test.YtaepiiediblleaaDoorNa03
import Derived.Test.YtaepiiediblleaaDoorNa06
import Derived.Test.YtaepiiediblleaaDoorNa02
import Derived.Test.YtaepiiediblleaaDoorNa04
import Derived.StringKeys
import Derived.Deep.DeepCutAuto
import Derived.Deep.LoopGhost
import Derived.Laws.Cover1
import Derived.Sort.Walk0
namespace Go.Proofs.YtaepiiediblleaaDoor
open Go.RowKit

def ExsR (w : World) (l : List Ex) (xs : List ExV) : Prop := l.length = xs.length ∧ ∀ i (h1 : i < l.length) (h2 : i < xs.length), IsEx w l[i] xs[i].val
theorem ExsR.mono {w w' : World} {l : List Ex} {xs : List ExV} (h : ExsR w l xs) (hs : Sub w w') : ExsR w' l xs := ⟨h.1, fun i h1 h2 => (h.2 i h1 h2).mono hs⟩
theorem ExsR.nil (w : World) : ExsR w [] [] := ⟨rfl, fun i h => by simp at h⟩
theorem ExsR.snoc {w : World} {l : List Ex} {xs : List ExV} {e : Ex} {x : ExV} (h : ExsR w l xs) (hx : IsEx w e x.val) : ExsR w (l ++ [e]) (xs ++ [x]) := by
  refine ⟨by simp [h.1], fun i h1 h2 => ?_⟩
  by_cases hi : i < l.length
  · have hi2 : i < xs.length := by rw [← h.1]; exact hi
    simp only [List.getElem_append_left hi, List.getElem_append_left hi2]
    exact h.2 i hi hi2
  · have e1 : i = l.length := by simp at h1; omega
    subst e1
    simp only [List.getElem_append_right (Nat.le_refl _), List.getElem_append_right (show xs.length ≤ l.length by rw [h.1]; exact Nat.le_refl _), Nat.sub_self, List.getElem_cons_zero]
    simpa [h.1] using hx
theorem exV_len (x : ExV) : x.cells.length = 6 := rfl

/-- Expressions in a row that the call owns. -/
theorem exs_owns {w : World} {M : List Nat} {base : Nat} {v : Value} {l : List Ex} {xs : List ExV} (h : w.ownsRow base 26 6 v l.length (xs.flatMap ExV.cells)) (hM : ∀ k, v.ownBlock = some k → k ∉ M) (hR : ExsR (mask w M) l xs) :
    ∃ a c, v = .slice a l.length c ∧ l.length ≤ c ∧ OkAddr a c ∧ ExsD (mask w M) l a := by
  rw [hR.1] at h
  obtain ⟨a, c, rfl, hr⟩ := IsRows.of_owns exV_len h
  refine ⟨a, c, by rw [hR.1], by rw [hR.1]; exact hr.2.1, hr.2.2.1, ?_⟩
  match l, hR with
  | [], _ => unfold ExsD; trivial
  | e :: r, hR =>
    obtain ⟨b, off, rfl, h1⟩ := hr.2.2.2 0 (by rw [← hR.1]; simp)
    refine ExsD.of (e :: r) off xs hR.1 fun i h3 h4 => ⟨fun j hj => ?_, hR.2 i h3 h4⟩
    obtain ⟨b', off', e1, h5⟩ := hr.2.2.2 i h4
    simp only [Option.some.injEq, Addr.mk.injEq, and_true] at e1
    obtain ⟨rfl, rfl⟩ := e1
    rw [mask_cell, if_neg (hM _ rfl), h5 j (by rw [exV_len]; exact hj), List.getElem?_eq_getElem (by rw [exV_len]; exact hj)]

/-- One expression in a block of its own. -/
theorem exs_one {w : World} {M : List Nat} {g : Nat} {e : Ex} {x : ExV} {t : TypeId} (h : w.heap[g]? = some (.cells x.cells.toArray t (0, 0))) (hM : g ∉ M) (hx : IsEx (mask w M) e x.val) : ExsD (mask w M) [e] (some ⟨g, 0, none⟩) := by
  refine ExsD.of [e] 0 [x] rfl fun i h1 h2 => ?_
  obtain rfl : i = 0 := by simp at h1; exact h1
  refine ⟨fun j hj => ?_, hx⟩
  rw [mask_cell, if_neg hM, blk_cell h]
  simp
theorem isEx_not {w : World} {M : List Nat} {g : Nat} {e : Ex} {x : ExV} {t : TypeId} (h : w.heap[g]? = some (.cells x.cells.toArray t (0, 0))) (hM : g ∉ M) (hx : IsEx (mask w M) e x.val) :
    IsEx (mask w M) (.mk 6 ⟨#[]⟩ [] 0 0 [e]) (exV 6 ⟨#[]⟩ none 0 0 0 0 (some ⟨g, 0, none⟩) 1 1) :=
  IsEx.mk ⟨rfl, by omega, Or.inl ⟨rfl, rfl⟩, fun i hi => by simp at hi⟩ rfl (by simp) (Or.inr ⟨g, 0, rfl⟩) (exs_one h hM hx)
/-- An expression is stored into a box. -/
def put6 (w : World) (B : Nat) (x : ExV) : World := (((((w.setCell ⟨B, 0, none⟩ (.int .i64 x.op)).setCell ⟨B, 1, none⟩ (.string x.name)).setCell ⟨B, 2, none⟩ (.slice x.aw x.nw x.cw)).setCell ⟨B, 3, none⟩ (.int .i64 x.lo)).setCell ⟨B, 4, none⟩ (.int .i64 x.hi)).setCell ⟨B, 5, none⟩ (.slice x.aa x.na x.ca)
theorem put6_blk {w : World} {B : Nat} {y : ExV} {t : TypeId} (h : w.heap[B]? = some (.cells y.cells.toArray t (0, 0))) (x : ExV) : (put6 w B x).heap[B]? = some (.cells x.cells.toArray t (0, 0)) := by
  unfold put6
  rw [heap_setCell_same _ _ _ _ _ _ (heap_setCell_same _ _ _ _ _ _ (heap_setCell_same _ _ _ _ _ _ (heap_setCell_same _ _ _ _ _ _ (heap_setCell_same _ _ _ _ _ _ (heap_setCell_same _ _ _ _ _ _ h)))))]
  rfl
theorem put6_chg (w : World) (B : Nat) (x : ExV) {N : List Nat} (h : B ∈ N) : Chg N w (put6 w B x) := by
  unfold put6
  repeat (with_reducible (refine Chg.setCell ?_ ?_ _))
  exact Chg.refl _ _
  all_goals exact Or.inl h
theorem put6_size (w : World) (B : Nat) (x : ExV) : (put6 w B x).heap.size = w.heap.size := by simp [put6]
end Go.Proofs.YtaepiiediblleaaDoor

namespace Go.Proofs.YtaepiiediblleaaDoor
open Go.RowKit

theorem rletter_calls (c : Int) (w : World) : Calls Tryd.prog 92 #[.int .u8 c] w (Gives (.bool (letterB c)) w) := by
  go_enter Tryd.func92, Tryd.ntmps92
  go_wp2_with fail
  all_goals (go_ret; exact gives_bool (by simp [letterB]; omega))
theorem rdigit_calls (c : Int) (w : World) : Calls Tryd.prog 93 #[.int .u8 c] w (Gives (.bool (digitB c)) w) := by
  go_enter Tryd.func93, Tryd.ntmps93
  go_wp2_with fail
  all_goals (go_ret; exact gives_bool (by simp [digitB]; omega))
theorem far_calls (n : Int) (w : World) : Calls Tryd.prog 88 #[.int .i64 n] w (Gives (.bool (!numberB n)) w) := by
  go_enter Tryd.func88, Tryd.ntmps88
  go_wp2_with fail
  all_goals (go_ret; exact gives_bool (by rw [Bool.eq_iff_iff]; simp [numberB]; omega))
set_option maxHeartbeats 1000000 in
theorem rreserved_calls (s : ByteArray) (w : World) : Calls Tryd.prog 107 #[.string s] w (Gives (.bool (reservedB s)) w) := by
  go_enter Tryd.func107, Tryd.ntmps107
  go_wp2_with fail
  all_goals (go_ret; exact gives_bool (by simp_all [reservedB, reservedWords]))

theorem spanF_every (p : Int → Bool) (s : ByteArray) : ∀ (m k : Nat), s.size - k = m → k ≤ s.size → (spanF p s (s.size - k) k = s.size ↔ ∀ j (h : j < s.size), k ≤ j → p (s[j].toNat : Int) = true) := by
  intro m
  induction m with
  | zero =>
    intro k hm hk
    rw [spanF_end (by omega)]
    exact ⟨fun _ j h hj => by omega, fun _ => by omega⟩
  | succ m ih =>
    intro k hm hk
    have hlt : k < s.size := by omega
    cases hp : p (s[k].toNat : Int)
    · rw [spanF_stop hlt hp]
      exact ⟨fun h => by omega, fun h => by rw [h k hlt (Nat.le_refl _)] at hp; cases hp⟩
    · rw [spanF_step hlt hp, ih (k + 1) (by omega) (by omega)]
      refine ⟨fun h j hj hkj => ?_, fun h j hj hkj => h j hj (by omega)⟩
      by_cases e : j = k
      · subst e; exact hp
      · exact h j hj (by omega)
theorem wordB_of {s : ByteArray} (h0 : s.size ≠ 0) (h1 : s.size ≤ 16) (h2 : letterB (byteAt s 0) = true) (h3 : byteAt s (s.size - 1) ≠ 45) (h : ∀ j (hj : j < s.size), inWordB (s[j].toNat : Int) = true) : wordB s = true := by
  have := (spanF_every inWordB s _ 0 rfl (by omega)).2 (fun j hj _ => h j hj)
  rw [Nat.sub_zero] at this
  simp [wordB, h0, h1, h2, h3, this]
theorem wordB_no {s : ByteArray} {j : Nat} (hj : j < s.size) (h : inWordB (s[j].toNat : Int) = false) : wordB s = false := by
  cases hb : wordB s
  · rfl
  simp only [wordB, Bool.and_eq_true, beq_iff_eq] at hb
  have := (spanF_every inWordB s _ 0 rfl (by omega)).1 (by rw [Nat.sub_zero]; exact hb.2) j hj (by omega)
  rw [h] at this; cases this

set_option maxRecDepth 100000 in
set_option maxHeartbeats 1000000 in
theorem rword_calls (s : ByteArray) (w : World) (hs : s.size ≤ 1000000000000000) : Calls Tryd.prog 64 #[.string s] w (Gives (.bool (wordB s)) w) := by
  by_cases h0 : s.size = 0
  · have H := Lib.hid (show wordB s = false by simp [wordB, h0])
    have hz : decide ((s.size : Int) < 1) = true := by simp [h0]
    clear h0
    go_enter Tryd.func64, Tryd.ntmps64
    go_wp2_with fail
    go_ret
    exact gives_bool (by rw [H.out])
  have hz : decide ((s.size : Int) < 1) = false := by simp; omega
  by_cases h1 : s.size ≤ 16
  · have hb0 := byteAt_lt (show 0 < s.size by omega)
    have hb1 := byteAt_lt (show s.size - 1 < s.size by omega)
    have hz2 : decide ((16 : Int) < s.size) = false := by simp; omega
    cases h2 : letterB (s[0]'(by omega)).toNat
    · have H := Lib.hid (show wordB s = false by simp [wordB, hb0, h2])
      have H2 := Lib.hid h2
      clear h2 hb0 hb1
      go_enter Tryd.func64, Tryd.ntmps64
      go_wp2_with fail
      refine (rletter_calls _ _).mono ?_
      rintro e w' ⟨rfl, rfl⟩
      rw [H2.out]
      go_wp2_with fail
      go_ret
      exact gives_bool (by rw [H.out])
    · have H2 := Lib.hid h2
      have HB0 := Lib.hid hb0
      have HB1 := Lib.hid hb1
      clear h2 hb0 hb1
      have e1 : ((s.size : Int) - 1).toNat = s.size - 1 := by omega
      cases h3 : ((s[s.size - 1]'(by omega)).toNat : Int) == 45
      · have HY := Lib.hid (show (∀ j (hj : j < s.size), inWordB (s[j].toNat : Int) = true) → wordB s = true from fun h => wordB_of h0 h1 (by rw [HB0.out]; exact H2.out) (by rw [HB1.out]; simpa using h3) h)
        go_enter Tryd.func64, Tryd.ntmps64
        go_wp2_with fail
        refine (rletter_calls _ _).mono ?_
        rintro e w' ⟨rfl, rfl⟩
        rw [H2.out]
        go_wp2_with fail
        go_loop [3] (fun i => ∃ k : Nat, i = .int .i64 k ∧ k ≤ s.size ∧ ∀ j (hj : j < s.size), j < k → inWordB (s[j].toNat : Int) = true) (fun i => s.size - (intOf i).toNat)
        case atStart => exact ⟨0, rfl, by omega, fun j _ h => by omega⟩
        case round =>
          obtain ⟨k, rfl, hk, hall⟩ := hrel
          have HA := Lib.hid hall
          clear hall
          by_cases hlt : k < s.size
          · have HN := Lib.hid (fun h => wordB_no (s := s) hlt h)
            cases h4 : letterB (s[k].toNat : Int)
            · cases h5 : digitB (s[k].toNat : Int)
              · cases h6 : ((s[k].toNat : Int) == 45)
                · have H := Lib.hid (HN.out (by simp [inWordB, h4, h5, h6]))
                  have h6' : ((s[k].toNat : Int) != 45) = true := by simpa using h6
                  have H4 := Lib.hid h4
                  have H5 := Lib.hid h5
                  clear h4 h5
                  go_wp2_with fail
                  refine (rletter_calls _ _).mono ?_
                  rintro e w' ⟨rfl, rfl⟩
                  rw [H4.out]
                  go_wp2_with fail
                  refine (rdigit_calls _ _).mono ?_
                  rintro e w' ⟨rfl, rfl⟩
                  rw [H5.out]
                  go_wp2_with fail
                  go_ret
                  exact gives_bool (by rw [H.out])
                · have H := Lib.hid (show inWordB (s[k].toNat : Int) = true by simp [inWordB, h4, h5, h6])
                  have h6' : ((s[k].toNat : Int) != 45) = false := by simpa using h6
                  have H4 := Lib.hid h4
                  have H5 := Lib.hid h5
                  clear h4 h5
                  go_wp2_with fail
                  refine (rletter_calls _ _).mono ?_
                  rintro e w' ⟨rfl, rfl⟩
                  rw [H4.out]
                  go_wp2_with fail
                  refine (rdigit_calls _ _).mono ?_
                  rintro e w' ⟨rfl, rfl⟩
                  rw [H5.out]
                  go_wp2_with fail
                  go_round
                  case rel => exact ⟨k + 1, by go_num, by omega, fun j hj hjk => by
                    by_cases e : j = k
                    · subst e; exact H.out
                    · exact HA.out j hj (by omega)⟩
                  case measure => simp [intOf]; omega
              · have H := Lib.hid (show inWordB (s[k].toNat : Int) = true by simp [inWordB, h4, h5])
                have H4 := Lib.hid h4
                have H5 := Lib.hid h5
                clear h4 h5
                go_wp2_with fail
                refine (rletter_calls _ _).mono ?_
                rintro e w' ⟨rfl, rfl⟩
                rw [H4.out]
                go_wp2_with fail
                refine (rdigit_calls _ _).mono ?_
                rintro e w' ⟨rfl, rfl⟩
                rw [H5.out]
                go_wp2_with fail
                go_round
                case rel => exact ⟨k + 1, by go_num, by omega, fun j hj hjk => by
                  by_cases e : j = k
                  · subst e; exact H.out
                  · exact HA.out j hj (by omega)⟩
                case measure => simp [intOf]; omega
            · have H := Lib.hid (show inWordB (s[k].toNat : Int) = true by simp [inWordB, h4])
              have H4 := Lib.hid h4
              clear h4
              go_wp2_with fail
              refine (rletter_calls _ _).mono ?_
              rintro e w' ⟨rfl, rfl⟩
              rw [H4.out]
              go_wp2_with fail
              go_round
              case rel => exact ⟨k + 1, by go_num, by omega, fun j hj hjk => by
                by_cases e : j = k
                · subst e; exact H.out
                · exact HA.out j hj (by omega)⟩
              case measure => simp [intOf]; omega
          · go_wp2_with fail
            go_ret
            exact gives_bool (by rw [HY.out (fun j hj => HA.out j hj (by omega))])
      · have H := Lib.hid (show wordB s = false by simp [wordB, HB0.out, HB1.out, H2.out, h1, h0]; intro h; simp at h3; omega)
        go_enter Tryd.func64, Tryd.ntmps64
        go_wp2_with fail
        refine (rletter_calls _ _).mono ?_
        rintro e w' ⟨rfl, rfl⟩
        rw [H2.out]
        go_wp2_with fail
        go_ret
        exact gives_bool (by rw [H.out])
  · have H := Lib.hid (show wordB s = false by simp [wordB]; omega)
    have hz2 : decide ((16 : Int) < s.size) = true := by simp; omega
    go_enter Tryd.func64, Tryd.ntmps64
    go_wp2_with fail
    go_ret
    exact gives_bool (by rw [H.out])
theorem rname_calls (s : ByteArray) (w : World) (hs : s.size ≤ 1000000000000000) : Calls Tryd.prog 85 #[.string s] w (Gives (.bool (nameB s)) w) := by
  go_enter Tryd.func85, Tryd.ntmps85
  go_wp2_with (first
    | (go_at_call 64; refine (rword_calls _ _ hs).mono ?_; rintro e w' ⟨rfl, rfl⟩)
    | (go_at_call 107; refine (rreserved_calls _ _).mono ?_; rintro e w' ⟨rfl, rfl⟩))
  all_goals (go_ret; exact gives_bool (by simp_all [nameB]))

set_option maxRecDepth 100000 in
theorem names_calls (l : List ByteArray) (a : Option Addr) (n c : Nat) (w : World) (hl : IsStrs w l a n c) (hn : n ≤ 1000000000000000) (hsz : ∀ x ∈ l, x.size ≤ 1000000000000000) :
    Calls Tryd.prog 86 #[.slice a n c] w (Gives (.bool (l.all nameB)) w) := by
  have HL := Lib.hid hl
  have HZ := Lib.hid hsz
  have hnl := Lib.hid hl.1
  clear hl hsz
  go_enter Tryd.func86, Tryd.ntmps86
  go_wp2_with fail
  go_loop [3] (fun t => ∃ k : Nat, t = .int .i64 k ∧ k ≤ n ∧ ∀ j (hj : j < l.length), j < k → nameB l[j] = true) (fun t => n - (intOf t).toNat)
  case atStart => exact ⟨0, rfl, by omega, fun j _ h => by omega⟩
  case round =>
    obtain ⟨k, rfl, hk, hlo⟩ := hrel
    have HO := Lib.hid hlo
    clear hlo
    by_cases hlt : k < n
    · have hlt' : k < l.length := by have := hnl.out; omega
      have hsk := HZ.out _ (List.getElem_mem hlt')
      obtain ⟨b, off, rfl, hcell⟩ := HL.out.2.2.2 k hlt'
      cases h3 : nameB l[k]
      · have H := Lib.hid (show l.all nameB = false by
          rw [List.all_eq_false]; exact ⟨l[k], List.getElem_mem hlt', by simp [h3]⟩)
        have H3 := Lib.hid h3
        clear h3
        go_wp2_with fail
        refine (rname_calls _ _ hsk).mono ?_
        rintro e w' ⟨rfl, rfl⟩
        rw [H3.out]
        go_wp2_with fail
        go_ret
        exact gives_bool (by rw [H.out])
      · have H3 := Lib.hid h3
        clear h3
        go_wp2_with fail
        refine (rname_calls _ _ hsk).mono ?_
        rintro e w' ⟨rfl, rfl⟩
        rw [H3.out]
        go_wp2_with fail
        go_round
        case rel => exact ⟨k + 1, by go_num, by omega, fun j hj hjk => by
          by_cases e : j = k
          · subst e; exact H3.out
          · exact HO.out j hj (by omega)⟩
        case measure => simp [intOf]; omega
    · go_wp2_with fail
      go_ret
      exact gives_bool (by
        symm
        rw [List.all_eq_true]
        intro x hx
        obtain ⟨j, hj, rfl⟩ := List.getElem_of_mem hx
        exact HO.out j hj (by have := hnl.out; omega))

theorem nodup_of {l : List ByteArray} {n : Nat} (hn : n = l.length) (h : ∀ i j (hi : i < l.length) (hj : j < l.length), i < n → j < i → l[i] ≠ l[j]) : l.Nodup := by
  rw [List.Nodup, List.pairwise_iff_getElem]
  intro i j hi hj hij e
  exact h j i hj hi (by omega) hij e.symm

/-- A value is handed back; memory is as it was. -/
def GivesD (v : Value) (w : World) (e : Ending) (w' : World) : Prop := e = .returned v ∧ ∃ n, w' = w.drewN n
theorem drewN_drewN (w : World) (a b : Nat) : (w.drewN a).drewN b = w.drewN (a + b) := by simp [World.drewN, Nat.add_assoc]
theorem givesD_bool {a b : Bool} {w w' : World} (h : a = b) (hx : ∃ n, w' = w.drewN n) : GivesD (.bool b) w (.returned (.bool a)) w' := by subst h; exact ⟨rfl, hx⟩
set_option maxRecDepth 100000 in
set_option maxHeartbeats 1000000 in
theorem distinct_calls (l : List ByteArray) (a : Option Addr) (n c : Nat) (w : World) (hl : IsStrs w l a n c) (hn : n ≤ 1000000000000000) :
    Calls Tryd.prog 87 #[.slice a n c] w (GivesD (.bool (decide l.Nodup)) w) := by
  have HL := Lib.hid hl
  have hnl := Lib.hid hl.1
  clear hl
  go_enter Tryd.func87, Tryd.ntmps87
  go_wp2_with fail
  go_loopw [3, 4] (fun t _ wr => ∃ k : Nat, t = .int .i64 k ∧ k ≤ n ∧ (∀ i j (hi : i < l.length) (hj : j < l.length), i < k → j < i → l[i] ≠ l[j]) ∧ ∃ q, wr = w.drewN q) (fun t _ _ => n - (intOf t).toNat)
  case atStart => exact ⟨0, rfl, by omega, fun i j _ _ h => by omega, 0, rfl⟩
  case round =>
    obtain ⟨k, rfl, hk, hlo, q, rfl⟩ := hrel
    have HO := Lib.hid hlo
    clear hlo
    by_cases hlt : k < n
    · have hlt' : k < l.length := by have := hnl.out; omega
      go_wp2_with fail
      go_loopw [4] (fun t wr2 => ∃ m : Nat, t = .int .i64 m ∧ m ≤ k ∧ (∀ j (hj : j < l.length), j < m → l[k] ≠ l[j]) ∧ ∃ q, wr2 = w.drewN q) (fun t _ => k - (intOf t).toNat)
      case atStart => exact ⟨0, rfl, by omega, fun j _ h => by omega, q, rfl⟩
      case round =>
        obtain ⟨m, rfl, hm, hne, q2, rfl⟩ := hrel
        have HE := Lib.hid hne
        clear hne
        by_cases hmk : m < k
        · have hmk' : m < l.length := by omega
          obtain ⟨b, off, rfl, hc1⟩ := HL.out.2.2.2 k hlt'
          obtain ⟨b', off', e, hc2⟩ := HL.out.2.2.2 m hmk'
          simp only [Option.some.injEq, Addr.mk.injEq, and_true] at e
          obtain ⟨rfl, rfl⟩ := e
          have ti0 : (0 : Int) ≤ (k : Int) := by omega
          have ti1 : (k : Int) < (n : Int) := by omega
          have tj0 : (0 : Int) ≤ (m : Int) := by omega
          have tj1 : (m : Int) < (n : Int) := by omega
          cases he : (l[k].toList == l[m].toList)
          · have HQ := Lib.hid he
            go_wp2_with fail
            go_quiet (fail)
            go_wp2_with fail
            go_roundw
            case rel =>
              refine ⟨m + 1, by go_num, by omega, fun j hj hjm => ?_, _, rfl⟩
              by_cases e : j = m
              · subst e; intro h; have := HQ.out; rw [h] at this; simp at this
              · exact HE.out j hj (by omega)
            case measure => simp [intOf]; omega
          · have H := Lib.hid (show decide l.Nodup = false by
              rw [decide_eq_false_iff_not]
              intro hnd
              have h1 := toList_inj (beq_iff_eq.1 he)
              rw [List.Nodup, List.pairwise_iff_getElem] at hnd
              exact hnd m k hmk' hlt' hmk h1.symm)
            go_wp2_with fail
            go_quiet (fail)
            go_wp2_with fail
            go_ret
            exact givesD_bool (by rw [H.out]) ⟨_, drewN_drewN _ _ _⟩
        · go_wp2_with fail
          go_roundw
          case rel =>
            refine ⟨k + 1, by go_num, by omega, fun i j hi hj hik hji => ?_, q2, rfl⟩
            by_cases e : i = k
            · subst e; exact HE.out j hj (by omega)
            · exact HO.out i j hi hj (by omega) hji
          case measure => simp [intOf]; omega
    · go_wp2_with fail
      go_ret
      exact givesD_bool (by
        symm
        rw [decide_eq_true_eq]
        exact nodup_of hnl.out (fun i j hi hj hin hji => HO.out i j hi hj (by omega) hji)) ⟨q, rfl⟩
end Go.Proofs.YtaepiiediblleaaDoor

namespace Go.Proofs.YtaepiiediblleaaDoor
open Go.RowKit

theorem size_pos (e : Ex) : 1 ≤ e.size := by rw [e.size_eq]; omega

/-- Size of the reference: at most 301. -/
def refSize (e : Ex) : Nat := min e.size 301
def refSizes : List Ex → Nat
  | [] => 0
  | e :: r => refSize e + refSizes r
theorem refSizes_le (l : List Ex) : refSizes l ≤ sizes l ∧ l.length ≤ refSizes l ∧ min (1 + refSizes l) 301 = min (1 + sizes l) 301 := by
  induction l with
  | nil => simp [refSizes, sizes]
  | cons e r ih => have := size_pos e; simp only [refSizes, sizes, refSize, List.length_cons]; omega
theorem refSizes_take_succ (l : List Ex) (k : Nat) (hk : k < l.length) : refSizes (l.take (k + 1)) = refSizes (l.take k) + refSize l[k] := by
  induction l generalizing k with
  | nil => simp at hk
  | cons e r ih =>
    cases k with
    | zero => simp [refSizes]
    | succ k => have := ih k (by simpa using hk); simp only [List.take_succ_cons, refSizes, this, List.getElem_cons_succ]; omega
theorem refSize_of {e : Ex} {k : Nat} (hs : k = e.args.length ∨ 300 < 1 + refSizes (e.args.take k)) : min (1 + refSizes (e.args.take k)) 301 = refSize e := by
  have h1 := e.size_eq
  have h2 := refSizes_le (e.args.take k)
  have h3 := sizes_take_le e.args k
  have h4 := refSizes_le e.args
  unfold refSize
  rcases hs with hs | hs
  · rw [hs, List.take_length]; omega
  · omega

set_option maxRecDepth 100000 in
set_option maxHeartbeats 1000000 in
theorem rsize_calls (m : Nat) : ∀ (e : Ex) (v : Value) (w : World), e.size ≤ m → IsEx w e v → Calls Tryd.prog 13 #[v] w (GivesE (.int .i64 (refSize e)) w) := by
  induction m with
  | zero => intro e v w h; have := size_pos e; omega
  | succ m ih =>
    intro e v w hm he
    obtain ⟨aw, nw, cw, aa, na, ca, rfl, hw, hna, hca, ha, hx⟩ := he.parts
    have HX := Lib.hid hx
    have HN := Lib.hid hna
    have hS : e.size = 1 + sizes e.args := e.size_eq
    have hb2 : sizes e.args ≤ m := by omega
    have H : Hid (∀ (e : Ex) (v : Value) (w : World), e.size ≤ m → IsEx w e v → Calls Tryd.prog 13 #[v] w (GivesE (.int .i64 (refSize e)) w)) := ih
    clear ih hx hna hw hca ha he hS hm
    unfold exV
    go_enter Tryd.func13, Tryd.ntmps13
    go_wp2_with fail
    go_loopw [3, 4] (fun s i wr => ∃ k : Nat, k ≤ na ∧ i = .int .i64 k ∧ s = .int .i64 (1 + (refSizes (e.args.take k) : Int)) ∧ refSizes (e.args.take k) ≤ 601 ∧ wr.heap[w.heap.size]? = some (.cells #[.int .i64 e.op, .string e.name, .slice aw nw cw, .int .i64 e.lo, .int .i64 e.hi, .slice aa na ca] 26 (0, 0)) ∧ Ext w wr) (fun _ i _ => na - (intOf i).toNat)
    case atStart => exact ⟨0, by omega, rfl, by simp [refSizes], by simp [refSizes], alloc_new w _, (Ext.refl w).alloc _⟩
    case round =>
      obtain ⟨k, hk, rfl, rfl, hb6, hbx, hb⟩ := hrel
      have HBX := Lib.hid hbx
      have HB := Lib.hid hb
      have hlt0 := blk_lt hbx
      obtain ⟨b0, b1, b2, b3, b4, b5, bf⟩ := blk6 hbx
      have hkl : k ≤ refSizes (e.args.take k) := by have := (refSizes_le (e.args.take k)).2.1; have hl := HN.out; rw [List.length_take] at this; omega
      clear hbx hb
      by_cases hlt : k < na
      · have hlt' : k < e.args.length := by have := HN.out; omega
        by_cases hc : refSizes (e.args.take k) ≤ 299
        · have t1 : decide ((k : Int) < (na : Int)) = true := by simp; omega
          have t2 : decide (1 + (refSizes (e.args.take k) : Int) ≤ 300) = true := by simp; omega
          obtain ⟨b, off, rfl, aw1, nw1, cw1, aa1, na1, ca1, h0, h1, h2, h3, h4, h5, h6⟩ := ExsD.at e.args _ (ExsD.ext HB.out e.args _ HX.out) k hlt'
          have H6 := Lib.hid h6
          have hs1 := Lib.hid (refSizes_take_succ e.args k hlt')
          have hsz := sizes_take_succ e.args k hlt'
          have hsl := sizes_take_le e.args (k + 1)
          have hk1 : e.args[k].size ≤ m := by omega
          have hr : refSize e.args[k] ≤ 301 := by unfold refSize; omega
          clear h6 hsz hsl
          go_wp2_with fail
          refine (H.out e.args[k] _ _ hk1 H6.out).mono ?_
          rintro r w1 ⟨rfl, hb1⟩
          have HE1 := Lib.hid hb1
          clear b0 b1 b2 b3 b4 b5 bf hb1
          go_wp2_with fail
          go_roundw
          case rel => exact ⟨k + 1, by omega, by go_num, by rw [hs1.out]; go_num, by rw [hs1.out]; omega, HE1.out.blk HBX.out, HB.out.trans HE1.out⟩
          case measure => simp [intOf]; omega
        · have t1 : decide ((k : Int) < (na : Int)) = true := by simp; omega
          have t2 : decide (1 + (refSizes (e.args.take k) : Int) ≤ 300) = false := by simp; omega
          have H1 := Lib.hid (refSize_of (e := e) (k := k) (Or.inr (by omega)))
          go_wp2_with fail
          all_goals (go_ret; exact givesE_int (by rw [← H1.out]; omega) HB.out)
      · have t1 : decide ((k : Int) < (na : Int)) = false := by simp; omega
        have H1 := Lib.hid (refSize_of (e := e) (k := k) (Or.inl (by have := HN.out; omega)))
        go_wp2_with fail
        all_goals (go_ret; exact givesE_int (by rw [← H1.out]; omega) HB.out)
set_option maxRecDepth 100000 in
set_option maxHeartbeats 1000000 in
theorem deeper_calls (m : Nat) : ∀ (e : Ex) (v : Value) (w : World) (n : Nat), e.size ≤ m → m ≤ 1000000000000000 → n ≤ 1000 → IsEx w e v → Calls Tryd.prog 36 #[v, .int .i64 n] w (GivesE (.bool (decide (n < e.depth))) w) := by
  induction m with
  | zero => intro e v w n h; have := size_pos e; omega
  | succ m ih =>
    intro e v w n hm hMM hn he
    obtain ⟨aw, nw, cw, aa, na, ca, rfl, hw, hna, hca, ha, hx⟩ := he.parts
    have HX := Lib.hid hx
    have HN := Lib.hid hna
    have HD := Lib.hid e.depth_eq
    have hS : e.size = 1 + sizes e.args := e.size_eq
    have hb2 : sizes e.args ≤ m := by omega
    have hla := length_le_sizes e.args
    have H : Hid (∀ (e : Ex) (v : Value) (w : World) (n : Nat), e.size ≤ m → n ≤ 1000 → IsEx w e v → Calls Tryd.prog 36 #[v, .int .i64 n] w (GivesE (.bool (decide (n < e.depth))) w)) := fun e v w n h1 h2 h3 => ih e v w n h1 (by omega) h2 h3
    clear ih hx hna hw hca ha he hS hm
    unfold exV
    by_cases hn0 : n = 0
    · have t1 : ((n : Int) == 0) = true := by simp [hn0]
      have H1 := Lib.hid (show decide (n < e.depth) = true by rw [decide_eq_true_eq, HD.out]; omega)
      generalize decide (n < e.depth) = B at *
      go_enter Tryd.func36, Tryd.ntmps36
      go_wp2_with fail
      go_ret
      exact givesE_bool (by rw [H1.out]) ((Ext.refl w).alloc _)
    · have hn1 : 1 ≤ n := by omega
      have t1 : ((n : Int) == 0) = false := by simp; omega
      obtain ⟨B, hB⟩ : ∃ B, B = decide (n < e.depth) := ⟨_, rfl⟩
      rw [← hB]
      have HBQ := Lib.hid hB
      clear hB
      go_enter Tryd.func36, Tryd.ntmps36
      go_wp2_with fail
      go_loopw [5] (fun i wr => ∃ k : Nat, k ≤ na ∧ i = .int .i64 k ∧ (∀ j (hj : j < e.args.length), j < k → ¬ n - 1 < e.args[j].depth) ∧ wr.heap[w.heap.size]? = some (.cells #[.int .i64 e.op, .string e.name, .slice aw nw cw, .int .i64 e.lo, .int .i64 e.hi, .slice aa na ca] 26 (0, 0)) ∧ Ext w wr) (fun i _ => na - (intOf i).toNat)
      case atStart => exact ⟨0, by omega, rfl, fun j _ h => by omega, alloc_new w _, (Ext.refl w).alloc _⟩
      case round =>
        obtain ⟨k, hk, rfl, hall, hbx, hb⟩ := hrel
        have HA := Lib.hid hall
        have HBX := Lib.hid hbx
        have HB := Lib.hid hb
        have hlt0 := blk_lt hbx
        obtain ⟨b0, b1, b2, b3, b4, b5, bf⟩ := blk6 hbx
        clear hbx hb hall
        by_cases hlt : k < na
        · have hlt' : k < e.args.length := by have := HN.out; omega
          obtain ⟨b, off, rfl, aw1, nw1, cw1, aa1, na1, ca1, h0, h1, h2, h3, h4, h5, h6⟩ := ExsD.at e.args _ (ExsD.ext HB.out e.args _ HX.out) k hlt'
          have H6 := Lib.hid h6
          have hsz := sizes_take_succ e.args k hlt'
          have hsl := sizes_take_le e.args (k + 1)
          have hk1 : e.args[k].size ≤ m := by omega
          have HM1 := Lib.hid (depths_mem (List.getElem_mem hlt'))
          clear h6 hsz hsl
          have HCA := Lib.hid (show (n : Int) - 1 = ((n - 1 : Nat) : Int) by omega)
          go_wp2_with fail
          rw [HCA.out]
          refine (H.out e.args[k] _ _ (n - 1) hk1 (by omega) H6.out).mono ?_
          rintro r w1 ⟨rfl, hb1⟩
          have HE1 := Lib.hid hb1
          clear b0 b1 b2 b3 b4 b5 bf hb1
          by_cases hdp : n - 1 < e.args[k].depth
          · rw [decide_eq_true hdp]
            have H1 := Lib.hid (show B = true by rw [HBQ.out, decide_eq_true_eq, HD.out]; have := HM1.out; omega)
            clear hdp
            go_wp2_with fail
            go_ret
            exact givesE_bool (by rw [H1.out]) (HB.out.trans HE1.out)
          · rw [decide_eq_false hdp]
            have HND := Lib.hid hdp
            clear hdp
            go_wp2_with fail
            go_roundw
            case rel =>
              refine ⟨k + 1, by omega, by go_num, fun j hj hjk => ?_, HE1.out.blk HBX.out, HB.out.trans HE1.out⟩
              by_cases ej : j = k
              · subst ej; exact HND.out
              · exact HA.out j hj (by omega)
            case measure => simp [intOf]; omega
        · have H1 := Lib.hid (show B = false by
            rw [HBQ.out, decide_eq_false_iff_not, HD.out]
            have : ∀ l : List Ex, (∀ x ∈ l, ¬ n - 1 < x.depth) → depths l ≤ n - 1 := by
              intro l
              induction l with
              | nil => intro _; simp [depths]
              | cons y r ih =>
                intro h
                have h1 := h y (by simp)
                have h2 := ih (fun x hx => h x (List.mem_cons_of_mem _ hx))
                simp only [depths]; omega
            have := this e.args (fun x hx => by
              obtain ⟨j, hj, rfl⟩ := List.getElem_of_mem hx
              exact HA.out j hj (by have := HN.out; omega))
            omega)
          go_wp2_with fail
          go_ret
          exact givesE_bool (by rw [H1.out]) HB.out

set_option maxRecDepth 100000 in
theorem sameWords_calls (l1 l2 : List ByteArray) (a1 a2 : Option Addr) (n1 c1 n2 c2 : Nat) (w : World) (h1 : IsStrs w l1 a1 n1 c1) (h2 : IsStrs w l2 a2 n2 c2) (hn : n1 ≤ 1000000000000000) :
    Calls Tryd.prog 24 #[.slice a1 n1 c1, .slice a2 n2 c2] w (GivesD (.bool (decide (l1 = l2))) w) := by
  have HL1 := Lib.hid h1
  have HL2 := Lib.hid h2
  have hn1 := Lib.hid h1.1
  have hn2 := Lib.hid h2.1
  obtain ⟨B, hB⟩ : ∃ B, B = decide (l1 = l2) := ⟨_, rfl⟩
  rw [← hB]
  have HBQ := Lib.hid hB
  clear h1 h2 hB
  by_cases he : n1 = n2
  · have t1 : ((n1 : Int) != (n2 : Int)) = false := by simp [he]
    have t2 : (n1 != n2) = false := by simp [he]
    have hle : n1 ≤ n2 := by omega
    have HEQ := Lib.hid he
    clear he
    go_enter Tryd.func24, Tryd.ntmps24
    go_wp2_with fail
    go_loopw [5] (fun t wr => ∃ k : Nat, t = .int .i64 k ∧ k ≤ n1 ∧ (∀ j (hj : j < l1.length) (hj2 : j < l2.length), j < k → l1[j] = l2[j]) ∧ ∃ q, wr = w.drewN q) (fun t _ => n1 - (intOf t).toNat)
    case atStart => exact ⟨0, rfl, by omega, fun j _ _ h => by omega, 0, rfl⟩
    case round =>
      obtain ⟨k, rfl, hk, hal, q, rfl⟩ := hrel
      have HA := Lib.hid hal
      clear hal
      by_cases hlt : k < n1
      · have hk1 : k < l1.length := by have := hn1.out; omega
        have hk2 : k < l2.length := by have := hn2.out; omega
        obtain ⟨b, off, rfl, hc1⟩ := HL1.out.2.2.2 k hk1
        obtain ⟨b', off', rfl, hc2⟩ := HL2.out.2.2.2 k hk2
        have ti0 : (0 : Int) ≤ (k : Int) := by omega
        have ti1 : (k : Int) < (n1 : Int) := by omega
        have tj1 : (k : Int) < (n2 : Int) := by omega
        have tj2 : k < n2 := by omega
        cases hx : (l1[k].toList == l2[k].toList)
        · have H1 := Lib.hid (show B = false by
            rw [HBQ.out, decide_eq_false_iff_not]
            intro e
            subst e
            simp at hx)
          have hx2 : (l1[k].toList != l2[k].toList) = true := by simp only [bne, hx]; rfl
          go_wp2_with fail
          go_quiet (fail)
          go_wp2_with fail
          go_ret
          exact givesD_bool (by rw [H1.out]) ⟨_, drewN_drewN _ _ _⟩
        · have HQ := Lib.hid hx
          have hx2 : (l1[k].toList != l2[k].toList) = false := by simp only [bne, hx]; rfl
          go_wp2_with fail
          go_quiet (fail)
          go_wp2_with fail
          go_roundw
          case rel =>
            refine ⟨k + 1, by go_num, by omega, fun j hj hj2 hjk => ?_, _, rfl⟩
            by_cases e : j = k
            · subst e; exact toList_inj (beq_iff_eq.1 HQ.out)
            · exact HA.out j hj hj2 (by omega)
          case measure => simp [intOf]; omega
      · have H1 := Lib.hid (show B = true by
          rw [HBQ.out, decide_eq_true_eq]
          have e1 := hn1.out
          have e2 := hn2.out
          have e3 := HEQ.out
          exact List.ext_getElem (by omega) (fun j hj hj2 => HA.out j hj hj2 (by omega)))
        go_wp2_with fail
        go_ret
        exact givesD_bool (by rw [H1.out]) ⟨q, rfl⟩
  · have t1 : ((n1 : Int) != (n2 : Int)) = true := by simp [bne_iff_ne]; omega
    have t2 : (n1 != n2) = true := by simp [bne_iff_ne]; omega
    have H1 := Lib.hid (show B = false by
      rw [HBQ.out, decide_eq_false_iff_not]
      intro e
      have e1 := hn1.out
      have e2 := hn2.out
      rw [e] at e1
      omega)
    go_enter Tryd.func24, Tryd.ntmps24
    go_wp2_with fail
    go_ret
    exact givesD_bool (by rw [H1.out]) ⟨0, rfl⟩
end Go.Proofs.YtaepiiediblleaaDoor

namespace Go.Proofs.YtaepiiediblleaaDoor
open Go.RowKit Go.Maps

theorem uStr2 : Tryd.prog.underlying 9 = some .string := by kernel_rfl
theorem keyedStr : Keyed Tryd.prog 9 := string_keyed uStr2
theorem uSet : Tryd.prog.underlying 69 = some (.map 9 75) := by kernel_rfl
/-- The map is the set of these names. -/
def SetAt (w : World) (b n : Nat) (l : List ByteArray) : Prop := ∃ D : DataW Unit, w.ownsMap Tryd.prog 9 unitElem b n D ∧ SetIs D l
theorem SetAt.chg {w w' : World} {b n : Nat} {l : List ByteArray} {N : List Nat} (h : SetAt w b n l) (hc : Chg N w w') (hn : b ∉ N) : SetAt w' b n l := by
  obtain ⟨D, ⟨es, clock, hb, r⟩, hs⟩ := h
  exact ⟨D, ⟨es, clock, hc.blk hb hn, r⟩, hs⟩
theorem SetAt.lt {w : World} {b n : Nat} {l : List ByteArray} (h : SetAt w b n l) : b < w.heap.size := by
  obtain ⟨D, h, _⟩ := h
  exact h.lt
theorem SetAt.mono {w : World} {b n n' : Nat} {l : List ByteArray} (h : SetAt w b n l) (hn : n ≤ n') : SetAt w b n' l := by
  obtain ⟨D, h, hs⟩ := h
  exact ⟨D, h.mono hn, hs⟩
def CollectQ (b n : Nat) (l : List ByteArray) (w : World) (e : Ending) (w' : World) : Prop := e = .returned (.tuple #[]) ∧ SetAt w' b n l ∧ Chg [b] w w'
theorem Chg.put_map {w w' : World} {b : Nat} (h : w.grownBy w' (some b)) : Chg [b] w w' := ⟨h.os, h.tape, h.output, h.size, fun k hk hn => h.block k hk (fun e => hn (by simp at e; simp [e]))⟩

theorem mask_in2 {w : World} {M : List Nat} {p : Addr} {v : Value} (h : (mask w M).cell? p = some v) : w.cell? p = some v := by
  rw [mask_cell] at h
  split at h
  · cases h
  · exact h
theorem fitsAll_mem : (l : List Ex) → fitsAll l → ∀ x ∈ l, x.fits
  | [], _, x, hx => by simp at hx
  | a :: r, h, x, hx => by
    unfold fitsAll at h
    rcases List.mem_cons.1 hx with rfl | hx
    · exact h.1
    · exact fitsAll_mem r h.2 x hx
theorem fits_parts2 {e : Ex} (h : e.fits) : e.name.size ≤ 1000000000000000 ∧ ∀ x ∈ e.args, x.fits := by
  cases e
  unfold Ex.fits at h
  exact ⟨h.1, fitsAll_mem _ h.2.2⟩

set_option maxRecDepth 100000 in
set_option maxHeartbeats 4000000 in
theorem collect_calls (m : Nat) : m ≤ 1000000 → ∀ (e : Ex) (v : Value) (w : World) (b n : Nat) (l : List ByteArray), e.size ≤ m → e.fits → IsEx (mask w [b]) e v → SetAt w b n l → n + e.size ≤ 1000000 →
    Calls Tryd.prog 40 #[v, .map (some b)] w (CollectQ b (n + e.size) (l ++ namesE e) w) := by
  induction m with
  | zero => intro _ e v w b n l h; have := size_pos e; omega
  | succ m ih =>
    intro hMM e v w b n l hm hfit he hset hn
    obtain ⟨aw, nw, cw, aa, na, ca, rfl, hw, hna, hca, ha, hx⟩ := he.parts
    have hS : e.size = 1 + sizes e.args := e.size_eq
    have hla := length_le_sizes e.args
    obtain ⟨hnm, hfa⟩ := fits_parts2 hfit
    have HFA := Lib.hid hfa
    have hbw := hset.lt
    have HX := Lib.hid ((Ext.refl w).alloc (.cells #[.int .i64 e.op, .string e.name, .slice aw nw cw, .int .i64 e.lo, .int .i64 e.hi, .slice aa na ca] 26))
    have HBX := Lib.hid (alloc_new w (.cells #[.int .i64 e.op, .string e.name, .slice aw nw cw, .int .i64 e.lo, .int .i64 e.hi, .slice aa na ca] 26))
    have HXS := Lib.hid (ExsD.mono (mask_ext [b] HX.out) e.args aa hx)
    have HSET := Lib.hid (hset.chg (HX.out.chg []) (by simp))
    have HNA := Lib.hid hna
    have HNM := Lib.hid (namesE_eq e)
    have HSZ := Lib.hid hS
    have IH := Lib.hid (ih (by omega))
    have hna2 : na ≤ 1000000 := by omega
    have hsz : sizes e.args ≤ m := by omega
    have hn2 : n + 1 + sizes e.args ≤ 1000000 := by omega
    clear hw hna hca ha hx he hset hS hla hfit hfa ih hm hn
    generalize namesE e = NE at *
    generalize e.size = SE at *
    unfold exV
    go_enter Tryd.func40, Tryd.ntmps40
    go_upto_region 1 with fail
    generalize w.alloc (.cells #[.int .i64 e.op, .string e.name, .slice aw nw cw, .int .i64 e.lo, .int .i64 e.hi, .slice aa na ca] 26) = wb at *
    have hz0 := HX.out.size
    obtain ⟨b0, b1, b2, b3, b4, b5, bf⟩ := blk6 HBX.out
    have hlx := blk_lt HBX.out
    by_cases h3 : e.op = 3
    case' pos =>
      have t3 : (e.op == 3) = true := by simp [h3]
      obtain ⟨D, hown, hsi⟩ := HSET.out
      have HOW := Lib.hid hown
      have HNE := Lib.hid (show NE = [e.name] ++ namesL e.args by rw [HNM.out, if_pos h3])
      have HSI := Lib.hid (hsi.put e.name (.agg []))
      clear hown hsi h3
      go_wp2_with (at_mapUpdate; refine wpList_mapUpdate_own _ rfl _ _ _ 69 rfl 9 75 keyedStr uSet (unitElem (H := Unit)) b n D rfl HOW.out ?c0 _ _ _ rfl rfl (Go.WideMaps.keyOf_string_mk uStr2 ?c1) _ [] unitElem_mk ?_)
      case c0 => unfold maxLen; omega
      case c1 => unfold maxLen; omega
      intro w1 hown1 hgrow1
      have hc1 := Chg.put_map hgrow1
      have HC1 := Lib.hid hc1
      obtain ⟨L, hL⟩ : ∃ L, L = l ++ [e.name] := ⟨_, rfl⟩
      have HS1 := Lib.hid (show SetAt w1 b (n + 1) L by rw [hL]; exact ⟨_, hown1, HSI.out⟩)
      have HB1 := Lib.hid (hc1.blk HBX.out (by simp; omega))
      have HNE1 := Lib.hid (show L ++ namesL e.args = l ++ NE by rw [hL, HNE.out, List.append_assoc])
      have hz1 := hc1.size
      clear hown1 hgrow1 hc1 HOW HSI HNE hL b0 b1 b2 b3 b4 b5 bf hlx
      go_upto_region 3 with fail
    case' neg =>
      have t3 : (e.op == 3) = false := by simp [h3]
      have HNE := Lib.hid (show NE = namesL e.args by rw [HNM.out, if_neg h3]; simp)
      have HC1 := Lib.hid (Chg.refl [b] wb)
      obtain ⟨L, hL⟩ : ∃ L, L = l := ⟨_, rfl⟩
      have HS1 := Lib.hid (show SetAt wb b (n + 1) L by rw [hL]; exact HSET.out.mono (Nat.le_succ n))
      have HB1 := HBX
      have HNE1 := Lib.hid (show L ++ namesL e.args = l ++ NE by rw [hL, HNE.out])
      have hz1 := Nat.le_refl wb.heap.size
      clear h3 HNE hL
      go_upto_region 3 with fail
      clear b0 b1 b2 b3 b4 b5 bf hlx
    all_goals
      obtain ⟨b0, b1, b2, b3, b4, b5, bf⟩ := blk6 HB1.out
      have hlx := blk_lt HB1.out
      go_wp2_with fail
      clear b0 b1 b2 b3 b4 b5 bf hlx
      go_loopg [16] na (fun g i wr => ∃ j : Nat, j ≤ na ∧ g = na - j ∧ i = .int .i64 j ∧ SetAt wr b (n + 1 + sizes (e.args.take j)) (L ++ namesL (e.args.take j)) ∧ Chg [b] wb wr)
      case atStart => exact ⟨0, by omega, rfl, rfl, by simpa [sizes, namesL] using HS1.out, HC1.out⟩
      case round =>
        obtain ⟨j, hj, hgj, rfl, hs, hc⟩ := hrel
        have HGN := Lib.hid hgj
        have HSJ := Lib.hid hs
        have HCJ := Lib.hid hc
        have hzr := hc.size
        clear hs hc hgj
        by_cases hlt : j < na
        · have hlt' : j < e.args.length := by have := HNA.out; omega
          have td : decide ((j : Int) < (na : Int)) = true := by simp; omega
          obtain ⟨bb, off, rfl, aw1, nw1, cw1, aa1, na1, ca1, c0, c1, c2, c3, c4, c5, c6⟩ := ExsD.at e.args _ (ExsD.mono HCJ.out.sub _ _ HXS.out) j hlt'
          have HC6 := Lib.hid c6
          replace c0 := mask_in2 c0
          replace c1 := mask_in2 c1
          replace c2 := mask_in2 c2
          replace c3 := mask_in2 c3
          replace c4 := mask_in2 c4
          replace c5 := mask_in2 c5
          have HST := Lib.hid (sizes_take_succ e.args j hlt')
          have HSL := Lib.hid (sizes_take_le e.args (j + 1))
          have HNT := Lib.hid (namesL_take e.args j hlt')
          have HFJ := Lib.hid (HFA.out _ (List.getElem_mem hlt'))
          clear c6
          generalize e.args[j] = a at *
          go_upto_region 6 with fail
          have HXA := Lib.hid ((Ext.refl wr).alloc (.cells #[.int .i64 a.op, .string a.name, .slice aw1 nw1 cw1, .int .i64 a.lo, .int .i64 a.hi, .slice aa1 na1 ca1] 26))
          have HBA := Lib.hid (alloc_new wr (.cells #[.int .i64 a.op, .string a.name, .slice aw1 nw1 cw1, .int .i64 a.lo, .int .i64 a.hi, .slice aa1 na1 ca1] 26))
          clear c0 c1 c2 c3 c4 c5
          generalize wr.alloc (.cells #[.int .i64 a.op, .string a.name, .slice aw1 nw1 cw1, .int .i64 a.lo, .int .i64 a.hi, .slice aa1 na1 ca1] 26) = wa at *
          obtain ⟨a0, a1, a2, a3, a4, a5, af⟩ := blk6 HBA.out
          have hla := blk_lt HBA.out
          go_wp2_with fail
          refine (IH.out a _ _ b _ _ (by have := HST.out; have := HSL.out; omega) HFJ.out (HC6.out.mono (mask_ext [b] HXA.out)) (HSJ.out.chg (HXA.out.chg []) (by simp)) (by have := HST.out; have := HSL.out; omega)).mono ?_
          rintro r w2 ⟨rfl, hs2, hc2⟩
          have HS2 := Lib.hid (show SetAt w2 b (n + 1 + sizes (e.args.take (j + 1))) (L ++ namesL (e.args.take (j + 1))) by
            rw [HST.out, HNT.out, ← List.append_assoc, ← Nat.add_assoc]; exact hs2)
          have HC2 := Lib.hid ((HCJ.out.then (HXA.out.chg _)).then hc2)
          clear hs2 hc2 a0 a1 a2 a3 a4 a5 af hla
          go_wp2_with fail
          go_roundg (na - (j + 1))
          case measure => have := HGN.out; omega
          case rel => exact ⟨j + 1, by omega, rfl, by go_num, HS2.out, HC2.out⟩
        · have HE2 := Lib.hid (show e.args.take j = e.args from List.take_of_length_le (by have := HNA.out; omega))
          have td : decide ((j : Int) < (na : Int)) = false := by simp; omega
          rw [HE2.out] at HSJ
          go_wp2_with fail
          go_end0
          refine ⟨rfl, ?_, (HX.out.chg _).then HCJ.out⟩
          rw [HSZ.out, ← HNE1.out, ← Nat.add_assoc]
          exact HSJ.out
end Go.Proofs.YtaepiiediblleaaDoor

namespace Go.Proofs.YtaepiiediblleaaDoor
open Go.RowKit Go.Maps

/-- A row of strings that the call owns. -/
def OwnS (w : World) (base : Nat) (l : List ByteArray) (v : Value) : Prop := w.ownsRow base 9 1 v l.length (l.flatMap strCells)
def PutQ (l : List ByteArray) (w : World) (e : Ending) (w' : World) : Prop := ∃ (a : Option Addr) (c : Nat), e = .returned (.slice a l.length c) ∧ IsStrs w' l a l.length c ∧ Ext w w'
theorem putL_lt {s x : ByteArray} {r : List ByteArray} (h : Op.bytesLess s.toList x.toList = true) : putL s (x :: r) = s :: x :: r := by
  rw [Go.Proofs.bytesLess_eq, decide_eq_true_eq] at h
  rw [putL, if_pos h]
theorem putL_same {s x : ByteArray} {r : List ByteArray} (h1 : Op.bytesLess s.toList x.toList = false) (h2 : (s.toList == x.toList) = true) : putL s (x :: r) = x :: r := by
  rw [Go.Proofs.bytesLess_eq, decide_eq_false_iff_not] at h1
  rw [putL, if_neg h1, if_pos (by simpa using h2)]
theorem putL_gt {s x : ByteArray} {r : List ByteArray} (h1 : Op.bytesLess s.toList x.toList = false) (h2 : (s.toList == x.toList) = false) : putL s (x :: r) = x :: putL s r := by
  rw [Go.Proofs.bytesLess_eq, decide_eq_false_iff_not] at h1
  rw [putL, if_neg h1, if_neg (by simpa using h2)]
theorem drop_at {l : List ByteArray} {k : Nat} (h : k < l.length) : l.drop k = l[k] :: l.drop (k + 1) := by simp

set_option maxRecDepth 100000 in
set_option maxHeartbeats 4000000 in
theorem put_calls (s : ByteArray) (l : List ByteArray) (a : Option Addr) (n c : Nat) (w : World) (hs : IsStrs w l a n c) (hn : n ≤ 1000000) :
    Calls Tryd.prog 63 #[.slice a n c, .string s] w (PutQ (putL s l) w) := by
  have HS := Lib.hid hs
  have HN := Lib.hid hs.1
  have HLEN := Lib.hid (putL_len s l)
  clear hs
  go_enter Tryd.func63, Tryd.ntmps63
  go_wp2_with fail
  go_loopg [5, 6, 7] n (fun m u d i wr => ∃ (k : Nat) (out : List ByteArray) (done : Bool), k ≤ n ∧ m = n - k ∧ i = .int .i64 k ∧ d = .bool done ∧ out.length ≤ k + 1 ∧ (done = false → out.length ≤ k) ∧ OwnS wr w.heap.size out u ∧ out ++ (if done then l.drop k else putL s (l.drop k)) = putL s l ∧ Ext w wr)
  case atStart => exact ⟨0, [], false, by omega, rfl, rfl, rfl, by simp, by simp, World.ownsRow_nil _ _ _ _, by simp, Ext.refl _⟩
  case round =>
    obtain ⟨k, out, done, hk, hm, rfl, rfl, hol, hod, hown, heq, hx⟩ := hrel
    have HM := Lib.hid hm
    have HO := Lib.hid hown
    have HEQ := Lib.hid heq
    have HX := Lib.hid hx
    have HOD := Lib.hid hod
    have hz := hx.size
    obtain ⟨ua, uc, rfl, -, -⟩ := strs_of_owns hown [] (by simp)
    clear hm hown heq hx hod
    by_cases hlt : k < n
    · have hlt' : k < l.length := by have := HN.out; omega
      have td : decide ((k : Int) < (n : Int)) = true := by simp; omega
      obtain ⟨b, off, rfl, hcell⟩ := HS.out.2.2.2 k hlt'
      have HC := Lib.hid hcell
      replace hcell := HX.out.cell hcell
      have HD := Lib.hid (drop_at hlt')
      have hbl := block_lt hcell
      simp only at hbl
      generalize l[k] = x at *
      have fin : ∀ (out2 : List ByteArray) (done2 : Bool) (u2 : Value) (w2 : World), out2 ++ (if done2 then x :: l.drop (k + 1) else putL s (x :: l.drop (k + 1))) = putL s l → (done2 = false → Op.bytesLess s.toList x.toList = false ∧ (s.toList == x.toList) = false) → out2 ++ [x] ++ (if done2 then l.drop (k + 1) else putL s (l.drop (k + 1))) = putL s l := by
        intro out2 done2 u2 w2 h1 h2
        cases done2
        · obtain ⟨h3, h4⟩ := h2 rfl
          rw [if_neg (by simp), putL_gt h3 h4] at h1
          rw [if_neg (by simp), ← h1]; simp
        · rw [if_pos rfl] at h1 ⊢
          rw [← h1]; simp
      have HFIN := Lib.hid fin
      clear fin
      have HEQ2 := Lib.hid (show out ++ (if done then x :: l.drop (k + 1) else putL s (x :: l.drop (k + 1))) = putL s l by rw [← HD.out]; exact HEQ.out)
      clear HEQ HD
      cases done
      · have hol2 : out.length ≤ k := HOD.out rfl
        cases h1 : Op.bytesLess s.toList x.toList
        · cases h2 : (s.toList == x.toList)
          case' false =>
            have HNX := Lib.hid (HFIN.out out false (.bool false) wr HEQ2.out (fun _ => ⟨h1, h2⟩))
            go_upto_region 10 with fail
          case' true =>
            have HNX := Lib.hid (HFIN.out out true (.bool false) wr (by rw [if_pos rfl, ← putL_same h1 h2]; have := HEQ2.out; rwa [if_neg (by simp)] at this) (fun h => by cases h))
            go_upto_region 10 with fail
          all_goals
            clear h1 h2
            have hz1 := HX.out.size
            go_wp2_with (at_builtin; refine wpList_append_new elemStr rfl _ _ rfl w.heap.size _ _ _ rfl HO.out _ 1 1 rfl ?c0 rfl ?c1 ?c2 ?c3 ?c4 ?_)
            case c0 => rfl
            case c1 => simp [Value.oneCell']
            case c2 => simp only [maxLen]; omega
            case c3 => omega
            try (case c4 => omega)
            intro v2 w2 hown2 hgrow2
            have HO2 := Lib.hid (show OwnS w2 w.heap.size (out ++ [x]) v2 by unfold OwnS; rw [List.length_append, List.flatMap_append]; exact hown2)
            have HX2 := Lib.hid (HX.out.grown hgrow2 (owns_base HO.out))
            clear hown2 hgrow2 hcell
            go_wp2_with fail
            go_roundg (n - (k + 1))
            case measure => have := HM.out; omega
            case rel => exact ⟨k + 1, out ++ [x], _, by omega, rfl, by go_num, rfl, by simp; omega, fun _ => by simp; omega, HO2.out, HNX.out, HX2.out⟩
        · have HNX := Lib.hid (HFIN.out (out ++ [s]) true (.bool false) wr (by rw [if_pos rfl, List.append_assoc]; have := HEQ2.out; rw [if_neg (by simp), putL_lt h1] at this; simpa using this) (fun h => by cases h))
          have hz1 := HX.out.size
          go_wp2_with (at_builtin; refine wpList_append_new elemStr rfl _ _ rfl w.heap.size _ _ _ rfl HO.out _ 1 1 rfl ?c0 rfl ?c1 ?c2 ?c3 ?c4 ?_)
          case c0 => rfl
          case c1 => simp [Value.oneCell']
          case c2 => simp only [maxLen]; omega
          case c3 => omega
          try (case c4 => omega)
          intro v2 w2 hown2 hgrow2
          have HO2 := Lib.hid (show OwnS w2 w.heap.size (out ++ [s]) v2 by unfold OwnS; rw [List.length_append, List.flatMap_append]; exact hown2)
          have HX2 := Lib.hid (HX.out.grown hgrow2 (owns_base HO.out))
          have hcell2 := HX2.out.cell HC.out
          have hbl2 := block_lt hcell2
          simp only at hbl2
          have hz2 := HX2.out.size
          have hown3 := HO2.out
          unfold OwnS at hown3
          have hl2 : (out ++ [s]).length ≤ k + 1 := by simp; omega
          generalize out ++ [s] = out2 at *
          obtain ⟨ua2, uc2, rfl, -, -⟩ := strs_of_owns hown3 [] (by simp)
          clear hown2 hgrow2 hcell hown3 h1
          go_wp2_with (at_builtin; refine wpList_append_new elemStr rfl _ _ rfl w.heap.size _ _ _ rfl HO2.out _ 1 1 rfl ?d0 rfl ?d1 ?d2 ?d3 ?d4 ?_)
          case d0 => rfl
          case d1 => simp [Value.oneCell']
          case d2 => simp only [maxLen]; omega
          case d3 => omega
          try (case d4 => omega)
          intro v4 w4 hown4 hgrow4
          have HO4 := Lib.hid (show OwnS w4 w.heap.size (out2 ++ [x]) v4 by unfold OwnS; rw [List.length_append, List.flatMap_append]; exact hown4)
          have HX4 := Lib.hid (HX2.out.grown hgrow4 (owns_base HO2.out))
          clear hown4 hgrow4 hcell2
          go_wp2_with fail
          go_roundg (n - (k + 1))
          case measure => have := HM.out; omega
          case rel => exact ⟨k + 1, out2 ++ [x], true, by omega, rfl, by go_num, rfl, by simp; omega, fun h => (by cases h), HO4.out, HNX.out, HX4.out⟩
      · have HNX := Lib.hid (HFIN.out out true (.bool false) wr HEQ2.out (fun h => by cases h))
        have hz1 := HX.out.size
        go_wp2_with (at_builtin; refine wpList_append_new elemStr rfl _ _ rfl w.heap.size _ _ _ rfl HO.out _ 1 1 rfl ?c0 rfl ?c1 ?c2 ?c3 ?c4 ?_)
        case c0 => rfl
        case c1 => simp [Value.oneCell']
        case c2 => simp only [maxLen]; omega
        case c3 => omega
        try (case c4 => omega)
        intro v2 w2 hown2 hgrow2
        have HO2 := Lib.hid (show OwnS w2 w.heap.size (out ++ [x]) v2 by unfold OwnS; rw [List.length_append, List.flatMap_append]; exact hown2)
        have HX2 := Lib.hid (HX.out.grown hgrow2 (owns_base HO.out))
        clear hown2 hgrow2 hcell
        go_wp2_with fail
        go_roundg (n - (k + 1))
        case measure => have := HM.out; omega
        case rel => exact ⟨k + 1, out ++ [x], true, by omega, rfl, by go_num, rfl, by simp; omega, fun h => (by cases h), HO2.out, HNX.out, HX2.out⟩
    · have td : decide ((k : Int) < (n : Int)) = false := by simp; omega
      have HDR := Lib.hid (show l.drop k = [] from List.drop_eq_nil_of_le (by have := HN.out; omega))
      cases done
      · have HEND := Lib.hid (show out ++ [s] = putL s l by have := HEQ.out; rw [if_neg (by simp), HDR.out] at this; exact this)
        go_wp2_with (at_builtin; refine wpList_append_new elemStr rfl _ _ rfl w.heap.size _ _ _ rfl HO.out _ 1 1 rfl ?c0 rfl ?c1 ?c2 ?c3 ?c4 ?_)
        case c0 => rfl
        case c1 => simp [Value.oneCell']
        case c2 => simp only [maxLen]; omega
        case c3 => omega
        try (case c4 => omega)
        intro v2 w2 hown2 hgrow2
        have hown3 : w2.ownsRow w.heap.size 9 1 v2 (out ++ [s]).length ((out ++ [s]).flatMap strCells) := by rw [List.length_append, List.flatMap_append]; exact hown2
        have HX2 := Lib.hid (HX.out.grown hgrow2 (owns_base HO.out))
        obtain ⟨ua2, uc2, rfl, -, hst⟩ := strs_of_owns hown3 [] (by simp)
        have HST := Lib.hid hst
        clear hown2 hgrow2 hown3 hst
        go_wp2_with fail
        go_ret
        refine ⟨ua2, uc2, ?_, ?_, HX2.out⟩
        · rw [← HEND.out]; rfl
        · rw [← HEND.out]; exact HST.out
      · have HEND := Lib.hid (show out = putL s l by have := HEQ.out; rw [if_pos rfl, HDR.out, List.append_nil] at this; exact this)
        obtain ⟨ua2, uc2, e2, -, hst⟩ := strs_of_owns HO.out [] (by simp)
        simp only [Value.slice.injEq, true_and] at e2
        obtain ⟨rfl, rfl⟩ := e2
        have HST := Lib.hid hst
        clear hst
        go_wp2_with fail
        go_ret
        refine ⟨ua, uc, ?_, ?_, HX.out⟩
        · rw [← HEND.out]; rfl
        · rw [← HEND.out]; exact HST.out
end Go.Proofs.YtaepiiediblleaaDoor
