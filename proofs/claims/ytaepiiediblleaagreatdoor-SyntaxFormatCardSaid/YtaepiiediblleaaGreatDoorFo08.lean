/-
  Texts of the claim, joined: Ref1, Level1, Level2, Level3.
-/
import Derived.Test.YtaepiiediblleaaGreatDoorFo03
import Derived.Test.YtaepiiediblleaaGreatDoorFo05
import Derived.Deep.AppendLies
import Derived.Deep.RegionLaw
import Derived.RegionTactic
namespace Go.Proofs.YtaepiiediblleaaGreatDoor
open Go.RowKit

theorem rletter_calls (c : Int) (w : World) : Calls Tryz.prog 31 #[.int .u8 c] w (Gives (.bool (letterB c)) w) := by
  go_enter Tryz.func31, Tryz.ntmps31
  go_wp2_with fail
  all_goals (go_ret; exact gives_bool (by simp [letterB]; omega))
theorem rdigit_calls (c : Int) (w : World) : Calls Tryz.prog 57 #[.int .u8 c] w (Gives (.bool (digitB c)) w) := by
  go_enter Tryz.func57, Tryz.ntmps57
  go_wp2_with fail
  all_goals (go_ret; exact gives_bool (by simp [digitB]; omega))
theorem far_calls (n : Int) (w : World) : Calls Tryz.prog 108 #[.int .i64 n] w (Gives (.bool (!numberB n)) w) := by
  go_enter Tryz.func108, Tryz.ntmps108
  go_wp2_with fail
  all_goals (go_ret; exact gives_bool (by rw [Bool.eq_iff_iff]; simp [numberB]; omega))
set_option maxHeartbeats 1000000 in
theorem rreserved_calls (s : ByteArray) (w : World) : Calls Tryz.prog 125 #[.string s] w (Gives (.bool (reservedB s)) w) := by
  go_enter Tryz.func125, Tryz.ntmps125
  go_wp2_with fail
  all_goals (go_ret; exact gives_bool (by simp_all [reservedB, reservedWords]))

theorem spanF_every (p : Int → Bool) (s : ByteArray) : ∀ (m k : Nat), s.size - k = m → k ≤ s.size → (spanF p s (s.size - k) k = s.size ↔ ∀ j (h : j < s.size), k ≤ j → p (s[j].toNat : Int) = true) := by
  intro m
  induction m with
  | zero =>
    intro k hm hk
    rw [spanF_end (by omega)]
    exact ⟨fun _ j h hj => by omega, fun _ => by omega⟩
  | succ m ih =>
    intro k hm hk
    have hlt : k < s.size := by omega
    cases hp : p (s[k].toNat : Int)
    · rw [spanF_stop hlt hp]
      exact ⟨fun h => by omega, fun h => by rw [h k hlt (Nat.le_refl _)] at hp; cases hp⟩
    · rw [spanF_step hlt hp, ih (k + 1) (by omega) (by omega)]
      refine ⟨fun h j hj hkj => ?_, fun h j hj hkj => h j hj (by omega)⟩
      by_cases e : j = k
      · subst e; exact hp
      · exact h j hj (by omega)
theorem wordB_of {s : ByteArray} (h0 : s.size ≠ 0) (h1 : s.size ≤ 16) (h2 : letterB (byteAt s 0) = true) (h3 : byteAt s (s.size - 1) ≠ 45) (h : ∀ j (hj : j < s.size), inWordB (s[j].toNat : Int) = true) : wordB s = true := by
  have := (spanF_every inWordB s _ 0 rfl (by omega)).2 (fun j hj _ => h j hj)
  rw [Nat.sub_zero] at this
  simp [wordB, h0, h1, h2, h3, this]
theorem wordB_no {s : ByteArray} {j : Nat} (hj : j < s.size) (h : inWordB (s[j].toNat : Int) = false) : wordB s = false := by
  cases hb : wordB s
  · rfl
  simp only [wordB, Bool.and_eq_true, beq_iff_eq] at hb
  have := (spanF_every inWordB s _ 0 rfl (by omega)).1 (by rw [Nat.sub_zero]; exact hb.2) j hj (by omega)
  rw [h] at this; cases this

set_option maxRecDepth 100000 in
set_option maxHeartbeats 1000000 in
theorem rword_calls (s : ByteArray) (w : World) (hs : s.size ≤ 1000000000000000) : Calls Tryz.prog 56 #[.string s] w (Gives (.bool (wordB s)) w) := by
  by_cases h0 : s.size = 0
  · have H := Lib.hid (show wordB s = false by simp [wordB, h0])
    have hz : decide ((s.size : Int) < 1) = true := by simp [h0]
    clear h0
    go_enter Tryz.func56, Tryz.ntmps56
    go_wp2_with fail
    go_ret
    exact gives_bool (by rw [H.out])
  have hz : decide ((s.size : Int) < 1) = false := by simp; omega
  by_cases h1 : s.size ≤ 16
  · have hb0 := byteAt_lt (show 0 < s.size by omega)
    have hb1 := byteAt_lt (show s.size - 1 < s.size by omega)
    have hz2 : decide ((16 : Int) < s.size) = false := by simp; omega
    cases h2 : letterB (s[0]'(by omega)).toNat
    · have H := Lib.hid (show wordB s = false by simp [wordB, hb0, h2])
      have H2 := Lib.hid h2
      clear h2 hb0 hb1
      go_enter Tryz.func56, Tryz.ntmps56
      go_wp2_with fail
      refine (rletter_calls _ _).mono ?_
      rintro e w' ⟨rfl, rfl⟩
      rw [H2.out]
      go_wp2_with fail
      go_ret
      exact gives_bool (by rw [H.out])
    · have H2 := Lib.hid h2
      have HB0 := Lib.hid hb0
      have HB1 := Lib.hid hb1
      clear h2 hb0 hb1
      have e1 : ((s.size : Int) - 1).toNat = s.size - 1 := by omega
      cases h3 : ((s[s.size - 1]'(by omega)).toNat : Int) == 45
      · have HY := Lib.hid (show (∀ j (hj : j < s.size), inWordB (s[j].toNat : Int) = true) → wordB s = true from fun h => wordB_of h0 h1 (by rw [HB0.out]; exact H2.out) (by rw [HB1.out]; simpa using h3) h)
        go_enter Tryz.func56, Tryz.ntmps56
        go_wp2_with fail
        refine (rletter_calls _ _).mono ?_
        rintro e w' ⟨rfl, rfl⟩
        rw [H2.out]
        go_wp2_with fail
        go_loop [3] (fun i => ∃ k : Nat, i = .int .i64 k ∧ k ≤ s.size ∧ ∀ j (hj : j < s.size), j < k → inWordB (s[j].toNat : Int) = true) (fun i => s.size - (intOf i).toNat)
        case atStart => exact ⟨0, rfl, by omega, fun j _ h => by omega⟩
        case round =>
          obtain ⟨k, rfl, hk, hall⟩ := hrel
          have HA := Lib.hid hall
          clear hall
          by_cases hlt : k < s.size
          · have HN := Lib.hid (fun h => wordB_no (s := s) hlt h)
            cases h4 : letterB (s[k].toNat : Int)
            · cases h5 : digitB (s[k].toNat : Int)
              · cases h6 : ((s[k].toNat : Int) == 45)
                · have H := Lib.hid (HN.out (by simp [inWordB, h4, h5, h6]))
                  have h6' : ((s[k].toNat : Int) != 45) = true := by simpa using h6
                  have H4 := Lib.hid h4
                  have H5 := Lib.hid h5
                  clear h4 h5
                  go_wp2_with fail
                  refine (rletter_calls _ _).mono ?_
                  rintro e w' ⟨rfl, rfl⟩
                  rw [H4.out]
                  go_wp2_with fail
                  refine (rdigit_calls _ _).mono ?_
                  rintro e w' ⟨rfl, rfl⟩
                  rw [H5.out]
                  go_wp2_with fail
                  go_ret
                  exact gives_bool (by rw [H.out])
                · have H := Lib.hid (show inWordB (s[k].toNat : Int) = true by simp [inWordB, h4, h5, h6])
                  have h6' : ((s[k].toNat : Int) != 45) = false := by simpa using h6
                  have H4 := Lib.hid h4
                  have H5 := Lib.hid h5
                  clear h4 h5
                  go_wp2_with fail
                  refine (rletter_calls _ _).mono ?_
                  rintro e w' ⟨rfl, rfl⟩
                  rw [H4.out]
                  go_wp2_with fail
                  refine (rdigit_calls _ _).mono ?_
                  rintro e w' ⟨rfl, rfl⟩
                  rw [H5.out]
                  go_wp2_with fail
                  go_round
                  case rel => exact ⟨k + 1, by go_num, by omega, fun j hj hjk => by
                    by_cases e : j = k
                    · subst e; exact H.out
                    · exact HA.out j hj (by omega)⟩
                  case measure => simp [intOf]; omega
              · have H := Lib.hid (show inWordB (s[k].toNat : Int) = true by simp [inWordB, h4, h5])
                have H4 := Lib.hid h4
                have H5 := Lib.hid h5
                clear h4 h5
                go_wp2_with fail
                refine (rletter_calls _ _).mono ?_
                rintro e w' ⟨rfl, rfl⟩
                rw [H4.out]
                go_wp2_with fail
                refine (rdigit_calls _ _).mono ?_
                rintro e w' ⟨rfl, rfl⟩
                rw [H5.out]
                go_wp2_with fail
                go_round
                case rel => exact ⟨k + 1, by go_num, by omega, fun j hj hjk => by
                  by_cases e : j = k
                  · subst e; exact H.out
                  · exact HA.out j hj (by omega)⟩
                case measure => simp [intOf]; omega
            · have H := Lib.hid (show inWordB (s[k].toNat : Int) = true by simp [inWordB, h4])
              have H4 := Lib.hid h4
              clear h4
              go_wp2_with fail
              refine (rletter_calls _ _).mono ?_
              rintro e w' ⟨rfl, rfl⟩
              rw [H4.out]
              go_wp2_with fail
              go_round
              case rel => exact ⟨k + 1, by go_num, by omega, fun j hj hjk => by
                by_cases e : j = k
                · subst e; exact H.out
                · exact HA.out j hj (by omega)⟩
              case measure => simp [intOf]; omega
          · go_wp2_with fail
            go_ret
            exact gives_bool (by rw [HY.out (fun j hj => HA.out j hj (by omega))])
      · have H := Lib.hid (show wordB s = false by simp [wordB, HB0.out, HB1.out, H2.out, h1, h0]; intro h; simp at h3; omega)
        go_enter Tryz.func56, Tryz.ntmps56
        go_wp2_with fail
        refine (rletter_calls _ _).mono ?_
        rintro e w' ⟨rfl, rfl⟩
        rw [H2.out]
        go_wp2_with fail
        go_ret
        exact gives_bool (by rw [H.out])
  · have H := Lib.hid (show wordB s = false by simp [wordB]; omega)
    have hz2 : decide ((16 : Int) < s.size) = true := by simp; omega
    go_enter Tryz.func56, Tryz.ntmps56
    go_wp2_with fail
    go_ret
    exact gives_bool (by rw [H.out])
theorem rname_calls (s : ByteArray) (w : World) (hs : s.size ≤ 1000000000000000) : Calls Tryz.prog 105 #[.string s] w (Gives (.bool (nameB s)) w) := by
  go_enter Tryz.func105, Tryz.ntmps105
  go_wp2_with (first
    | (go_at_call 56; refine (rword_calls _ _ hs).mono ?_; rintro e w' ⟨rfl, rfl⟩)
    | (go_at_call 125; refine (rreserved_calls _ _).mono ?_; rintro e w' ⟨rfl, rfl⟩))
  all_goals (go_ret; exact gives_bool (by simp_all [nameB]))

set_option maxRecDepth 100000 in
theorem names_calls (l : List ByteArray) (a : Option Addr) (n c : Nat) (w : World) (hl : IsStrs w l a n c) (hn : n ≤ 1000000000000000) (hsz : ∀ x ∈ l, x.size ≤ 1000000000000000) :
    Calls Tryz.prog 106 #[.slice a n c] w (Gives (.bool (l.all nameB)) w) := by
  have HL := Lib.hid hl
  have HZ := Lib.hid hsz
  have hnl := Lib.hid hl.1
  clear hl hsz
  go_enter Tryz.func106, Tryz.ntmps106
  go_wp2_with fail
  go_loop [3] (fun t => ∃ k : Nat, t = .int .i64 k ∧ k ≤ n ∧ ∀ j (hj : j < l.length), j < k → nameB l[j] = true) (fun t => n - (intOf t).toNat)
  case atStart => exact ⟨0, rfl, by omega, fun j _ h => by omega⟩
  case round =>
    obtain ⟨k, rfl, hk, hlo⟩ := hrel
    have HO := Lib.hid hlo
    clear hlo
    by_cases hlt : k < n
    · have hlt' : k < l.length := by have := hnl.out; omega
      have hsk := HZ.out _ (List.getElem_mem hlt')
      obtain ⟨b, off, rfl, hcell⟩ := HL.out.2.2.2 k hlt'
      cases h3 : nameB l[k]
      · have H := Lib.hid (show l.all nameB = false by
          rw [List.all_eq_false]; exact ⟨l[k], List.getElem_mem hlt', by simp [h3]⟩)
        have H3 := Lib.hid h3
        clear h3
        go_wp2_with fail
        refine (rname_calls _ _ hsk).mono ?_
        rintro e w' ⟨rfl, rfl⟩
        rw [H3.out]
        go_wp2_with fail
        go_ret
        exact gives_bool (by rw [H.out])
      · have H3 := Lib.hid h3
        clear h3
        go_wp2_with fail
        refine (rname_calls _ _ hsk).mono ?_
        rintro e w' ⟨rfl, rfl⟩
        rw [H3.out]
        go_wp2_with fail
        go_round
        case rel => exact ⟨k + 1, by go_num, by omega, fun j hj hjk => by
          by_cases e : j = k
          · subst e; exact H3.out
          · exact HO.out j hj (by omega)⟩
        case measure => simp [intOf]; omega
    · go_wp2_with fail
      go_ret
      exact gives_bool (by
        symm
        rw [List.all_eq_true]
        intro x hx
        obtain ⟨j, hj, rfl⟩ := List.getElem_of_mem hx
        exact HO.out j hj (by have := hnl.out; omega))

theorem nodup_of {l : List ByteArray} {n : Nat} (hn : n = l.length) (h : ∀ i j (hi : i < l.length) (hj : j < l.length), i < n → j < i → l[i] ≠ l[j]) : l.Nodup := by
  rw [List.Nodup, List.pairwise_iff_getElem]
  intro i j hi hj hij e
  exact h j i hj hi (by omega) hij e.symm

/-- A value is handed back; memory is as it was. -/
def GivesD (v : Value) (w : World) (e : Ending) (w' : World) : Prop := e = .returned v ∧ ∃ n, w' = w.drewN n
theorem drewN_drewN (w : World) (a b : Nat) : (w.drewN a).drewN b = w.drewN (a + b) := by simp [World.drewN, Nat.add_assoc]
theorem givesD_bool {a b : Bool} {w w' : World} (h : a = b) (hx : ∃ n, w' = w.drewN n) : GivesD (.bool b) w (.returned (.bool a)) w' := by subst h; exact ⟨rfl, hx⟩
set_option maxRecDepth 100000 in
set_option maxHeartbeats 1000000 in
theorem distinct_calls (l : List ByteArray) (a : Option Addr) (n c : Nat) (w : World) (hl : IsStrs w l a n c) (hn : n ≤ 1000000000000000) :
    Calls Tryz.prog 107 #[.slice a n c] w (GivesD (.bool (decide l.Nodup)) w) := by
  have HL := Lib.hid hl
  have hnl := Lib.hid hl.1
  clear hl
  go_enter Tryz.func107, Tryz.ntmps107
  go_wp2_with fail
  go_loopw [3, 4] (fun t _ wr => ∃ k : Nat, t = .int .i64 k ∧ k ≤ n ∧ (∀ i j (hi : i < l.length) (hj : j < l.length), i < k → j < i → l[i] ≠ l[j]) ∧ ∃ q, wr = w.drewN q) (fun t _ _ => n - (intOf t).toNat)
  case atStart => exact ⟨0, rfl, by omega, fun i j _ _ h => by omega, 0, rfl⟩
  case round =>
    obtain ⟨k, rfl, hk, hlo, q, rfl⟩ := hrel
    have HO := Lib.hid hlo
    clear hlo
    by_cases hlt : k < n
    · have hlt' : k < l.length := by have := hnl.out; omega
      go_wp2_with fail
      go_loopw [4] (fun t wr2 => ∃ m : Nat, t = .int .i64 m ∧ m ≤ k ∧ (∀ j (hj : j < l.length), j < m → l[k] ≠ l[j]) ∧ ∃ q, wr2 = w.drewN q) (fun t _ => k - (intOf t).toNat)
      case atStart => exact ⟨0, rfl, by omega, fun j _ h => by omega, q, rfl⟩
      case round =>
        obtain ⟨m, rfl, hm, hne, q2, rfl⟩ := hrel
        have HE := Lib.hid hne
        clear hne
        by_cases hmk : m < k
        · have hmk' : m < l.length := by omega
          obtain ⟨b, off, rfl, hc1⟩ := HL.out.2.2.2 k hlt'
          obtain ⟨b', off', e, hc2⟩ := HL.out.2.2.2 m hmk'
          simp only [Option.some.injEq, Addr.mk.injEq, and_true] at e
          obtain ⟨rfl, rfl⟩ := e
          have ti0 : (0 : Int) ≤ (k : Int) := by omega
          have ti1 : (k : Int) < (n : Int) := by omega
          have tj0 : (0 : Int) ≤ (m : Int) := by omega
          have tj1 : (m : Int) < (n : Int) := by omega
          cases he : (l[k].toList == l[m].toList)
          · have HQ := Lib.hid he
            go_wp2_with fail
            go_quiet (fail)
            go_wp2_with fail
            go_roundw
            case rel =>
              refine ⟨m + 1, by go_num, by omega, fun j hj hjm => ?_, _, rfl⟩
              by_cases e : j = m
              · subst e; intro h; have := HQ.out; rw [h] at this; simp at this
              · exact HE.out j hj (by omega)
            case measure => simp [intOf]; omega
          · have H := Lib.hid (show decide l.Nodup = false by
              rw [decide_eq_false_iff_not]
              intro hnd
              have h1 := toList_inj (beq_iff_eq.1 he)
              rw [List.Nodup, List.pairwise_iff_getElem] at hnd
              exact hnd m k hmk' hlt' hmk h1.symm)
            go_wp2_with fail
            go_quiet (fail)
            go_wp2_with fail
            go_ret
            exact givesD_bool (by rw [H.out]) ⟨_, drewN_drewN _ _ _⟩
        · go_wp2_with fail
          go_roundw
          case rel =>
            refine ⟨k + 1, by go_num, by omega, fun i j hi hj hik hji => ?_, q2, rfl⟩
            by_cases e : i = k
            · subst e; exact HE.out j hj (by omega)
            · exact HO.out i j hi hj (by omega) hji
          case measure => simp [intOf]; omega
    · go_wp2_with fail
      go_ret
      exact givesD_bool (by
        symm
        rw [decide_eq_true_eq]
        exact nodup_of hnl.out (fun i j hi hj hin hji => HO.out i j hi hj (by omega) hji)) ⟨q, rfl⟩
end Go.Proofs.YtaepiiediblleaaGreatDoor

namespace Go.Proofs.YtaepiiediblleaaGreatDoor
open Go.RowKit

set_option maxRecDepth 100000 in
theorem top_calls (g n cap bp : Nat) (w : World) (c2 : w.cell? ⟨bp, 2, none⟩ = some (.slice (some ⟨g, 0, none⟩) n cap)) (hn : 0 < n) (hn2 : n ≤ 1000000000000000) :
    Calls Tryz.prog 76 #[.pointer (some ⟨bp, 0, none⟩)] w (GivesE (.pointer (some ⟨g, (n - 1) * 3, none⟩)) w) := by
  have t1 : (0 : Int) ≤ (n : Int) - 1 := by omega
  have t2 : (n : Int) - 1 < (n : Int) := by omega
  have t3 : ((n : Int) - 1).toNat = n - 1 := by omega
  have t4 : 1 ≤ n := hn
  go_enter Tryz.func76, Tryz.ntmps76
  go_wp2_with fail
  go_quiet (fail)
  go_wp2_with fail
  go_ret
  refine ⟨?_, Ext.drewN (Ext.refl w) _⟩
  simp

structure Lvl where
  nots : Nat
  ands : List Part
  ors : List Part
structure LvlV where
  nots : Nat
  va : Value
  vo : Value
def LvlV.cells (l : LvlV) : List Value := [.int .i64 l.nots, l.va, l.vo]
def LvlV.rows (l : LvlV) : List Nat := rowOf l.va ++ rowOf l.vo
/-- Parts in a row of their own. -/
def OwnParts (w : World) (base : Nat) (K : List Nat) (l : List Part) (v : Value) : Prop := ∃ vs : List PartV, w.ownsRow base 56 8 v l.length (vs.flatMap PartV.cells) ∧ PartsR (mask w K) l vs
def LvlR (w : World) (base : Nat) (K : List Nat) (l : Lvl) (v : LvlV) : Prop := v.nots = l.nots ∧ OwnParts w base K l.ands v.va ∧ OwnParts w base K l.ors v.vo

def sumPot : List Part → Nat
  | [] => 0
  | p :: r => p.size + 1 + sumPot r
def Lvl.pot (l : Lvl) : Nat := l.nots + sumPot l.ands + sumPot l.ors
def potAll : List Lvl → Nat
  | [] => 0
  | l :: r => l.pot + potAll r

/-- The parser in memory, with its levels. M: the blocks that it writes; K: those that the data of its parts avoid. -/
structure PI (toks : List Tok) (ta : Option Addr) (tn tc : Nat) (w0 w : World) (bp k : Nat) (vl : Value) (lv : List Lvl) (lvs : List LvlV) (M K : List Nat) : Prop where
  pc : PC toks ta tn tc w0 w bp k vl
  own : w.ownsRow w0.heap.size 51 3 vl lvs.length (lvs.flatMap LvlV.cells)
  len : lv.length = lvs.length
  lvl : ∀ i (h1 : i < lv.length) (h2 : i < lvs.length), LvlR w w0.heap.size K lv[i] lvs[i]
  hM : M = bp :: (rowOf vl ++ lvs.flatMap LvlV.rows)
  nd : M.Nodup
  hK : ∀ x ∈ M, x ∈ K
  hKlt : ∀ x ∈ K, x < w.heap.size
  pot : potAll lv ≤ 2 * k
  cnt : lv.length ≤ k + 1
  tidy : ∀ l ∈ lv, Tidy l.ands ∧ Tidy l.ors
  small : tn ≤ 1000000

theorem OwnParts.chg {w w' : World} {base : Nat} {K K' : List Nat} {l : List Part} {v : Value} {N : List Nat} (h : OwnParts w base K l v) (hc : Chg N w w') (hN : ∀ x, v.ownBlock = some x → x ∉ N) (hs : Sub (mask w K) (mask w' K')) : OwnParts w' base K' l v := by
  obtain ⟨vs, h1, h2⟩ := h
  exact ⟨vs, owns_chg h1 hc hN, h2.mono hs⟩
theorem LvlR.chg {w w' : World} {base : Nat} {K K' : List Nat} {l : Lvl} {v : LvlV} {N : List Nat} (h : LvlR w base K l v) (hc : Chg N w w') (hN : ∀ x ∈ v.rows, x ∉ N) (hs : Sub (mask w K) (mask w' K')) : LvlR w' base K' l v :=
  ⟨h.1, h.2.1.chg hc (fun x hx => hN x (List.mem_append_left _ (mem_rowOf.2 hx))) hs, h.2.2.chg hc (fun x hx => hN x (List.mem_append_right _ (mem_rowOf.2 hx))) hs⟩

/-- Everything that the parser's invariant says of memory stays if only blocks outside of M change. -/
theorem PI.chg {toks : List Tok} {ta : Option Addr} {tn tc : Nat} {w0 w : World} {bp k : Nat} {vl : Value} {lv : List Lvl} {lvs : List LvlV} {M K : List Nat} (h : PI toks ta tn tc w0 w bp k vl lv lvs M K) {w' : World} {N K' : List Nat} (hc : Chg N w w')
    (hN : ∀ x ∈ M, x ∉ N) (hN0 : ∀ x ∈ N, w0.heap.size ≤ x) (hs : Sub (mask w K) (mask w' K')) (hK : ∀ x ∈ M, x ∈ K') (hKlt : ∀ x ∈ K', x < w'.heap.size) : PI toks ta tn tc w0 w' bp k vl lv lvs M K' := by
  have hm : ∀ x, x ∈ bp :: (rowOf vl ++ lvs.flatMap LvlV.rows) → x ∉ N := fun x hx => hN x (h.hM ▸ hx)
  refine ⟨h.pc.chg hc (hm bp (by simp)) hN0, owns_chg h.own hc (fun x hx => hm x (by simp [mem_rowOf.2 hx])), h.len, fun i h1 h2 => (h.lvl i h1 h2).chg hc (fun x hx => hm x ?_) hs, h.hM, h.nd, hK, hKlt, h.pot, h.cnt, h.tidy, h.small⟩
  refine List.mem_cons_of_mem _ (List.mem_append_right _ (List.mem_flatMap.2 ⟨lvs[i], List.getElem_mem h2, hx⟩))
theorem PI.ext {toks : List Tok} {ta : Option Addr} {tn tc : Nat} {w0 w : World} {bp k : Nat} {vl : Value} {lv : List Lvl} {lvs : List LvlV} {M K : List Nat} (h : PI toks ta tn tc w0 w bp k vl lv lvs M K) {w' : World} (hx : Ext w w') : PI toks ta tn tc w0 w' bp k vl lv lvs M K :=
  h.chg (hx.chg []) (by simp) (by simp) (mask_ext K hx) h.hK (fun x hx' => Nat.lt_of_lt_of_le (h.hKlt x hx') hx.size)

/-- The last level, in memory. -/
theorem PI.last {toks : List Tok} {ta : Option Addr} {tn tc : Nat} {w0 w : World} {bp k : Nat} {vl : Value} {lv : List Lvl} {lvs : List LvlV} {M K : List Nat} (h : PI toks ta tn tc w0 w bp k vl lv lvs M K) (hl : 0 < lvs.length) :
    ∃ g cap, vl = .slice (some ⟨g, 0, none⟩) lvs.length cap ∧ g ∈ M ∧ g ≠ bp ∧ w0.heap.size ≤ g ∧ g < w.heap.size ∧ w.cell? ⟨g, (lvs.length - 1) * 3, none⟩ = some (.int .i64 (lvs[lvs.length - 1]).nots) ∧ w.cell? ⟨g, (lvs.length - 1) * 3 + 1, none⟩ = some (lvs[lvs.length - 1]).va ∧
      w.cell? ⟨g, (lvs.length - 1) * 3 + 2, none⟩ = some (lvs[lvs.length - 1]).vo ∧ (∀ j, w.frozen? ⟨g, j, none⟩ = false) := by
  have hown := h.own
  rcases hown.2 with ⟨_, h0⟩ | ⟨g, cap, cur, rfl, hb, hg, hle, _, _, _⟩
  · omega
  · obtain ⟨a, c, e1, hr⟩ := IsRows.of_owns (f := LvlV.cells) (fun _ => rfl) hown
    simp only [Value.slice.injEq, true_and] at e1
    obtain ⟨rfl, rfl⟩ := e1
    obtain ⟨b, off, e2, hc⟩ := hr.2.2.2 (lvs.length - 1) (by omega)
    simp only [Option.some.injEq, Addr.mk.injEq, and_true] at e2
    obtain ⟨rfl, rfl⟩ := e2
    have c0 := hc 0 (by simp [LvlV.cells])
    have c1 := hc 1 (by simp [LvlV.cells])
    have c2 := hc 2 (by simp [LvlV.cells])
    simp only [LvlV.cells, List.getElem_cons_zero, List.getElem_cons_succ, Nat.add_zero, Nat.zero_add] at c0 c1 c2
    have hgM : g ∈ M := by rw [h.hM]; simp [rowOf, Value.ownBlock]
    refine ⟨g, cap, rfl, hgM, ?_, hb, blk_lt hg, c0, c1, c2, fun j => blk_free hg j⟩
    intro e
    have := h.nd
    rw [h.hM] at this
    simp [rowOf, Value.ownBlock, e] at this
end Go.Proofs.YtaepiiediblleaaGreatDoor

namespace Go.Proofs.YtaepiiediblleaaGreatDoor
open Go.RowKit

theorem top_calls' (g m cap bp : Nat) (w : World) (c2 : w.cell? ⟨bp, 2, none⟩ = some (.slice (some ⟨g, 0, none⟩) (m + 1) cap)) (hn2 : m ≤ 1000000) :
    Calls Tryz.prog 76 #[.pointer (some ⟨bp, 0, none⟩)] w (GivesE (.pointer (some ⟨g, m * 3, none⟩)) w) := top_calls g (m + 1) cap bp w c2 (by omega) (by omega)

theorem flatMap_snoc (l : List LvlV) (x : LvlV) : (l ++ [x]).flatMap LvlV.cells = l.flatMap LvlV.cells ++ x.cells := by simp
theorem rows_snoc (l : List LvlV) (x : LvlV) : (l ++ [x]).flatMap LvlV.rows = l.flatMap LvlV.rows ++ x.rows := by simp
theorem set_last (l : List LvlV) (x : LvlV) (j : Nat) (u : Value) : ((l ++ [x]).flatMap LvlV.cells).set (l.length * 3 + j) u = l.flatMap LvlV.cells ++ x.cells.set j u := by
  rw [flatMap_snoc]
  have hl := length_flatMap_of LvlV.cells 3 (fun _ => rfl) l
  rw [List.set_append_right _ _ (by omega), hl]
  congr 1
  congr 1
  omega

/-- The last level, in memory. -/
theorem PI.at {toks : List Tok} {ta : Option Addr} {tn tc : Nat} {w0 w : World} {bp k : Nat} {vl : Value} {lv : List Lvl} {l : List LvlV} {x : LvlV} {M K : List Nat} (h : PI toks ta tn tc w0 w bp k vl lv (l ++ [x]) M K) :
    ∃ g cap, vl = .slice (some ⟨g, 0, none⟩) (l.length + 1) cap ∧ g ∈ M ∧ g ≠ bp ∧ w0.heap.size ≤ g ∧ g < w.heap.size ∧ w.cell? ⟨g, l.length * 3, none⟩ = some (.int .i64 x.nots) ∧ w.cell? ⟨g, l.length * 3 + 1, none⟩ = some x.va ∧
      w.cell? ⟨g, l.length * 3 + 2, none⟩ = some x.vo ∧ (∀ j, w.frozen? ⟨g, j, none⟩ = false) ∧ l.length ≤ 1000000 := by
  obtain ⟨g, cap, h1, h2, h3, h4, h5, h6, h7, h8, h9⟩ := h.last (by simp)
  have e : (l ++ [x]).length - 1 = l.length := by simp
  have e2 : (l ++ [x])[(l ++ [x]).length - 1]'(by simp) = x := by simp
  rw [e2] at h6 h7 h8
  rw [e] at h6 h7 h8
  simp only [List.length_append, List.length_singleton] at h1
  refine ⟨g, cap, h1, h2, h3, h4, h5, h6, h7, h8, h9, ?_⟩
  have := h.cnt
  have := h.len
  have := h.pc.hk
  have := h.small
  simp at *
  omega

theorem PI.lastR {toks : List Tok} {ta : Option Addr} {tn tc : Nat} {w0 w : World} {bp k : Nat} {vl : Value} {li : List Lvl} {t : Lvl} {l : List LvlV} {x : LvlV} {M K : List Nat} (h : PI toks ta tn tc w0 w bp k vl (li ++ [t]) (l ++ [x]) M K) (hll : li.length = l.length) : LvlR w w0.heap.size K t x := by
  have := h.lvl li.length (by simp) (by simp; omega)
  simpa [List.getElem_append_right, hll] using this
theorem PI.rowsNot {toks : List Tok} {ta : Option Addr} {tn tc : Nat} {w0 w : World} {bp k : Nat} {vl : Value} {lv : List Lvl} {l : List LvlV} {x : LvlV} {M K : List Nat} (h : PI toks ta tn tc w0 w bp k vl lv (l ++ [x]) M K) : ∀ y ∈ x.rows, y ∉ rowOf vl ∧ y ≠ bp ∧ y ∈ M := by
  intro y hy
  have hnM := h.nd
  rw [h.hM, rows_snoc] at hnM
  rw [List.nodup_cons, List.nodup_append] at hnM
  refine ⟨fun h1 => hnM.2.2.2 y h1 y (List.mem_append_right _ hy) rfl, fun e => hnM.1 (by subst e; exact List.mem_append_right _ (List.mem_append_right _ hy)), ?_⟩
  rw [h.hM, rows_snoc]
  exact List.mem_cons_of_mem _ (List.mem_append_right _ (List.mem_append_right _ hy))
theorem PI.rowsNd {toks : List Tok} {ta : Option Addr} {tn tc : Nat} {w0 w : World} {bp k : Nat} {vl : Value} {lv : List Lvl} {l : List LvlV} {x : LvlV} {M K : List Nat} (h : PI toks ta tn tc w0 w bp k vl lv (l ++ [x]) M K) : x.rows.Nodup := by
  have hnM := h.nd
  rw [h.hM, rows_snoc, List.nodup_cons, List.nodup_append, List.nodup_append] at hnM
  exact hnM.2.2.1.2.1

/-- The last level is replaced. -/
theorem PI.replace {toks : List Tok} {ta : Option Addr} {tn tc : Nat} {w0 w w' : World} {bp k : Nat} {vl : Value} {li : List Lvl} {t t' : Lvl} {l : List LvlV} {x x' : LvlV} {M K K' N : List Nat} {k' : Nat}
    (h : PI toks ta tn tc w0 w bp k vl (li ++ [t]) (l ++ [x]) M K) (hll : li.length = l.length) (hpc : PC toks ta tn tc w0 w' bp k' vl) (hk : k ≤ k') (hc : Chg N w w') (hN : ∀ y ∈ N, y ∈ bp :: (rowOf vl ++ x.rows) ∨ y ∉ M) (hs : Sub (mask w K) (mask w' K'))
    (hown : w'.ownsRow w0.heap.size 51 3 vl (l.length + 1) (l.flatMap LvlV.cells ++ x'.cells)) (hnew : LvlR w' w0.heap.size K' t' x') (hr : ∀ y ∈ x'.rows, y ∈ x.rows ∨ w.heap.size ≤ y) (hnd : x'.rows.Nodup)
    (hK : ∀ y ∈ bp :: (rowOf vl ++ (l ++ [x']).flatMap LvlV.rows), y ∈ K') (hKlt : ∀ y ∈ K', y < w'.heap.size) (hpot : potAll (li ++ [t']) ≤ 2 * k') (htidy : Tidy t'.ands ∧ Tidy t'.ors) :
    PI toks ta tn tc w0 w' bp k' vl (li ++ [t']) (l ++ [x']) (bp :: (rowOf vl ++ (l ++ [x']).flatMap LvlV.rows)) K' := by
  have hnM := h.nd
  rw [h.hM, rows_snoc] at hnM
  have hlt : ∀ y ∈ M, y < w.heap.size := fun y hy => h.hKlt y (h.hK y hy)
  rw [h.hM, rows_snoc] at hlt
  refine ⟨hpc, ?_, by simpa using hll, ?_, rfl, ?_, hK, hKlt, hpot, ?_, ?_, h.small⟩
  · rw [flatMap_snoc]; simpa using hown
  · intro i h1 h2
    by_cases hi : i < li.length
    · have hi' : i < l.length := by omega
      have := h.lvl i (by simp; omega) (by simp; omega)
      simp only [List.getElem_append_left hi, List.getElem_append_left hi'] at this ⊢
      refine this.chg hc (fun y hy hyN => ?_) hs
      have hyl : y ∈ l.flatMap LvlV.rows := List.mem_flatMap.2 ⟨l[i], List.getElem_mem hi', hy⟩
      rcases hN y hyN with hb | hb
      · rw [show bp :: (rowOf vl ++ (l.flatMap LvlV.rows ++ x.rows)) = [bp] ++ (rowOf vl ++ (l.flatMap LvlV.rows ++ x.rows)) from rfl] at hnM
        rw [List.nodup_append] at hnM
        obtain ⟨_, hn1, hn2⟩ := hnM
        rw [List.nodup_append] at hn1
        obtain ⟨_, hn3, hn4⟩ := hn1
        rw [List.nodup_append] at hn3
        rcases List.mem_cons.1 hb with rfl | hb
        · exact hn2 y (by simp) y (List.mem_append_right _ (List.mem_append_left _ hyl)) rfl
        · rcases List.mem_append.1 hb with hb | hb
          · exact hn4 y hb y (List.mem_append_left _ hyl) rfl
          · exact hn3.2.2 y hyl y hb rfl
      · exact hb (by rw [h.hM, rows_snoc]; exact List.mem_cons_of_mem _ (List.mem_append_right _ (List.mem_append_left _ hyl)))
    · have hi1 : i = li.length := by simp at h1; omega
      subst hi1
      simp only [List.getElem_append_right (Nat.le_refl _), List.getElem_append_right (show l.length ≤ li.length by omega)]
      simpa using hnew
  · rw [rows_snoc]
    have key : ∀ (A B C D : List Nat), (A ++ (B ++ (C ++ D))).Nodup → ∀ E : List Nat, E.Nodup → (∀ y ∈ E, y ∈ D ∨ ∀ z ∈ A ++ (B ++ C), y ≠ z) → (A ++ (B ++ (C ++ E))).Nodup := by
      intro A B C D h1 E h2 h3
      have e1 : A ++ (B ++ (C ++ D)) = (A ++ (B ++ C)) ++ D := by simp
      have e2 : A ++ (B ++ (C ++ E)) = (A ++ (B ++ C)) ++ E := by simp
      rw [e1, List.nodup_append] at h1
      rw [e2, List.nodup_append]
      refine ⟨h1.1, h2, fun a ha b hb e => ?_⟩
      rcases h3 b hb with h4 | h4
      · exact h1.2.2 a ha b h4 e
      · exact h4 a ha e.symm
    refine key [bp] (rowOf vl) (l.flatMap LvlV.rows) x.rows hnM x'.rows hnd (fun y hy => ?_)
    rcases hr y hy with h4 | h4
    · exact Or.inl h4
    · refine Or.inr fun z hz e => ?_
      have := hlt z (by
        rcases List.mem_append.1 hz with hz | hz
        · simp at hz; subst hz; simp
        · rcases List.mem_append.1 hz with hz | hz
          · exact List.mem_cons_of_mem _ (List.mem_append_left _ hz)
          · exact List.mem_cons_of_mem _ (List.mem_append_right _ (List.mem_append_left _ hz)))
      omega
  · have := h.cnt
    simp at this ⊢
    omega
  · intro y hy
    rcases List.mem_append.1 hy with hy | hy
    · exact h.tidy y (List.mem_append_left _ hy)
    · simp at hy; subst hy; exact htidy
end Go.Proofs.YtaepiiediblleaaGreatDoor

namespace Go.Proofs.YtaepiiediblleaaGreatDoor
open Go.RowKit

/-- append, as one step of a region that draws its order. -/
theorem step_append1 {t e : TypeId} {z : Value} {size bytes : Nat} (E : ElemT t e z size bytes) {ops : Array Oper} {o : Oper} {a : Act} {K : Act → World → Prop} {Q : Exit → Act → World → Prop} {Z : Prop} {W : World}
    (hgd : o.guard = none) (s x : Operand) (ho : o.op = .call { callee := .builtin .append, args := #[s, x], argTypes := #[t, t] }) (base : Nat) (v : Value) (n : Nat) (xs : List Value) (hs : a.eval s = v)
    (B m c : Nat) (news : List Value) (hx : a.eval x = .slice (some ⟨B, 0, none⟩) m c) (hl : news.length = m * size) (h1 : ∀ u ∈ news, u.oneCell' = true) (hm : 0 < m) (hn : n + m ≤ 100000000) (hb : bytes ≤ 1000) (H : Nat)
    (hown : W.ownsRow base e size v n xs) (hnews : ∀ j (h : j < news.length), W.cell? ⟨B, j, none⟩ = some news[j]) (hbase : base ≤ W.heap.size) (hH : W.heap.size = H)
    (h : ∀ g cap w', w'.ownsRow base e size (.slice (some ⟨g, 0, none⟩) (n + m) cap) (n + m) (xs ++ news) → W.grownBy w' v.ownBlock → (v.ownBlock = some g ∨ g = H) → g < w'.heap.size → K (a.put o.dst (.slice (some ⟨g, 0, none⟩) (n + m) cap)) w') :
    if Region.wanted o (yielded ops a.tmps) = true then Oper.wp Tryz.prog o a W K Q else Z := by
  obtain ⟨i, hi, hz, hsz, hby⟩ := info_parts E.info
  refine step_append_lies W hgd s x t ho base e i z size bytes E.ht hi hz hsz hby E.hzs E.hsz v n xs hs hown ⟨B, 0, none⟩ m c news hx hl ?_ h1 hm (by simp only [maxLen]; omega) ?_ hbase H hH h
  · intro j u hu
    obtain ⟨hj, rfl⟩ := List.getElem?_eq_some_iff.1 hu
    have : (⟨B, 0, none⟩ : Addr).add j = ⟨B, j, none⟩ := by unfold Addr.add; split <;> simp_all
    rw [this]
    exact hnews j hj
  · calc (n + m) * bytes ≤ 100000000 * 1000 := Nat.mul_le_mul hn hb
      _ ≤ 140737488355328 := by omega

def itF : Nat → Part → Part
  | 0, p => p
  | n + 1, p => composedF 6 [itF n p]
theorem itF_size (n : Nat) (p : Part) : (itF n p).size = p.size + n := by
  induction n with
  | zero => rfl
  | succ n ih => rw [itF, composedF]; split <;> simp [sumSize, ih] <;> omega
theorem itF_tidy (n : Nat) (p : Part) (h : p.depth ≤ p.size) : (itF n p).depth ≤ (itF n p).size := by
  induction n with
  | zero => exact h
  | succ n ih => rw [itF, composedF]; split <;> simp [sumSize, maxDepth] <;> omega

theorem potAll_snoc (l : List Lvl) (t : Lvl) : potAll (l ++ [t]) = potAll l + t.pot := by
  induction l with
  | nil => simp [potAll]
  | cons a r ih => simp [potAll, ih]; omega
theorem sumPot_snoc (l : List Part) (p : Part) : sumPot (l ++ [p]) = sumPot l + (p.size + 1) := by
  induction l with
  | nil => simp [sumPot]
  | cons a r ih => simp [sumPot, ih]; omega
theorem sumPot_eq (l : List Part) : sumPot l = sumSize l + l.length := by
  induction l with
  | nil => simp [sumPot, sumSize]
  | cons a r ih => simp [sumPot, sumSize, ih]; omega

/-- The operand with its negations, in the block box. -/
def AddI (w1 : World) (box : Nat) (K : List Nat) (p : Part) (n : Nat) (i : Value) (wr : World) : Prop :=
  ∃ (j : Nat) (v : PartV), j ≤ n ∧ i = .int .i64 j ∧ Chg [box] w1 wr ∧ wr.heap[box]? = some (.cells v.cells.toArray 56 (0, 0)) ∧ PartR (mask wr (box :: K)) (itF j p) v

/-- What add does: the last level has one part more. -/
def AddQ (toks : List Tok) (ta : Option Addr) (tn tc : Nat) (w0 w : World) (bp k : Nat) (vl : Value) (li : List Lvl) (t' : Lvl) (l : List LvlV) (M X : List Nat) (e : Ending) (w' : World) : Prop :=
  e = .returned (.tuple #[]) ∧ ∃ x' M', PI toks ta tn tc w0 w' bp k vl (li ++ [t']) (l ++ [x']) M' (X ++ M') ∧ Chg M w w' ∧ ∀ y ∈ M', y ∈ M ∨ w.heap.size ≤ y

theorem Chg.mono {N N' : List Nat} {a b : World} (h : Chg N a b) (hN : ∀ y ∈ N, y ∈ N') : Chg N' a b := ⟨h.os, h.tape, h.output, h.size, fun k hk hn => h.block k hk (fun h' => hn (hN k h'))⟩
theorem set_tail (l : List LvlV) (C : List Value) (j : Nat) (u : Value) : (l.flatMap LvlV.cells ++ C).set (l.length * 3 + j) u = l.flatMap LvlV.cells ++ C.set j u := by
  have hl := length_flatMap_of LvlV.cells 3 (fun _ => rfl) l
  rw [List.set_append_right _ _ (by omega), hl]
  congr 1
  congr 1
  omega

theorem PartsR.snoc {w : World} {ps : List Part} {vs : List PartV} {p : Part} {v : PartV} (h : PartsR w ps vs) (hp : PartR w p v) : PartsR w (ps ++ [p]) (vs ++ [v]) := by
  refine ⟨by simp [h.1], fun i h1 h2 => ?_⟩
  by_cases hi : i < ps.length
  · rw [List.getElem_append_left hi, List.getElem_append_left (by rw [← h.1]; exact hi)]
    exact h.2 i hi _
  · have e : i = ps.length := by simp at h1; omega
    subst e
    rw [List.getElem_append_right (Nat.le_refl _), List.getElem_append_right (by rw [h.1]; exact Nat.le_refl _)]
    simpa using hp

theorem Chg.grown {N : List Nat} {a w w' : World} {row : Option Nat} (h : Chg N a w) (hg : w.grownBy w' row) (hr : ∀ y, row = some y → y ∈ N ∨ a.heap.size ≤ y) : Chg N a w' :=
  ⟨hg.os.trans h.os, hg.tape.trans h.tape, hg.output.trans h.output, Nat.le_trans h.size hg.size, fun y hy hn =>
    (hg.block y (Nat.lt_of_lt_of_le hy h.size) (fun e => by rcases hr y e.symm with h' | h'; exact hn h'; omega)).trans (h.block y hy hn)⟩

/-- A row of parts of the last level has grown by one part: the new state. -/
theorem add_fin {toks : List Tok} {ta : Option Addr} {tn tc : Nat} {w0 w wr w5 w6 : World} {bp k g cap : Nat} {li : List Lvl} {t : Lvl} {l : List LvlV} {x : LvlV} {M X : List Nat} {box : Nat} {o : Obj} {vas : List PartV} {vj : PartV} {q : Part} {g6 cap6 : Nat}
    (hcw : Chg [box] w wr) (hbox : box = w.heap.size)
    (h4 : PI toks ta tn tc w0 wr bp k (.slice (some ⟨g, 0, none⟩) (l.length + 1) cap) (li ++ [t]) (l ++ [x]) M (box :: (X ++ M))) (hll : li.length = l.length) (hC5 : Chg [g] wr w5)
    (d6 : w5.ownsRow w0.heap.size 51 3 (.slice (some ⟨g, 0, none⟩) (l.length + 1) cap) (l.length + 1) (((l ++ [x]).flatMap LvlV.cells).set (l.length * 3) (.int .i64 0)))
    (d5 : LvlR w5 w0.heap.size (box :: (X ++ M)) t x) (hpva : PartsR (mask w5 (box :: (X ++ M))) t.ands vas)
    (ho6 : w6.ownsRow w0.heap.size 56 8 (.slice (some ⟨g6, 0, none⟩) (t.ands.length + 1) cap6) (t.ands.length + 1) (vas.flatMap PartV.cells ++ vj.cells))
    (hg6 : ((w5.alloc o).drew).grownBy w6 x.va.ownBlock) (hl6 : x.va.ownBlock = some g6 ∨ g6 = w5.heap.size + 1) (hlt6 : g6 < w6.heap.size)
    (hq : PartR (mask wr (box :: (X ++ M))) q vj) (hqt : q.depth ≤ q.size) (hpot : potAll (li ++ [⟨0, t.ands ++ [q], t.ors⟩]) ≤ 2 * k) :
    ∃ x' M', PI toks ta tn tc w0 (w6.setCell ⟨g, l.length * 3 + 1, none⟩ (.slice (some ⟨g6, 0, none⟩) (t.ands.length + 1) cap6)) bp k (.slice (some ⟨g, 0, none⟩) (l.length + 1) cap) (li ++ [⟨0, t.ands ++ [q], t.ors⟩]) (l ++ [x']) M' (X ++ M') ∧
      Chg M w (w6.setCell ⟨g, l.length * 3 + 1, none⟩ (.slice (some ⟨g6, 0, none⟩) (t.ands.length + 1) cap6)) ∧ ∀ y ∈ M', y ∈ M ∨ w.heap.size ≤ y := by
  have hgM : g ∈ M := by rw [h4.hM]; simp [rowOf, Value.ownBlock]
  have hvg : rowOf (.slice (some ⟨g, 0, none⟩) (l.length + 1) cap) = [g] := rfl
  have hrn := h4.rowsNot
  rw [hvg] at hrn
  have hgr : g < wr.heap.size := h4.hKlt g (h4.hK g hgM)
  have hwr : ∀ y ∈ M, y < wr.heap.size := fun y hy => h4.hKlt y (h4.hK y hy)
  have hsz5 := hC5.size
  have hsz6 := hg6.size
  simp at hsz6
  have hva : ∀ y, x.va.ownBlock = some y → y ∈ x.rows := fun y hy => List.mem_append_left _ (mem_rowOf.2 hy)
  have hg6x : g6 ≠ g := by
    rcases hl6 with h | h
    · intro e; subst e; exact (hrn _ (hva _ h)).1 (by simp)
    · have := hsz5; omega
  -- what has changed since wr, and since w5
  have hc57 : Chg (g :: rowOf x.va) w5 (w6.setCell ⟨g, l.length * 3 + 1, none⟩ (.slice (some ⟨g6, 0, none⟩) (t.ands.length + 1) cap6)) :=
    (((Chg.refl (g :: rowOf x.va) w5).alloc o).drew.grown hg6 (fun y hy => Or.inl (by simp [mem_rowOf.2 hy]))).setCell (Or.inl (by simp)) _
  have hc7 : Chg (g :: rowOf x.va) wr (w6.setCell ⟨g, l.length * 3 + 1, none⟩ (.slice (some ⟨g6, 0, none⟩) (t.ands.length + 1) cap6)) := (hC5.mono (by simp)).then hc57
  have hs7 : (w6.setCell ⟨g, l.length * 3 + 1, none⟩ (.slice (some ⟨g6, 0, none⟩) (t.ands.length + 1) cap6)).heap.size = w6.heap.size := by simp
  have hNM : ∀ y ∈ g :: rowOf x.va, y ∈ M := fun y hy => by
    rcases List.mem_cons.1 hy with rfl | hy
    · exact hgM
    · exact (hrn y (hva y (mem_rowOf.1 hy))).2.2
  -- the new set of blocks
  have hx'r : (LvlV.mk 0 (.slice (some ⟨g6, 0, none⟩) (t.ands.length + 1) cap6) x.vo).rows = g6 :: rowOf x.vo := rfl
  have hM' : ∀ y ∈ bp :: ([g] ++ (l ++ [LvlV.mk 0 (.slice (some ⟨g6, 0, none⟩) (t.ands.length + 1) cap6) x.vo]).flatMap LvlV.rows), (y ∈ M ∧ y < w6.heap.size) ∨ (w5.heap.size ≤ y ∧ y < w6.heap.size) := by
    intro y hy
    have inM : y ∈ M → (y ∈ M ∧ y < w6.heap.size) ∨ (w5.heap.size ≤ y ∧ y < w6.heap.size) := fun h => Or.inl ⟨h, by have := hwr y h; omega⟩
    rw [rows_snoc, hx'r] at hy
    rcases List.mem_cons.1 hy with rfl | hy
    · exact inM (by rw [h4.hM]; simp)
    · rcases List.mem_append.1 hy with hy | hy
      · simp at hy; subst hy; exact inM hgM
      · rcases List.mem_append.1 hy with hy | hy
        · exact inM (by rw [h4.hM, rows_snoc]; exact List.mem_cons_of_mem _ (List.mem_append_right _ (List.mem_append_left _ hy)))
        · rcases List.mem_cons.1 hy with rfl | hy
          · rcases hl6 with h | h
            · exact inM (hrn _ (hva _ h)).2.2
            · exact Or.inr ⟨by omega, hlt6⟩
          · exact inM (hrn y (List.mem_append_right _ hy)).2.2
  have hsub5 : Sub (mask w5 (box :: (X ++ M))) (mask (w6.setCell ⟨g, l.length * 3 + 1, none⟩ (.slice (some ⟨g6, 0, none⟩) (t.ands.length + 1) cap6)) (X ++ (bp :: ([g] ++ (l ++ [LvlV.mk 0 (.slice (some ⟨g6, 0, none⟩) (t.ands.length + 1) cap6) x.vo]).flatMap LvlV.rows)))) :=
    mask_sub_mask fun y hy hn => by
      simp only [List.mem_cons, List.mem_append, not_or] at hn
      exact ⟨fun h => by
        rcases List.mem_append.1 h with h | h
        · exact hn.2.1 h
        · rcases hM' y h with ⟨h1, _⟩ | ⟨h1, _⟩; exact hn.2.2 h1; omega, hc57.block y hy (fun h => hn.2.2 (hNM y h))⟩
  have hsub : Sub (mask wr (box :: (X ++ M))) (mask (w6.setCell ⟨g, l.length * 3 + 1, none⟩ (.slice (some ⟨g6, 0, none⟩) (t.ands.length + 1) cap6)) (X ++ (bp :: ([g] ++ (l ++ [LvlV.mk 0 (.slice (some ⟨g6, 0, none⟩) (t.ands.length + 1) cap6) x.vo]).flatMap LvlV.rows)))) :=
    mask_sub_mask fun y hy hn => by
      simp only [List.mem_cons, List.mem_append, not_or] at hn
      exact ⟨fun h => by
        rcases List.mem_append.1 h with h | h
        · exact hn.2.1 h
        · rcases hM' y h with ⟨h1, _⟩ | ⟨h1, _⟩; exact hn.2.2 h1; omega, hc7.block y hy (fun h => hn.2.2 (hNM y h))⟩
  have hnd := h4.rowsNd
  have hvo : ∀ y, x.vo.ownBlock = some y → y ∉ g :: rowOf x.va := by
    intro y hy h
    rcases List.mem_cons.1 h with rfl | h
    · exact (hrn y (List.mem_append_right _ (mem_rowOf.2 hy))).1 (by simp)
    · unfold LvlV.rows at hnd
      rw [List.nodup_append] at hnd
      exact hnd.2.2 y h y (mem_rowOf.2 hy) rfl
  refine ⟨LvlV.mk 0 (.slice (some ⟨g6, 0, none⟩) (t.ands.length + 1) cap6) x.vo, _, h4.replace (N := g :: rowOf x.va) hll ?_ (Nat.le_refl _) hc7 ?_ hsub ?_ ?_ ?_ ?_ (fun y hy => List.mem_append_right _ hy) ?_ hpot ?_, ?_, ?_⟩
  · refine h4.pc.chg hc7 (fun h => ?_) (fun y hy => ?_)
    · rcases List.mem_cons.1 h with e | h
      · have := h4.nd; rw [h4.hM] at this; simp [rowOf, Value.ownBlock, e] at this
      · exact (hrn bp (hva bp (mem_rowOf.1 h))).2.1 rfl
    · rcases List.mem_cons.1 hy with rfl | hy
      · exact (h4.own.lt y rfl).1
      · obtain ⟨vs, h1, _⟩ := (h4.lastR hll).2.1
        exact (h1.lt y (mem_rowOf.1 hy)).1
  · intro y hy
    rcases List.mem_cons.1 hy with rfl | hy
    · exact Or.inl (by simp [rowOf, Value.ownBlock])
    · exact Or.inl (List.mem_cons_of_mem _ (List.mem_append_right _ (hva y (mem_rowOf.1 hy))))
  · have h1 : w6.ownsRow w0.heap.size 51 3 (.slice (some ⟨g, 0, none⟩) (l.length + 1) cap) (l.length + 1) (((l ++ [x]).flatMap LvlV.cells).set (l.length * 3) (.int .i64 0)) :=
      owns_chg d6 (((Chg.refl (rowOf x.va) w5).alloc o).drew.grown hg6 (fun y hy => Or.inl (mem_rowOf.2 hy))) (fun y hy h => by
        simp [Value.ownBlock] at hy; subst hy
        exact (hrn g (hva g (mem_rowOf.1 h))).1 (by simp))
    have h2 := (h1.stored (l.length * 3 + 1) (.slice (some ⟨g6, 0, none⟩) (t.ands.length + 1) cap6)).1
    rw [flatMap_snoc] at h2
    have e0 := set_tail l x.cells 0 (.int .i64 0)
    rw [Nat.add_zero] at e0
    rw [e0, set_tail] at h2
    exact h2
  · refine ⟨rfl, ⟨vas ++ [vj], ?_, (hpva.mono hsub5).snoc (hq.mono hsub)⟩, ?_⟩
    · have := owns_chg ho6 ((Chg.refl [g] w6).setCell (p := ⟨g, l.length * 3 + 1, none⟩) (Or.inl (by simp)) (.slice (some ⟨g6, 0, none⟩) (t.ands.length + 1) cap6)) (fun y hy => by simp [Value.ownBlock] at hy; subst hy; simpa using hg6x)
      simpa using this
    · obtain ⟨vs, h1, h2⟩ := d5.2.2
      exact ⟨vs, owns_chg h1 hc57 hvo, h2.mono hsub5⟩
  · intro y hy
    rw [hx'r] at hy
    rcases List.mem_cons.1 hy with rfl | hy
    · rcases hl6 with h | h
      · exact Or.inl (hva _ h)
      · exact Or.inr (by omega)
    · exact Or.inl (List.mem_append_right _ hy)
  · rw [hx'r, List.nodup_cons]
    unfold LvlV.rows at hnd
    rw [List.nodup_append] at hnd
    refine ⟨fun h => ?_, hnd.2.1⟩
    rcases hl6 with h' | h'
    · exact hvo g6 (mem_rowOf.1 h) (List.mem_cons_of_mem _ (mem_rowOf.2 h'))
    · have := hwr g6 (hrn g6 (List.mem_append_right _ h)).2.2
      omega
  · intro y hy
    rw [hs7]
    rcases List.mem_append.1 hy with hy | hy
    · have := h4.hKlt y (List.mem_cons_of_mem _ (List.mem_append_left _ hy)); omega
    · rcases hM' y hy with ⟨_, h⟩ | ⟨_, h⟩ <;> exact h
  · have := h4.tidy t (by simp)
    refine ⟨fun z hz => ?_, this.2⟩
    rcases List.mem_append.1 hz with hz | hz
    · exact this.1 z hz
    · simp at hz; subst hz; exact hqt
  · have := hcw.trans (N' := g :: rowOf x.va) hc7
    refine ⟨hc7.os.trans hcw.os, hc7.tape.trans hcw.tape, hc7.output.trans hcw.output, Nat.le_trans hcw.size hc7.size, fun y hy hn => ?_⟩
    exact (hc7.block y (Nat.lt_of_lt_of_le hy hcw.size) (fun h => hn (hNM y h))).trans (hcw.block y hy (by simp; omega))
  · intro y hy
    rcases hM' y hy with ⟨h, _⟩ | ⟨h, _⟩
    · exact Or.inl h
    · exact Or.inr (by have := hcw.size; omega)

set_option maxRecDepth 100000 in
set_option maxHeartbeats 4000000 in
theorem add_calls {toks : List Tok} {ta : Option Addr} {tn tc : Nat} {w0 w : World} {bp k : Nat} {vl : Value} {li : List Lvl} {t : Lvl} {l : List LvlV} {x : LvlV} {M X : List Nat} (h : PI toks ta tn tc w0 w bp k vl (li ++ [t]) (l ++ [x]) M (X ++ M)) (hll : li.length = l.length)
    (p : Part) (v : PartV) (hp : PartR (mask w (X ++ M)) p v) (hpt : p.depth ≤ p.size) (hpot : potAll (li ++ [t]) + p.size + 1 ≤ 2 * k) :
    Calls Tryz.prog 40 #[.pointer (some ⟨bp, 0, none⟩), v.val] w (AddQ toks ta tn tc w0 w bp k vl li ⟨0, t.ands ++ [itF t.nots p], t.ors⟩ l M X) := by
  have HI := Lib.hid h
  have hsm := h.small
  have hkt := h.pc.hk
  obtain ⟨g, cap, rfl, hgM, hgb, hg0, hgw, -, -, -, -, hl6⟩ := h.at
  have hbw := h.pc.cells.2.2.2.2
  have hxn : x.nots = t.nots := by
    have := (h.lvl li.length (by simp) (by simp; omega)).1
    simpa [List.getElem_append_right, hll] using this
  have HXN := Lib.hid hxn
  have HP := Lib.hid hp
  have HB := Lib.hid (show ∀ o, Ext w (w.alloc o) from fun o => (Ext.refl w).alloc o)
  have hpb : t.nots ≤ 2 * k := by have := h.pot; rw [potAll_snoc] at this; unfold Lvl.pot at this; omega
  have hps : p.size ≤ 2 * k := by omega
  clear h hp hxn
  unfold PartV.val
  go_enter Tryz.func40, Tryz.ntmps40
  go_wp2_with fail
  have hI1 := Lib.hid (HI.out.ext (HB.out (.cells v.cells.toArray 56)))
  refine (top_calls' g l.length cap bp _ ?_ ?_).mono ?_
  · exact hI1.out.pc.cells.2.2.1
  · exact hl6
  rintro r w1 ⟨rfl, hx1⟩
  have hI2 := Lib.hid (hI1.out.ext hx1)
  have hE1 := Lib.hid (show Ext w w1 from (HB.out _).trans hx1)
  have hbx := Lib.hid (hx1.blk (alloc_new w _))
  have hz1 := blk_lt hbx.out
  clear hx1 hI1
  obtain ⟨g', cap', e1, -, -, -, hgw1, c0, c1, c2, cf, -⟩ := hI2.out.at
  simp only [Value.slice.injEq, Option.some.injEq, Addr.mk.injEq, and_true, true_and] at e1
  obtain ⟨rfl, rfl⟩ := e1
  rw [HXN.out] at c0
  have hS := Lib.hid (show Sub (mask w (X ++ M)) (mask w1 (w.heap.size :: (X ++ M))) from mask_sub_mask fun y hy hn => ⟨by rw [List.mem_cons, not_or]; exact ⟨by omega, hn⟩, hE1.out.block y hy⟩)
  have hI3 := Lib.hid (show PI toks ta tn tc w0 w1 bp k _ (li ++ [t]) (l ++ [x]) M (w.heap.size :: (X ++ M)) from HI.out.chg (hE1.out.chg []) (by simp) (by simp) hS.out (fun y hy => List.mem_cons_of_mem _ (HI.out.hK y hy)) (fun y hy => by
    rcases List.mem_cons.1 hy with rfl | hy
    · exact hz1
    · have := HI.out.hKlt y hy; omega))
  clear hI2
  go_wp2_with fail
  go_loopw [11] (AddI w1 w.heap.size (X ++ M) p t.nots) (fun i _ => t.nots - (intOf i).toNat)
  case atStart => exact ⟨0, v, by omega, rfl, Chg.refl _ _, hbx.out, HP.out.mono hS.out⟩
  case round =>
    obtain ⟨j, vj, hj, rfl, hcj, hbj, hpj⟩ := hrel
    have HCJ := Lib.hid hcj
    have HBJ := Lib.hid hbj
    have HPJ := Lib.hid hpj
    have hzj := blk_lt hbj
    unfold PartV.cells at hbj
    obtain ⟨b0, b1, b2, b3, b4, b5, b6, b7, bf⟩ := blk8 hbj
    clear hcj hbj hpj
    by_cases hlt : j < t.nots
    · go_wp2_with fail
      refine (composed_calls 6 [itF j p] [vj] _ 1 1 (w.heap.size :: (X ++ M)) _ ?_ ?_ ?_ ?_ ?_ ?_).mono ?_
      · refine ⟨rfl, by omega, Or.inr ⟨_, _, rfl⟩, fun i hi => ⟨_, _, rfl, fun y hy => ?_⟩⟩
        obtain rfl : i = 0 := by simp at hi; exact hi
        have := World.cell?_alloc_at (w := wr) (#[.int .i64 vj.x.op, .string vj.x.name, .slice vj.x.aw vj.x.nw vj.x.cw, .int .i64 vj.x.lo, .int .i64 vj.x.hi, .slice vj.x.aa vj.x.na vj.x.ca, .int .i64 vj.size, .int .i64 vj.depth]) 56 wr.heap.size y rfl
        simp only [Nat.zero_mul, Nat.zero_add]
        rw [this]
        simp [PartV.cells]
      · refine ⟨rfl, fun i h1 h2 => ?_⟩
        obtain rfl : i = 0 := by simp at h1; exact h1
        exact HPJ.out.mono (mask_ext _ ((Ext.refl wr).alloc _))
      · intro y hy
        rcases List.mem_cons.1 hy with rfl | hy
        · simp; omega
        · have := HI.out.hKlt y hy; simp; omega
      · intro z hz
        simp at hz; subst hz
        exact itF_tidy _ _ hpt
      · simp only [sumSize, itF_size]; omega
      · omega
      rintro r w2 ⟨v2, rfl, hv2, hx2⟩
      have HV2 := Lib.hid hv2
      have HX2 := Lib.hid (((Ext.refl wr).alloc _).trans hx2)
      have hb2 := HX2.out.blk HBJ.out
      have hz2 := blk_lt hb2
      have HB2 := Lib.hid hb2
      unfold PartV.cells at hb2
      clear b0 b1 b2 b3 b4 b5 b6 b7 bf
      obtain ⟨b0, b1, b2, b3, b4, b5, b6, b7, bf⟩ := blk8 hb2
      clear hv2 hx2 hb2 c0 c1 c2 cf
      unfold PartV.val
      go_wp2_with fail
      go_roundw
      case rel =>
        refine ⟨j + 1, v2, by omega, by go_num, ?_, ?_, ?_⟩
        · refine HCJ.out.then (Chg.then (HX2.out.chg _) ?_)
          repeat (with_reducible (refine Chg.setCell ?_ ?_ _))
          exact Chg.refl _ _
          all_goals (refine Or.inl ?_; simp)
        · rw [heap_setCell_same _ _ _ _ _ _ (heap_setCell_same _ _ _ _ _ _ (heap_setCell_same _ _ _ _ _ _ (heap_setCell_same _ _ _ _ _ _ (heap_setCell_same _ _ _ _ _ _ (heap_setCell_same _ _ _ _ _ _ (heap_setCell_same _ _ _ _ _ _ (heap_setCell_same _ _ _ _ _ _ HB2.out)))))))]
          rfl
        · refine HV2.out.mono (mask_sub_mask fun y hy hn => ⟨hn, ?_⟩)
          simp only [List.mem_cons, not_or] at hn
          repeat (rw [heap_setCell_other _ _ _ _ (by simp only; exact hn.1)])
      case measure => simp [intOf]; omega
    · have hjn : j = t.nots := by omega
      rw [hjn] at HPJ
      have hI4 := Lib.hid (show PI toks ta tn tc w0 wr bp k _ (li ++ [t]) (l ++ [x]) M (w.heap.size :: (X ++ M)) from hI3.out.chg HCJ.out (fun y hy => by have := HI.out.hKlt y (HI.out.hK y hy); simp; omega) (by simp; have := HI.out.pc.hx.size; omega) (mask_sub_mask fun y hy hn => ⟨hn, HCJ.out.block y hy (by rw [List.mem_cons, not_or] at hn; simpa using hn.1)⟩) (fun y hy => List.mem_cons_of_mem _ (HI.out.hK y hy)) (fun y hy => by
        rcases List.mem_cons.1 hy with rfl | hy
        · exact hzj
        · have := HI.out.hKlt y hy; omega))
      clear c0 c1 c2 cf hI3 hbx hjn
      obtain ⟨g', cap', e1, -, -, -, hgw2, c0, c1, c2, cf, -⟩ := hI4.out.at
      simp only [Value.slice.injEq, Option.some.injEq, Addr.mk.injEq, and_true, true_and] at e1
      obtain ⟨rfl, rfl⟩ := e1
      have hgx : ∀ y ∈ x.rows, y ≠ g := fun y hy e => (hI4.out.rowsNot y hy).1 (by subst e; simp [rowOf, Value.ownBlock])
      have hC5 := Lib.hid ((Chg.refl [g] wr).setCell (p := ⟨g, l.length * 3, none⟩) (Or.inl (by simp)) (.int .i64 0))
      have d1 := Lib.hid (show (wr.setCell ⟨g, l.length * 3, none⟩ (.int .i64 0)).cell? ⟨g, l.length * 3 + 1, none⟩ = some x.va by rw [World.cell?_setCell_other _ _ _ _ (by simp)]; exact c1)
      have d2 := Lib.hid (show (wr.setCell ⟨g, l.length * 3, none⟩ (.int .i64 0)).heap[w.heap.size]? = some (.cells vj.cells.toArray 56 (0, 0)) from (heap_setCell_other _ _ _ _ (by simp; omega)).trans HBJ.out)
      have d3 := Lib.hid (show ∀ y, (wr.setCell ⟨g, l.length * 3, none⟩ (.int .i64 0)).frozen? ⟨g, y, none⟩ = false from fun y => by simpa using cf y)
      have d4 := Lib.hid (show g < (wr.setCell ⟨g, l.length * 3, none⟩ (.int .i64 0)).heap.size by simpa using hgw2)
      have d5 := Lib.hid ((hI4.out.lastR hll).chg (K' := w.heap.size :: (X ++ M)) hC5.out (fun y hy => by simpa using hgx y hy) (mask_sub_mask fun y hy hn => ⟨hn, hC5.out.block y hy (by simp; intro e; subst e; exact hn (List.mem_cons_of_mem _ (HI.out.hK _ hgM)))⟩))
      have hown4 : wr.ownsRow w0.heap.size 51 3 (.slice (some ⟨g, 0, none⟩) (l.length + 1) cap) (l.length + 1) ((l ++ [x]).flatMap LvlV.cells) := by
        have := hI4.out.own; rwa [List.length_append, List.length_singleton] at this
      have d6 := Lib.hid (hown4.stored (l.length * 3) (.int .i64 0)).1
      clear hown4
      have hzz : (wr.setCell ⟨g, l.length * 3, none⟩ (.int .i64 0)).heap.size = wr.heap.size := by simp
      go_wp2_with fail
      clear c0 c1 c2 cf b0 b1 b2 b3 b4 b5 b6 b7 bf
      generalize wr.setCell ⟨g, l.length * 3, none⟩ (.int .i64 0) = w5 at *
      have hB5 := d2.out
      unfold PartV.cells at hB5
      obtain ⟨b0, b1, b2, b3, b4, b5, b6, b7, bf⟩ := blk8 hB5
      have c1 := d1.out
      have cf := d3.out
      have hg5 := d4.out
      have hz5 : w.heap.size < w5.heap.size := blk_lt hB5
      have HZ5 := Lib.hid hzz
      clear hB5 hzz
      obtain ⟨vas, hova, hpva⟩ := d5.out.2.1
      have HOVA := Lib.hid hova
      have HPVA := Lib.hid hpva
      have hb5 : w0.heap.size ≤ w5.heap.size := by omega
      have hlen : t.ands.length ≤ 2 * k := by have := HI.out.pot; rw [potAll_snoc] at this; unfold Lvl.pot at this; rw [sumPot_eq] at this; omega
      clear hova hpva
      have HNW : Hid (∀ j (hj : j < vj.cells.length), ((w5.alloc (.cells #[.int .i64 vj.x.op, .string vj.x.name, .slice vj.x.aw vj.x.nw vj.x.cw, .int .i64 vj.x.lo, .int .i64 vj.x.hi, .slice vj.x.aa vj.x.na vj.x.ca, .int .i64 vj.size, .int .i64 vj.depth] 56)).drew).cell? ⟨w5.heap.size, j, none⟩ = some vj.cells[j]) := by
        intro j hj
        show (w5.alloc _).cell? _ = _
        rw [World.cell?_alloc_at _ _ _ _ rfl]
        simp [PartV.cells]
      have HNE := Lib.hid (show some g ≠ x.va.ownBlock from fun e => hgx g (List.mem_append_left _ (mem_rowOf.2 e.symm)) rfl)
      go_region_law ((refine step_append1 info_part rfl _ _ rfl w0.heap.size _ t.ands.length _ rfl _ 1 1 vj.cells rfl rfl (by simp [PartV.cells, Value.oneCell']) (by omega) (by omega) (by omega) (w5.heap.size + 1) (owns_ext HOVA.out ((Ext.refl w5).alloc _).drew) HNW.out (by simp; omega) (by simp) ?_; intro g6 cap6 w6 ho6 hg6 hl6' hlt6; have e1 : w6.cell? ⟨g, l.length * 3 + 1, none⟩ = some x.va := hg6.cell ((((Ext.refl w5).alloc _).drew).cell c1) HNE.out; have e2 : w6.frozen? ⟨g, l.length * 3 + 1, none⟩ = false := by rw [World.frozen?_of_block (hg6.block g (by simp; omega) HNE.out)]; exact (((Ext.refl w5).alloc _).drew.frozen c1).trans (cf _)))
      all_goals
        go_end0
        exact ⟨rfl, add_fin (hE1.out.chg [w.heap.size] |>.then HCJ.out) rfl hI4.out hll hC5.out d6.out d5.out HPVA.out ho6 hg6 hl6' hlt6 HPJ.out (itF_tidy _ _ hpt) (by
          rw [potAll_snoc] at hpot ⊢
          unfold Lvl.pot at hpot ⊢
          rw [sumPot_snoc, itF_size]
          simp only
          omega)⟩
end Go.Proofs.YtaepiiediblleaaGreatDoor
