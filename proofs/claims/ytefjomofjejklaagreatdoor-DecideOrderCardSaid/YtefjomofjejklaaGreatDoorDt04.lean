/-
  Texts of the claim, joined: Ref1, Slim, Ref2, Ref3, Ref4, Names1, Ord1, Spec10.
-/
import Derived.Test.YtefjomofjejklaaGreatDoorDt03
import Derived.Maps.OwnSet
import Derived.Sort.KeysCollected
namespace Go.Proofs.YtefjomofjejklaaGreatDoor
set_option maxRecDepth 100000
set_option maxHeartbeats 32000000
open Go.RowKit
theorem rletter_calls (c : Int) (w : World) : Calls Tryz.prog 175 #[.int .u8 c] w (Gives (.bool (letterB c)) w) := by
 go_enter Tryz.func175, Tryz.ntmps175
 go_wp2_with fail
 all_goals (go_ret; exact gives_bool (by simp [letterB]; omega))
theorem rdigit_calls (c : Int) (w : World) : Calls Tryz.prog 176 #[.int .u8 c] w (Gives (.bool (digitB c)) w) := by
 go_enter Tryz.func176, Tryz.ntmps176
 go_wp2_with fail
 all_goals (go_ret; exact gives_bool (by simp [digitB]; omega))
theorem far_calls (n : Int) (w : World) : Calls Tryz.prog 154 #[.int .i64 n] w (Gives (.bool (!numberB n)) w) := by
 go_enter Tryz.func154, Tryz.ntmps154
 go_wp2_with fail
 all_goals (go_ret; exact gives_bool (by rw [Bool.eq_iff_iff]; simp [numberB]; omega))
theorem rreserved_calls (s : BA) (w : World) : Calls Tryz.prog 151 #[.string s] w (Gives (.bool (reservedB s)) w) := by
 go_enter Tryz.func151, Tryz.ntmps151
 go_wp2_with fail
 all_goals (go_ret; exact gives_bool (by simp_all [reservedB, reservedWords]))
theorem spanF_every (p : Int -> Bool) (s : BA) : ∀ (m k : Nat), s.size - k = m -> k <= s.size -> (spanF p s (s.size - k) k = s.size ↔ ∀ j (h : j < s.size), k <= j -> p (s[j].toNat : Int) = true) := by
 intro m
 induction m with
 | zero =>
  intro k hm hk
  rw [spanF_end (by omega)]
  exact ⟨fun _ j h hj => by omega, fun _ => by omega⟩
 | succ m ih =>
  intro k hm hk
  have hlt : k < s.size := by omega
  cases hp : p (s[k].toNat : Int)
  ·rw [spanF_stop hlt hp]
   exact ⟨fun h => by omega, fun h => by rw [h k hlt (Nat.le_refl _)] at hp; cases hp⟩
  rw [spanF_step hlt hp, ih (k + 1) (by omega) (by omega)]
  refine ⟨fun h j hj hkj => ?_, fun h j hj hkj => h j hj (by omega)⟩
  by_cases e : j = k
  ·subst e; exact hp
  exact h j hj (by omega)
theorem wordB_of {s : BA} (h0 : s.size ≠ 0) (h1 : s.size <= 16) (h2 : letterB (byteAt s 0) = true) (h3 : byteAt s (s.size - 1) ≠ 45) (h : ∀ j (hj : j < s.size), inWordB (s[j].toNat : Int) = true) : wordB s = true := by
 have := (spanF_every inWordB s _ 0 rfl (by omega)).2 (fun j hj _ => h j hj)
 rw [Nat.sub_zero] at this
 simp [wordB, h0, h1, h2, h3, this]
theorem wordB_no {s : BA} {j : Nat} (hj : j < s.size) (h : inWordB (s[j].toNat : Int) = false) : wordB s = false := by
 cases hb : wordB s
 ·rfl
 simp only [wordB, Bool.and_eq_true, beq_iff_eq] at hb
 have := (spanF_every inWordB s _ 0 rfl (by omega)).1 (by rw [Nat.sub_zero]; exact hb.2) j hj (by omega)
 rw [h] at this; cases this
theorem rword_calls (s : BA) (w : World) (hs : s.size <= 1000000000000000) : Calls Tryz.prog 150 #[.string s] w (Gives (.bool (wordB s)) w) := by
 by_cases h0 : s.size = 0
 ·have H := hI (show wordB s = false by simp [wordB, h0])
  have hz : decide ((s.size : Int) < 1) = true := by simp [h0]
  clear h0
  go_enter Tryz.func150, Tryz.ntmps150
  go_wp2_with fail
  go_ret
  exact gives_bool (by rw [H.out])
 have hz : decide ((s.size : Int) < 1) = false := by simp; omega
 by_cases h1 : s.size <= 16
 ·have hb0 := byteAt_lt (show 0 < s.size by omega)
  have hb1 := byteAt_lt (show s.size - 1 < s.size by omega)
  have hz2 : decide ((16 : Int) < s.size) = false := by simp; omega
  cases h2 : letterB (s[0]'(by omega)).toNat
  ·have H := hI (show wordB s = false by simp [wordB, hb0, h2])
   have H2 := hI h2
   clear h2 hb0 hb1
   go_enter Tryz.func150, Tryz.ntmps150
   go_wp2_with fail
   refine (rletter_calls _ _).mono ?_
   rintro e w' ⟨rfl, rfl⟩
   rw [H2.out]
   go_wp2_with fail
   go_ret
   exact gives_bool (by rw [H.out])
  have H2 := hI h2
  have HB0 := hI hb0
  have HB1 := hI hb1
  clear h2 hb0 hb1
  have e1 : ((s.size : Int) - 1).toNat = s.size - 1 := by omega
  cases h3 : ((s[s.size - 1]'(by omega)).toNat : Int) == 45
  ·have HY := hI (show (∀ j (hj : j < s.size), inWordB (s[j].toNat : Int) = true) -> wordB s = true from fun h => wordB_of h0 h1 (by rw [HB0.out]; exact H2.out) (by rw [HB1.out]; simpa using h3) h)
   go_enter Tryz.func150, Tryz.ntmps150
   go_wp2_with fail
   refine (rletter_calls _ _).mono ?_
   rintro e w' ⟨rfl, rfl⟩
   rw [H2.out]
   go_wp2_with fail
   go_loop [3] (fun i => ∃ k : Nat, i = .int .i64 k /\ k <= s.size /\ ∀ j (hj : j < s.size), j < k -> inWordB (s[j].toNat : Int) = true) (fun i => s.size - (intOf i).toNat)
   case atStart => exact ⟨0, rfl, by omega, fun j _ h => by omega⟩
   case round =>
    obtain ⟨k, rfl, hk, hall⟩ := hrel
    have HA := hI hall
    clear hall
    by_cases hlt : k < s.size
    ·have HN := hI (fun h => wordB_no (s := s) hlt h)
     cases h4 : letterB (s[k].toNat : Int)
     ·cases h5 : digitB (s[k].toNat : Int)
      ·cases h6 : ((s[k].toNat : Int) == 45)
       ·have H := hI (HN.out (by simp [inWordB, h4, h5, h6]))
        have h6' : ((s[k].toNat : Int) != 45) = true := by simpa using h6
        have H4 := hI h4
        have H5 := hI h5
        clear h4 h5
        go_wp2_with fail
        refine (rletter_calls _ _).mono ?_
        rintro e w' ⟨rfl, rfl⟩
        rw [H4.out]
        go_wp2_with fail
        refine (rdigit_calls _ _).mono ?_
        rintro e w' ⟨rfl, rfl⟩
        rw [H5.out]
        go_wp2_with fail
        go_ret
        exact gives_bool (by rw [H.out])
       have H := hI (show inWordB (s[k].toNat : Int) = true by simp [inWordB, h4, h5, h6])
       have h6' : ((s[k].toNat : Int) != 45) = false := by simpa using h6
       have H4 := hI h4
       have H5 := hI h5
       clear h4 h5
       go_wp2_with fail
       refine (rletter_calls _ _).mono ?_
       rintro e w' ⟨rfl, rfl⟩
       rw [H4.out]
       go_wp2_with fail
       refine (rdigit_calls _ _).mono ?_
       rintro e w' ⟨rfl, rfl⟩
       rw [H5.out]
       go_wp2_with fail
       go_round
       case rel => exact ⟨k + 1, by go_num, by omega, fun j hj hjk => by
        by_cases e : j = k
        ·subst e; exact H.out
        exact HA.out j hj (by omega)⟩
       case measure => simp [intOf]; omega
      have H := hI (show inWordB (s[k].toNat : Int) = true by simp [inWordB, h4, h5])
      have H4 := hI h4
      have H5 := hI h5
      clear h4 h5
      go_wp2_with fail
      refine (rletter_calls _ _).mono ?_
      rintro e w' ⟨rfl, rfl⟩
      rw [H4.out]
      go_wp2_with fail
      refine (rdigit_calls _ _).mono ?_
      rintro e w' ⟨rfl, rfl⟩
      rw [H5.out]
      go_wp2_with fail
      go_round
      case rel => exact ⟨k + 1, by go_num, by omega, fun j hj hjk => by
       by_cases e : j = k
       ·subst e; exact H.out
       exact HA.out j hj (by omega)⟩
      case measure => simp [intOf]; omega
     have H := hI (show inWordB (s[k].toNat : Int) = true by simp [inWordB, h4])
     have H4 := hI h4
     clear h4
     go_wp2_with fail
     refine (rletter_calls _ _).mono ?_
     rintro e w' ⟨rfl, rfl⟩
     rw [H4.out]
     go_wp2_with fail
     go_round
     case rel => exact ⟨k + 1, by go_num, by omega, fun j hj hjk => by
      by_cases e : j = k
      ·subst e; exact H.out
      exact HA.out j hj (by omega)⟩
     case measure => simp [intOf]; omega
    go_wp2_with fail
    go_ret
    exact gives_bool (by rw [HY.out (fun j hj => HA.out j hj (by omega))])
  have H := hI (show wordB s = false by simp [wordB, HB0.out, HB1.out, H2.out, h1, h0]; intro h; simp at h3; omega)
  go_enter Tryz.func150, Tryz.ntmps150
  go_wp2_with fail
  refine (rletter_calls _ _).mono ?_
  rintro e w' ⟨rfl, rfl⟩
  rw [H2.out]
  go_wp2_with fail
  go_ret
  exact gives_bool (by rw [H.out])
 have H := hI (show wordB s = false by simp [wordB]; omega)
 have hz2 : decide ((16 : Int) < s.size) = true := by simp; omega
 go_enter Tryz.func150, Tryz.ntmps150
 go_wp2_with fail
 go_ret
 exact gives_bool (by rw [H.out])
theorem rname_calls (s : BA) (w : World) (hs : s.size <= 1000000000000000) : Calls Tryz.prog 118 #[.string s] w (Gives (.bool (nameB s)) w) := by
 go_enter Tryz.func118, Tryz.ntmps118
 go_wp2_with (first
  | (go_at_call 150; refine (rword_calls _ _ hs).mono ?_; rintro e w' ⟨rfl, rfl⟩)
  | (go_at_call 151; refine (rreserved_calls _ _).mono ?_; rintro e w' ⟨rfl, rfl⟩))
 all_goals (go_ret; exact gives_bool (by simp_all [nameB]))
theorem names_calls (l : ZB) (a : OA) (n c : Nat) (w : World) (hl : IsStrs w l a n c) (hn : n <= 1000000000000000) (hsz : ∀ x ∈ l, x.size <= 1000000000000000) :
  Calls Tryz.prog 152 #[.slice a n c] w (Gives (.bool (l.all nameB)) w) := by
 have HL := hI hl
 have HZ := hI hsz
 have hnl := hI hl.1
 clear hl hsz
 go_enter Tryz.func152, Tryz.ntmps152
 go_wp2_with fail
 go_loop [3] (fun t => ∃ k : Nat, t = .int .i64 k /\ k <= n /\ ∀ j (hj : j < l.length), j < k -> nameB l[j] = true) (fun t => n - (intOf t).toNat)
 case atStart => exact ⟨0, rfl, by omega, fun j _ h => by omega⟩
 case round =>
  obtain ⟨k, rfl, hk, hlo⟩ := hrel
  have HO := hI hlo
  clear hlo
  by_cases hlt : k < n
  ·have hlt' : k < l.length := by have := hnl.out; omega
   have hsk := HZ.out _ (List.getElem_mem hlt')
   obtain ⟨b, off, rfl, hcell⟩ := HL.out.2.2.2 k hlt'
   cases h3 : nameB l[k]
   ·have H := hI (show l.all nameB = false by
     rw [List.all_eq_false]; exact ⟨l[k], List.getElem_mem hlt', by simp [h3]⟩)
    have H3 := hI h3
    clear h3
    go_wp2_with fail
    refine (rname_calls _ _ hsk).mono ?_
    rintro e w' ⟨rfl, rfl⟩
    rw [H3.out]
    go_wp2_with fail
    go_ret
    exact gives_bool (by rw [H.out])
   have H3 := hI h3
   clear h3
   go_wp2_with fail
   refine (rname_calls _ _ hsk).mono ?_
   rintro e w' ⟨rfl, rfl⟩
   rw [H3.out]
   go_wp2_with fail
   go_round
   case rel => exact ⟨k + 1, by go_num, by omega, fun j hj hjk => by
    by_cases e : j = k
    ·subst e; exact H3.out
    exact HO.out j hj (by omega)⟩
   case measure => simp [intOf]; omega
  go_wp2_with fail
  go_ret
  exact gives_bool (by
   symm
   rw [List.all_eq_true]
   intro x hx
   obtain ⟨j, hj, rfl⟩ := List.getElem_of_mem hx
   exact HO.out j hj (by have := hnl.out; omega))
theorem nodup_of {l : ZB} {n : Nat} (hn : n = l.length) (h : ∀ i j (hi : i < l.length) (hj : j < l.length), i < n -> j < i -> l[i] ≠ l[j]) : l.Nodup := by
 rw [List.Nodup, List.pairwise_iff_getElem]
 intro i j hi hj hij e
 exact h j i hj hi (by omega) hij e.symm
def GivesD (v : Value) (w : World) (e : Ending) (w' : World) : Prop := e = .returned v /\ ∃ n, w' = w.drewN n
theorem drewN_drewN (w : World) (a b : Nat) : (w.drewN a).drewN b = w.drewN (a + b) := by simp [World.drewN, Nat.add_assoc]
theorem givesD_bool {a b : Bool} {w w' : World} (h : a = b) (hx : ∃ n, w' = w.drewN n) : GivesD (.bool b) w (.returned (.bool a)) w' := by subst h; exact ⟨rfl, hx⟩
theorem distinct_calls (l : ZB) (a : OA) (n c : Nat) (w : World) (hl : IsStrs w l a n c) (hn : n <= 1000000000000000) :
  Calls Tryz.prog 153 #[.slice a n c] w (GivesD (.bool (decide l.Nodup)) w) := by
 have HL := hI hl
 have hnl := hI hl.1
 clear hl
 go_enter Tryz.func153, Tryz.ntmps153
 go_wp2_with fail
 go_loopw [3, 4] (fun t _ wr => ∃ k : Nat, t = .int .i64 k /\ k <= n /\ (∀ i j (hi : i < l.length) (hj : j < l.length), i < k -> j < i -> l[i] ≠ l[j]) /\ ∃ q, wr = w.drewN q) (fun t _ _ => n - (intOf t).toNat)
 case atStart => exact ⟨0, rfl, by omega, fun i j _ _ h => by omega, 0, rfl⟩
 case round =>
  obtain ⟨k, rfl, hk, hlo, q, rfl⟩ := hrel
  have HO := hI hlo
  clear hlo
  by_cases hlt : k < n
  ·have hlt' : k < l.length := by have := hnl.out; omega
   go_wp2_with fail
   go_loopw [4] (fun t wr2 => ∃ m : Nat, t = .int .i64 m /\ m <= k /\ (∀ j (hj : j < l.length), j < m -> l[k] ≠ l[j]) /\ ∃ q, wr2 = w.drewN q) (fun t _ => k - (intOf t).toNat)
   case atStart => exact ⟨0, rfl, by omega, fun j _ h => by omega, q, rfl⟩
   case round =>
    obtain ⟨m, rfl, hm, hne, q2, rfl⟩ := hrel
    have HE := hI hne
    clear hne
    by_cases hmk : m < k
    ·have hmk' : m < l.length := by omega
     obtain ⟨b, off, rfl, hc1⟩ := HL.out.2.2.2 k hlt'
     obtain ⟨b', off', e, hc2⟩ := HL.out.2.2.2 m hmk'
     simp only [Option.some.injEq, Addr.mk.injEq, and_true] at e
     obtain ⟨rfl, rfl⟩ := e
     have ti0 : (0 : Int) <= (k : Int) := by omega
     have ti1 : (k : Int) < (n : Int) := by omega
     have tj0 : (0 : Int) <= (m : Int) := by omega
     have tj1 : (m : Int) < (n : Int) := by omega
     cases he : (l[k].toList == l[m].toList)
     ·have HQ := hI he
      go_wp2_with fail
      go_quiet (fail)
      go_wp2_with fail
      go_roundw
      case rel =>
       refine ⟨m + 1, by go_num, by omega, fun j hj hjm => ?_, _, rfl⟩
       by_cases e : j = m
       ·subst e; intro h; have := HQ.out; rw [h] at this; simp at this
       exact HE.out j hj (by omega)
      case measure => simp [intOf]; omega
     have H := hI (show decide l.Nodup = false by
      rw [decide_eq_false_iff_not]
      intro hnd
      have h1 := toList_inj (beq_iff_eq.1 he)
      rw [List.Nodup, List.pairwise_iff_getElem] at hnd
      exact hnd m k hmk' hlt' hmk h1.symm)
     go_wp2_with fail
     go_quiet (fail)
     go_wp2_with fail
     go_ret
     exact givesD_bool (by rw [H.out]) ⟨_, drewN_drewN _ _ _⟩
    go_wp2_with fail
    go_roundw
    case rel =>
     refine ⟨k + 1, by go_num, by omega, fun i j hi hj hik hji => ?_, q2, rfl⟩
     by_cases e : i = k
     ·subst e; exact HE.out j hj (by omega)
     exact HO.out i j hi hj (by omega) hji
    case measure => simp [intOf]; omega
  go_wp2_with fail
  go_ret
  exact givesD_bool (by
   symm
   rw [decide_eq_true_eq]
   exact nodup_of hnl.out (fun i j hi hj hin hji => HO.out i j hi hj (by omega) hji)) ⟨q, rfl⟩
mutual
def Ex.slim : Ex -> Prop
 | .mk _ _ _ _ _ args => args.length <= 1000000000000000 /\ slimAll args
def slimAll : List Ex -> Prop
 | [] => True
 | e :: r => e.slim /\ slimAll r
end
theorem slimAll_iff : (l : List Ex) -> (slimAll l ↔ ∀ x ∈ l, x.slim)
 | [] => by simp [slimAll]
 | e :: r => by rw [slimAll, slimAll_iff r]; simp
theorem slim_parts {e : Ex} (h : e.slim) : e.args.length <= 1000000000000000 /\ ∀ x ∈ e.args, x.slim := by
 cases e; unfold Ex.slim at h; exact ⟨h.1, (slimAll_iff _).1 h.2⟩
mutual
theorem slim_of_size : (e : Ex) -> e.size <= 1000000000000000 -> e.slim
 | .mk op name words lo hi args, h => by
  rw [Ex.size] at h
  have := length_le_sizes args
  unfold Ex.slim
  exact ⟨by omega, slimAll_of_size args (by omega)⟩
theorem slimAll_of_size : (l : List Ex) -> sizes l <= 1000000000000000 -> slimAll l
 | [], _ => by unfold slimAll; trivial
 | e :: r, h => by
  rw [sizes] at h
  unfold slimAll
  exact ⟨slim_of_size e (by omega), slimAll_of_size r (by omega)⟩
end
theorem size_pos (e : Ex) : 1 <= e.size := by rw [e.size_eq]; omega
def refSize (e : Ex) : Nat := min e.size 301
def refSizes : List Ex -> Nat
 | [] => 0
 | e :: r => refSize e + refSizes r
theorem refSizes_le (l : List Ex) : refSizes l <= sizes l /\ l.length <= refSizes l /\ min (1 + refSizes l) 301 = min (1 + sizes l) 301 := by
 induction l with
 | nil => simp [refSizes, sizes]
 | cons e r ih => have := size_pos e; simp only [refSizes, sizes, refSize, List.length_cons]; omega
theorem refSizes_take_succ (l : List Ex) (k : Nat) (hk : k < l.length) : refSizes (l.take (k + 1)) = refSizes (l.take k) + refSize l[k] := by
 induction l generalizing k with
 | nil => simp at hk
 | cons e r ih =>
  cases k with
  | zero => simp [refSizes]
  | succ k => have := ih k (by simpa using hk); simp only [List.take_succ_cons, refSizes, this, List.getElem_cons_succ]; omega
theorem refSize_of {e : Ex} {k : Nat} (hs : k = e.args.length \/ 300 < 1 + refSizes (e.args.take k)) : min (1 + refSizes (e.args.take k)) 301 = refSize e := by
 have h1 := e.size_eq
 have h2 := refSizes_le (e.args.take k)
 have h3 := sizes_take_le e.args k
 have h4 := refSizes_le e.args
 unfold refSize
 rcases hs with hs | hs
 ·rw [hs, List.take_length]; omega
 omega
theorem rsize_calls (m : Nat) : ∀ (e : Ex) (v : Value) (w : World), e.size <= m -> IsEx w e v -> Calls Tryz.prog 156 #[v] w (GivesE (.int .i64 (refSize e)) w) := by
 induction m with
 | zero => intro e v w h; have := size_pos e; omega
 | succ m ih =>
  intro e v w hm he
  obtain ⟨aw, nw, cw, aa, na, ca, rfl, hw, hna, hca, ha, hx⟩ := he.parts
  have HX := hI hx
  have HN := hI hna
  have hS : e.size = 1 + sizes e.args := e.size_eq
  have hb2 : sizes e.args <= m := by omega
  have H : Hid (∀ (e : Ex) (v : Value) (w : World), e.size <= m -> IsEx w e v -> Calls Tryz.prog 156 #[v] w (GivesE (.int .i64 (refSize e)) w)) := ih
  clear ih hx hna hw hca ha he hS hm
  unfold exV
  go_enter Tryz.func156, Tryz.ntmps156
  go_wp2_with fail
  go_loopw [3, 4] (fun s i wr => ∃ k : Nat, k <= na /\ i = .int .i64 k /\ s = .int .i64 (1 + (refSizes (e.args.take k) : Int)) /\ refSizes (e.args.take k) <= 601 /\ wr.heap[w.heap.size]? = some (.cells #[.int .i64 e.op, .string e.name, .slice aw nw cw, .int .i64 e.lo, .int .i64 e.hi, .slice aa na ca] 45 (0, 0)) /\ Ext w wr) (fun _ i _ => na - (intOf i).toNat)
  case atStart => exact ⟨0, by omega, rfl, by simp [refSizes], by simp [refSizes], alloc_new w _, (Ext.refl w).alloc _⟩
  case round =>
   obtain ⟨k, hk, rfl, rfl, hb6, hbx, hb⟩ := hrel
   have HBX := hI hbx
   have HB := hI hb
   have hlt0 := blk_lt hbx
   obtain ⟨b0, b1, b2, b3, b4, b5, bf⟩ := blk6 hbx
   have hkl : k <= refSizes (e.args.take k) := by have := (refSizes_le (e.args.take k)).2.1; have hl := HN.out; rw [List.length_take] at this; omega
   clear hbx hb
   by_cases hlt : k < na
   ·have hlt' : k < e.args.length := by have := HN.out; omega
    by_cases hc : refSizes (e.args.take k) <= 299
    ·have t1 : decide ((k : Int) < (na : Int)) = true := by simp; omega
     have t2 : decide (1 + (refSizes (e.args.take k) : Int) <= 300) = true := by simp; omega
     obtain ⟨b, off, rfl, aw1, nw1, cw1, aa1, na1, ca1, h0, h1, h2, h3, h4, h5, h6⟩ := ExsD.at e.args _ (ExsD.ext HB.out e.args _ HX.out) k hlt'
     have H6 := hI h6
     have hs1 := hI (refSizes_take_succ e.args k hlt')
     have hsz := sizes_take_succ e.args k hlt'
     have hsl := sizes_take_le e.args (k + 1)
     have hk1 : e.args[k].size <= m := by omega
     have hr : refSize e.args[k] <= 301 := by unfold refSize; omega
     clear h6 hsz hsl
     go_wp2_with fail
     refine (H.out e.args[k] _ _ hk1 H6.out).mono ?_
     rintro r w1 ⟨rfl, hb1⟩
     have HE1 := hI hb1
     clear b0 b1 b2 b3 b4 b5 bf hb1
     go_wp2_with fail
     go_roundw
     case rel => exact ⟨k + 1, by omega, by go_num, by rw [hs1.out]; go_num, by rw [hs1.out]; omega, HE1.out.blk HBX.out, HB.out.trans HE1.out⟩
     case measure => simp [intOf]; omega
    have t1 : decide ((k : Int) < (na : Int)) = true := by simp; omega
    have t2 : decide (1 + (refSizes (e.args.take k) : Int) <= 300) = false := by simp; omega
    have H1 := hI (refSize_of (e := e) (k := k) (Or.inr (by omega)))
    go_wp2_with fail
    all_goals (go_ret; exact givesE_int (by rw [<- H1.out]; omega) HB.out)
   have t1 : decide ((k : Int) < (na : Int)) = false := by simp; omega
   have H1 := hI (refSize_of (e := e) (k := k) (Or.inl (by have := HN.out; omega)))
   go_wp2_with fail
   all_goals (go_ret; exact givesE_int (by rw [<- H1.out]; omega) HB.out)
theorem deeper_slim (m : Nat) : ∀ (e : Ex) (v : Value) (w : World) (n : Nat), e.size <= m -> e.slim -> n <= 1000 -> IsEx w e v -> Calls Tryz.prog 155 #[v, .int .i64 n] w (GivesE (.bool (decide (n < e.depth))) w) := by
 induction m with
 | zero => intro e v w n h; have := size_pos e; omega
 | succ m ih =>
  intro e v w n hm hsl hn he
  obtain ⟨hsl1, hsl2⟩ := slim_parts hsl
  obtain ⟨aw, nw, cw, aa, na, ca, rfl, hw, hna, hca, ha, hx⟩ := he.parts
  have HX := hI hx
  have HN := hI hna
  have HD := hI e.depth_eq
  have hS : e.size = 1 + sizes e.args := e.size_eq
  have hb2 : sizes e.args <= m := by omega
  have hna2 : na <= 1000000000000000 := by omega
  have HSL := hI hsl2
  have H : Hid (∀ (e : Ex) (v : Value) (w : World) (n : Nat), e.size <= m -> e.slim -> n <= 1000 -> IsEx w e v -> Calls Tryz.prog 155 #[v, .int .i64 n] w (GivesE (.bool (decide (n < e.depth))) w)) := fun e v w n h1 h0 h2 h3 => ih e v w n h1 h0 h2 h3
  clear hsl hsl1 hsl2 ih hx hna hw hca ha he hS hm
  unfold exV
  by_cases hn0 : n = 0
  ·have t1 : ((n : Int) == 0) = true := by simp [hn0]
   have H1 := hI (show decide (n < e.depth) = true by rw [decide_eq_true_eq, HD.out]; omega)
   generalize decide (n < e.depth) = B at *
   go_enter Tryz.func155, Tryz.ntmps155
   go_wp2_with fail
   go_ret
   exact givesE_bool (by rw [H1.out]) ((Ext.refl w).alloc _)
  have hn1 : 1 <= n := by omega
  have t1 : ((n : Int) == 0) = false := by simp; omega
  obtain ⟨B, hB⟩ : ∃ B, B = decide (n < e.depth) := ⟨_, rfl⟩
  rw [<- hB]
  have HBQ := hI hB
  clear hB
  go_enter Tryz.func155, Tryz.ntmps155
  go_wp2_with fail
  go_loopw [5] (fun i wr => ∃ k : Nat, k <= na /\ i = .int .i64 k /\ (∀ j (hj : j < e.args.length), j < k -> ¬ n - 1 < e.args[j].depth) /\ wr.heap[w.heap.size]? = some (.cells #[.int .i64 e.op, .string e.name, .slice aw nw cw, .int .i64 e.lo, .int .i64 e.hi, .slice aa na ca] 45 (0, 0)) /\ Ext w wr) (fun i _ => na - (intOf i).toNat)
  case atStart => exact ⟨0, by omega, rfl, fun j _ h => by omega, alloc_new w _, (Ext.refl w).alloc _⟩
  case round =>
   obtain ⟨k, hk, rfl, hall, hbx, hb⟩ := hrel
   have HA := hI hall
   have HBX := hI hbx
   have HB := hI hb
   have hlt0 := blk_lt hbx
   obtain ⟨b0, b1, b2, b3, b4, b5, bf⟩ := blk6 hbx
   clear hbx hb hall
   by_cases hlt : k < na
   ·have hlt' : k < e.args.length := by have := HN.out; omega
    obtain ⟨b, off, rfl, aw1, nw1, cw1, aa1, na1, ca1, h0, h1, h2, h3, h4, h5, h6⟩ := ExsD.at e.args _ (ExsD.ext HB.out e.args _ HX.out) k hlt'
    have H6 := hI h6
    have hsz := sizes_take_succ e.args k hlt'
    have hsl := sizes_take_le e.args (k + 1)
    have hk1 : e.args[k].size <= m := by omega
    have HM1 := hI (depths_mem (List.getElem_mem hlt'))
    clear h6 hsz hsl
    have HCA := hI (show (n : Int) - 1 = ((n - 1 : Nat) : Int) by omega)
    go_wp2_with fail
    rw [HCA.out]
    refine (H.out e.args[k] _ _ (n - 1) hk1 (HSL.out _ (List.getElem_mem hlt')) (by omega) H6.out).mono ?_
    rintro r w1 ⟨rfl, hb1⟩
    have HE1 := hI hb1
    clear b0 b1 b2 b3 b4 b5 bf hb1
    by_cases hdp : n - 1 < e.args[k].depth
    ·rw [decide_eq_true hdp]
     have H1 := hI (show B = true by rw [HBQ.out, decide_eq_true_eq, HD.out]; have := HM1.out; omega)
     clear hdp
     go_wp2_with fail
     go_ret
     exact givesE_bool (by rw [H1.out]) (HB.out.trans HE1.out)
    rw [decide_eq_false hdp]
    have HND := hI hdp
    clear hdp
    go_wp2_with fail
    go_roundw
    case rel =>
     refine ⟨k + 1, by omega, by go_num, fun j hj hjk => ?_, HE1.out.blk HBX.out, HB.out.trans HE1.out⟩
     by_cases ej : j = k
     ·subst ej; exact HND.out
     exact HA.out j hj (by omega)
    case measure => simp [intOf]; omega
   have H1 := hI (show B = false by
    rw [HBQ.out, decide_eq_false_iff_not, HD.out]
    have : ∀ l : List Ex, (∀ x ∈ l, ¬ n - 1 < x.depth) -> depths l <= n - 1 := by
     intro l
     induction l with
     | nil => intro _; simp [depths]
     | cons y r ih =>
      intro h
      have h1 := h y (by simp)
      have h2 := ih (fun x hx => h x (List.mem_cons_of_mem _ hx))
      simp only [depths]; omega
    have := this e.args (fun x hx => by
     obtain ⟨j, hj, rfl⟩ := List.getElem_of_mem hx
     exact HA.out j hj (by have := HN.out; omega))
    omega)
   go_wp2_with fail
   go_ret
   exact givesE_bool (by rw [H1.out]) HB.out
def refNode (op : Int) (name : BA) (words : ZB) (lo hi : Int) (na nw : Nat) : Bool :=
 decide (1 <= op /\ op <= 8) && (if op == 3 || op == 4 || op == 5 then nameB name else name.toList.isEmpty) && (if op == 4 then decide (1 <= nw) && decide (nw <= 12) && words.all nameB && decide words.Nodup else decide (nw = 0)) &&
 (if op == 5 then numberB lo && numberB hi && decide (lo <= hi) else (lo == 0) && (hi == 0)) && (if op == 6 then decide (na = 1) else if op == 7 || op == 8 then decide (2 <= na) else decide (na = 0))
def refNodeB (e : Ex) : Bool := refNode e.op e.name e.words e.lo e.hi e.args.length e.words.length
theorem int_beq0 (n : Nat) : ((n : Int) == 0) = decide (n = 0) := by rw [Bool.eq_iff_iff]; simp
theorem int_beq1 (n : Nat) : ((n : Int) == 1) = decide (n = 1) := by rw [Bool.eq_iff_iff]; simp; omega
theorem rnode_calls (e : Ex) (v : Value) (w : World) (he : IsEx w e v) (hs : e.name.size <= 1000000000000000) (hws : ∀ x ∈ e.words, x.size <= 1000000000000000) (hnw : e.words.length <= 1000000000000000) :
  Calls Tryz.prog 177 #[v] w (GivesE (.bool (refNodeB e)) w) := by
 obtain ⟨aw, nw, cw, aa, na, ca, rfl, hw, hna, hca, ha, hx⟩ := he.parts
 clear he hx ha hca
 have HW := hI hw
 have HS := hI hws
 have hnw' : nw <= 1000000000000000 := by have := hw.1; omega
 have HB := hI (show refNodeB e = refNode e.op e.name e.words e.lo e.hi na nw by unfold refNodeB; rw [hna, hw.1])
 generalize refNodeB e = B at *
 clear hw hws hna hnw
 obtain ⟨op, name, words, lo, hi, args⟩ := e
 simp only [Ex.op, Ex.name, Ex.words, Ex.lo, Ex.hi] at *
 unfold exV
 by_cases h1 : 1 <= op
 ·by_cases h8 : op <= 8
  ·have hk : op = 1 \/ op = 2 \/ op = 3 \/ op = 4 \/ op = 5 \/ op = 6 \/ op = 7 \/ op = 8 := by omega
   clear h1 h8
   rcases hk with rfl | rfl | rfl | rfl | rfl | rfl | rfl | rfl
   case inr.inr.inr.inl =>
    obtain ⟨P, hP⟩ : ∃ P, P = words.all nameB := ⟨_, rfl⟩
    obtain ⟨Q, hQ⟩ : ∃ Q, Q = decide words.Nodup := ⟨_, rfl⟩
    have HP := hI hP
    have HQ := hI hQ
    have HB2 := hI (show B = (nameB name && (decide (1 <= nw) && decide (nw <= 12) && P && Q) && ((lo == 0) && (hi == 0)) && decide (na = 0)) by rw [HB.out]; unfold refNode; rw [hP, hQ]; simp)
    clear hP hQ HB
    cases P
    all_goals cases Q
    all_goals
     by_cases hn1 : 1 <= nw
     ·by_cases hn2 : nw <= 12
      ·have t1 : decide ((nw : Int) < 1) = false := by simp; omega
       have t2 : decide ((12 : Int) < nw) = false := by simp; omega
       have HB3 := hI HB2.out
       simp only [hn1, hn2, decide_true, Bool.false_and, Bool.and_false, Bool.and_true] at HB3
       clear HB2
       go_enter Tryz.func177, Tryz.ntmps177
       go_wp2_with (first
        | (go_at_call 118; refine (rname_calls _ _ hs).mono ?_; rintro e w' ⟨rfl, rfl⟩)
        | (go_at_call 152; refine (names_calls words _ _ _ _ (HW.out.ext ((Ext.refl w).alloc _)) hnw' HS.out).mono ?_; rintro e w' ⟨rfl, rfl⟩; rw [<- HP.out])
        | (go_at_call 153; refine (distinct_calls words _ _ _ _ (HW.out.ext ((Ext.refl w).alloc _)) hnw').mono ?_; rintro e w' ⟨rfl, q, rfl⟩; rw [<- HQ.out]))
       all_goals (go_ret; exact givesE_bool (by first | (rw [HB3.out]; done) | (rw [HB3.out]; simp_all [int_beq0])) (by first | exact (Ext.refl w).alloc _ | exact ((Ext.refl w).alloc _).drewN _))
      have t1 : decide ((nw : Int) < 1) = false := by simp; omega
      have t2 : decide ((12 : Int) < nw) = true := by simp; omega
      have HF := hI (show B = false by rw [HB2.out]; simp [hn2])
      clear HB2
      go_enter Tryz.func177, Tryz.ntmps177
      go_wp2_with (go_at_call 118; refine (rname_calls _ _ hs).mono ?_; rintro e w' ⟨rfl, rfl⟩)
      all_goals (go_ret; exact givesE_bool (by rw [HF.out]) ((Ext.refl w).alloc _))
     have t1 : decide ((nw : Int) < 1) = true := by simp; omega
     have HF := hI (show B = false by rw [HB2.out]; simp [hn1])
     clear HB2
     go_enter Tryz.func177, Tryz.ntmps177
     go_wp2_with (go_at_call 118; refine (rname_calls _ _ hs).mono ?_; rintro e w' ⟨rfl, rfl⟩)
     all_goals (go_ret; exact givesE_bool (by rw [HF.out]) ((Ext.refl w).alloc _))
   all_goals
    go_enter Tryz.func177, Tryz.ntmps177
    go_wp2_with (first
     | (go_at_call 118; refine (rname_calls _ _ hs).mono ?_; rintro e w' ⟨rfl, rfl⟩)
     | (go_at_call 154; refine (far_calls _ _).mono ?_; rintro e w' ⟨rfl, rfl⟩))
    all_goals (go_ret; exact givesE_bool (by rw [HB.out]; simp_all [refNode, int_beq0, int_beq1]; try omega) ((Ext.refl w).alloc _))
  have H := hI (show B = false by rw [HB.out]; simp [refNode, h8])
  have t1 : decide (op < 1) = false := by simp; omega
  have t2 : decide (8 < op) = true := by simp; omega
  have e3 : (op == 3) = false := by simp; omega
  have e4 : (op == 4) = false := by simp; omega
  have e5 : (op == 5) = false := by simp; omega
  go_enter Tryz.func177, Tryz.ntmps177
  go_wp2_with fail
  go_ret
  exact givesE_bool (by rw [H.out]) ((Ext.refl w).alloc _)
 have H := hI (show B = false by rw [HB.out]; simp [refNode, h1])
 have t1 : decide (op < 1) = true := by simp; omega
 have e3 : (op == 3) = false := by simp; omega
 have e4 : (op == 4) = false := by simp; omega
 have e5 : (op == 5) = false := by simp; omega
 go_enter Tryz.func177, Tryz.ntmps177
 go_wp2_with fail
 go_ret
 exact givesE_bool (by rw [H.out]) ((Ext.refl w).alloc _)
mutual
def nodesB : Ex -> Bool
 | .mk op name words lo hi args => refNodeB (.mk op name words lo hi args) && nodesAll args
def nodesAll : List Ex -> Bool
 | [] => true
 | e :: r => nodesB e && nodesAll r
end
theorem nodesB_eq (e : Ex) : nodesB e = (refNodeB e && nodesAll e.args) := by cases e; rw [nodesB]; rfl
theorem nodesAll_iff (l : List Ex) : nodesAll l = true ↔ ∀ j (h : j < l.length), nodesB l[j] = true := by
 induction l with
 | nil => simp [nodesAll]
 | cons e r ih =>
  rw [nodesAll, Bool.and_eq_true, ih]
  constructor
  ·rintro ⟨h1, h2⟩ j hj
   cases j with
   | zero => exact h1
   | succ j => exact h2 j (by simpa using hj)
  intro h
  exact ⟨h 0 (by simp), fun j hj => h (j + 1) (by simpa using hj)⟩
mutual
def Ex.few : Ex -> Prop
 | .mk _ _ words _ _ args => words.length <= 1000000000000000 /\ fewAll args
def fewAll : List Ex -> Prop
 | [] => True
 | e :: r => e.few /\ fewAll r
end
theorem fewAll_at : (l : List Ex) -> fewAll l -> (k : Nat) -> (hk : k < l.length) -> l[k].few
 | [], _, k, hk => by simp at hk
 | e :: r, h, 0, _ => by unfold fewAll at h; exact h.1
 | e :: r, h, k + 1, hk => by unfold fewAll at h; simpa using fewAll_at r h.2 k (by simpa using hk)
theorem few_parts {e : Ex} (h : e.few) : e.words.length <= 1000000000000000 /\ fewAll e.args := by
 cases e; unfold Ex.few at h; exact h
theorem nodes_calls (m : Nat) : ∀ (e : Ex) (v : Value) (w : World), e.size <= m -> m <= 1000000000000000 -> e.fits -> e.few -> IsEx w e v -> Calls Tryz.prog 157 #[v] w (GivesE (.bool (nodesB e)) w) := by
 induction m with
 | zero => intro e v w h; have := size_pos e; omega
 | succ m ih =>
  intro e v w hm hMM hf hw2 he
  have HE := hI he
  obtain ⟨aw, nw, cw, aa, na, ca, rfl, hw, hna, hca, ha, hx⟩ := he.parts
  have HX := hI hx
  have HN := hI hna
  have HF := hI (fits_parts hf)
  have HW := hI (few_parts hw2)
  have hS : e.size = 1 + sizes e.args := e.size_eq
  have hb2 : sizes e.args <= m := by omega
  have hla := length_le_sizes e.args
  have H : Hid (∀ (e : Ex) (v : Value) (w : World), e.size <= m -> e.fits -> e.few -> IsEx w e v -> Calls Tryz.prog 157 #[v] w (GivesE (.bool (nodesB e)) w)) := fun e v w h1 h2 h3 h4 => ih e v w h1 (by omega) h2 h3 h4
  have HQ := hI (nodesB_eq e)
  generalize nodesB e = B at *
  clear ih hx hna hw hca ha he hS hm hf hw2
  have HNC := hI (rnode_calls e _ (w.alloc (.cells #[.int .i64 e.op, .string e.name, .slice aw nw cw, .int .i64 e.lo, .int .i64 e.hi, .slice aa na ca] 45)) (HE.out.ext ((Ext.refl w).alloc _)) HF.out.1 HF.out.2.1 HW.out.1)
  unfold exV at *
  cases hnode : refNodeB e
  ·have HND := hI hnode
   have H1 := hI (show B = false by rw [HQ.out, hnode]; rfl)
   clear hnode
   go_enter Tryz.func157, Tryz.ntmps157
   go_wp2_with fail
   refine HNC.out.mono ?_
   rintro r w1 ⟨rfl, hx1⟩
   rw [HND.out]
   have HX1 := hI (((Ext.refl w).alloc _).trans hx1)
   clear hx1
   go_wp2_with fail
   go_ret
   exact givesE_bool (by rw [H1.out]) HX1.out
  have HND := hI hnode
  have HQ2 := hI (show B = nodesAll e.args by rw [HQ.out, hnode]; rfl)
  clear hnode
  go_enter Tryz.func157, Tryz.ntmps157
  go_wp2_with fail
  refine HNC.out.mono ?_
  rintro r w1 ⟨rfl, hx1⟩
  rw [HND.out]
  have HBX1 := hI (hx1.blk (alloc_new w _))
  have HX1 := hI (((Ext.refl w).alloc _).trans hx1)
  clear hx1
  go_wp2_with fail
  go_loopw [3] (fun i wr => ∃ k : Nat, k <= na /\ i = .int .i64 k /\ (∀ j (hj : j < e.args.length), j < k -> nodesB e.args[j] = true) /\ wr.heap[w.heap.size]? = some (.cells #[.int .i64 e.op, .string e.name, .slice aw nw cw, .int .i64 e.lo, .int .i64 e.hi, .slice aa na ca] 45 (0, 0)) /\ Ext w wr) (fun i _ => na - (intOf i).toNat)
  case atStart => exact ⟨0, by omega, rfl, fun j _ h => by omega, HBX1.out, HX1.out⟩
  case round =>
   obtain ⟨k, hk, rfl, hall, hbx, hb⟩ := hrel
   have HA := hI hall
   have HBX := hI hbx
   have HB := hI hb
   have hlt0 := blk_lt hbx
   obtain ⟨b0, b1, b2, b3, b4, b5, bf⟩ := blk6 hbx
   clear hbx hb hall
   by_cases hlt : k < na
   ·have hlt' : k < e.args.length := by have := HN.out; omega
    obtain ⟨b, off, rfl, aw1, nw1, cw1, aa1, na1, ca1, h0, h1, h2, h3, h4, h5, h6⟩ := ExsD.at e.args _ (ExsD.ext HB.out e.args _ HX.out) k hlt'
    have H6 := hI h6
    have hsz := sizes_take_succ e.args k hlt'
    have hsl := sizes_take_le e.args (k + 1)
    have hk1 : e.args[k].size <= m := by omega
    clear h6 hsz hsl
    go_wp2_with fail
    refine (H.out e.args[k] _ _ hk1 (fitsAll_at _ HF.out.2.2 k hlt') (fewAll_at _ HW.out.2 k hlt') H6.out).mono ?_
    rintro r w2 ⟨rfl, hb1⟩
    have HE1 := hI hb1
    clear b0 b1 b2 b3 b4 b5 bf hb1
    cases hdp : nodesB e.args[k]
    ·have H1 := hI (show B = false by
      rw [HQ2.out]
      cases hz : nodesAll e.args
      ·rfl
      have := (nodesAll_iff _).1 hz k hlt'; rw [hdp] at this; cases this)
     clear hdp
     go_wp2_with fail
     go_ret
     exact givesE_bool (by rw [H1.out]) (HB.out.trans HE1.out)
    have HND2 := hI hdp
    clear hdp
    go_wp2_with fail
    go_roundw
    case rel =>
     refine ⟨k + 1, by omega, by go_num, fun j hj hjk => ?_, HE1.out.blk HBX.out, HB.out.trans HE1.out⟩
     by_cases ej : j = k
     ·subst ej; exact HND2.out
     exact HA.out j hj (by omega)
    case measure => simp [intOf]; omega
   have H1 := hI (show B = true by rw [HQ2.out]; exact (nodesAll_iff _).2 (fun j hj => HA.out j hj (by have := HN.out; omega)))
   go_wp2_with fail
   go_ret
   exact givesE_bool (by rw [H1.out]) HB.out
def refExprB (e : Ex) : Bool := !decide (16 < e.depth) && decide (refSize e <= 300) && nodesB e
theorem rexpr_slim (e : Ex) (v : Value) (w : World) (he : IsEx w e v) (hsz : e.slim) (hf : e.fits) (hw : e.few) : Calls Tryz.prog 120 #[v] w (GivesE (.bool (refExprB e)) w) := by
 have HE := hI he
 have HF := hI hf
 have HW := hI hw
 have HQ := hI (show refExprB e = (!decide (16 < e.depth) && decide (refSize e <= 300) && nodesB e) from rfl)
 generalize refExprB e = B at *
 obtain ⟨aw, nw, cw, aa, na, ca, rfl, -⟩ := he.parts
 have HSZ := hI hsz
 clear he hf hw hsz
 have HA := hI (fun W (h : Ext (w.alloc (.cells #[.int .i64 e.op, .string e.name, .slice aw nw cw, .int .i64 e.lo, .int .i64 e.hi, .slice aa na ca] 45)) W) => ((Ext.refl w).alloc _).trans h)
 have HNB := hI (alloc_new w (.cells #[.int .i64 e.op, .string e.name, .slice aw nw cw, .int .i64 e.lo, .int .i64 e.hi, .slice aa na ca] 45))
 unfold exV at *
 go_enter Tryz.func120, Tryz.ntmps120
 go_wp2_with fail
 refine (deeper_slim e.size e _ _ 16 (Nat.le_refl _) HSZ.out (by omega) (HE.out.ext ((Ext.refl w).alloc _))).mono ?_
 rintro r w1 ⟨rfl, hx1⟩
 have HX1 := hI (HA.out _ hx1)
 have hb1 := hx1.blk HNB.out
 have HB1 := hI hb1
 have hz1 := blk_lt hb1
 obtain ⟨b0, b1, b2, b3, b4, b5, bf⟩ := blk6 hb1
 clear hx1 hb1 HA
 by_cases hd : 16 < e.depth
 ·rw [decide_eq_true hd]
  have H1 := hI (show B = false by rw [HQ.out]; simp [hd])
  clear hd
  go_wp2_with fail
  go_ret
  exact givesE_bool (by rw [H1.out]) HX1.out
 rw [decide_eq_false hd]
 have HD := hI hd
 clear hd
 go_wp2_with fail
 refine (rsize_calls e.size e _ _ (Nat.le_refl _) (HE.out.ext HX1.out)).mono ?_
 rintro r w2 ⟨rfl, hx2⟩
 have HX2 := hI (HX1.out.trans hx2)
 have hb2 := hx2.blk HB1.out
 have hz2 := blk_lt hb2
 clear b0 b1 b2 b3 b4 b5 bf hx2
 obtain ⟨b0, b1, b2, b3, b4, b5, bf⟩ := blk6 hb2
 clear hb2
 by_cases hs : refSize e <= 300
 ·have t1 : decide ((refSize e : Int) <= 300) = true := by simp; omega
  have HS := hI hs
  have HZ := hI (show e.size <= 1000000000000000 by unfold refSize at hs; omega)
  clear hs
  go_wp2_with fail
  refine (nodes_calls e.size e _ _ (Nat.le_refl _) HZ.out HF.out HW.out (HE.out.ext HX2.out)).mono ?_
  rintro r w3 ⟨rfl, hx3⟩
  have HX3 := hI (HX2.out.trans hx3)
  clear b0 b1 b2 b3 b4 b5 bf hx3
  go_wp2_with fail
  go_ret
  exact givesE_bool (by rw [HQ.out]; simp [HD.out, HS.out]) HX3.out
 have t1 : decide ((refSize e : Int) <= 300) = false := by simp; omega
 have H1 := hI (show B = false by rw [HQ.out]; simp [hs])
 clear hs
 go_wp2_with fail
 go_ret
 exact givesE_bool (by rw [H1.out]) HX2.out
open Go.RowKit Go.Maps
mutual
def namesE : Ex -> ZB
 | .mk op name _ _ _ args => (if op = 3 then [name] else []) ++ namesL args
def namesL : List Ex -> ZB
 | [] => []
 | e :: r => namesE e ++ namesL r
end
theorem namesE_eq (e : Ex) : namesE e = (if e.op = 3 then [e.name] else []) ++ namesL e.args := by cases e; rw [namesE]; rfl
theorem namesL_snoc (l : List Ex) (e : Ex) : namesL (l ++ [e]) = namesL l ++ namesE e := by
 induction l with
 | nil => simp [namesL]
 | cons a r ih => simp [namesL, ih]
theorem namesL_take (l : List Ex) (k : Nat) (h : k < l.length) : namesL (l.take (k + 1)) = namesL (l.take k) ++ namesE l[k] := by
 rw [List.take_succ_eq_append_getElem h, namesL_snoc]
def SetIs (D : DataW Unit) (l : ZB) : Prop := ∃ es, D = .map es /\ (∀ p ∈ es, ∃ s, p.1 = .string s) /\ (strKeys D).Nodup /\ ∀ s, s ∈ strKeys D ↔ ∃ x ∈ l, x.data.toList = s
theorem setIs_nil : SetIs (.map []) [] := ⟨[], rfl, by simp, by simp [strKeys], by simp [strKeys]⟩
theorem insert_perm {H : Type} (x : Lit × DataW H) : (l : List (Lit × DataW H)) -> (DataW.insert x l).Perm (x :: l)
 | [] => List.Perm.refl _
 | y :: r => by
  rw [DataW.insert]
  split
  ·exact List.Perm.refl _
  exact ((insert_perm x r).cons y).trans (List.Perm.swap x y r)
theorem SetIs.put {D : DataW Unit} {l : ZB} (h : SetIs D l) (x : BA) (d : DataW Unit) : SetIs (D.put (.string x.data.toList) d) (l ++ [x]) := by
 obtain ⟨es, rfl, hs, hn, hm⟩ := h
 have hp := insert_perm ((.string x.data.toList, d) : Lit × DataW Unit) (es.filter fun p => !p.1.sameKey (.string x.data.toList))
 have hk : (strKeys (DataW.put (.map es) (.string x.data.toList) d)).Perm (x.data.toList :: strKeys (H := Unit) (.map (es.filter fun p => !p.1.sameKey (.string x.data.toList)))) := by
  simp only [DataW.put, strKeys]
  exact hp.map _
 have hf : ∀ s, s ∈ strKeys (H := Unit) (.map (es.filter fun p => !p.1.sameKey (.string x.data.toList))) ↔ s ∈ strKeys (H := Unit) (.map es) /\ s ≠ x.data.toList := by
  intro s
  simp only [strKeys, List.mem_map, List.mem_filter]
  constructor
  ·rintro ⟨p, ⟨h1, h2⟩, rfl⟩
   obtain ⟨t, ht⟩ := hs p h1
   refine ⟨⟨p, h1, rfl⟩, fun e => ?_⟩
   rw [ht] at h2 e
   simp only [strOf] at e
   subst e
   simp [Lit.sameKey] at h2
  rintro ⟨⟨p, h1, rfl⟩, h2⟩
  obtain ⟨t, ht⟩ := hs p h1
  refine ⟨p, ⟨h1, ?_⟩, rfl⟩
  rw [ht] at h2 ⊢
  simp only [strOf] at h2
  simpa [Lit.sameKey] using h2
 refine ⟨_, rfl, fun p hp' => ?_, ?_, fun s => ?_⟩
 ·have := hp.mem_iff.1 hp'
  rcases List.mem_cons.1 this with rfl | h1
  ·exact ⟨_, rfl⟩
  exact hs p (List.mem_filter.1 h1).1
 ·rw [hk.nodup_iff, List.nodup_cons]
  refine ⟨fun h => ((hf _).1 h).2 rfl, ?_⟩
  have : (strKeys (H := Unit) (.map (es.filter fun p => !p.1.sameKey (.string x.data.toList)))).Sublist (strKeys (H := Unit) (.map es)) := by
   simp only [strKeys]
   exact (List.filter_sublist).map _
  exact hn.sublist this
 rw [hk.mem_iff, List.mem_cons, hf, hm]
 constructor
 ·rintro (rfl | ⟨⟨y, h1, h2⟩, _⟩)
  ·exact ⟨x, by simp, rfl⟩
  exact ⟨y, by simp [h1], h2⟩
 rintro ⟨y, h1, rfl⟩
 rcases List.mem_append.1 h1 with h1 | h1
 ·by_cases e : y.data.toList = x.data.toList
  ·exact Or.inl e
  exact Or.inr ⟨⟨y, h1, rfl⟩, e⟩
 rw [List.mem_singleton.1 h1]; exact Or.inl rfl
def putL (s : BA) : ZB -> ZB
 | [] => [s]
 | x :: r => if s.toList < x.toList then s :: x :: r else if s.toList = x.toList then x :: r else x :: putL s r
def refNames (l : ZB) : ZB := l.foldl (fun l s => putL s l) []
def Up (l : ZB) : Prop := l.Pairwise (fun a b => a.toList < b.toList)
theorem lt_or {a b : List UInt8} (h1 : ¬ a < b) (h2 : a ≠ b) : b < a := by
 by_cases h : b < a
 ·exact h
 exact absurd (List.le_antisymm (List.not_lt.1 h) (List.not_lt.1 h1)) h2
theorem putL_mem (s y : BA) : (l : ZB) -> (y ∈ putL s l ↔ y = s \/ y ∈ l)
 | [] => by simp [putL]
 | x :: r => by
  rw [putL]
  split
  ·simp
  split
  ·rename_i h1 h2
   have := toList_inj h2
   subst this
   simp
  simp only [List.mem_cons, putL_mem s y r]
  constructor
  ·rintro (h | h | h)
   ·exact Or.inr (Or.inl h)
   ·exact Or.inl h
   exact Or.inr (Or.inr h)
  rintro (h | h | h)
  ·exact Or.inr (Or.inl h)
  ·exact Or.inl h
  exact Or.inr (Or.inr h)
theorem putL_up (s : BA) : (l : ZB) -> Up l -> Up (putL s l)
 | [], _ => by simp [putL, Up]
 | x :: r, h => by
  obtain ⟨h1, h2⟩ := List.pairwise_cons.1 h
  rw [putL]
  split
  ·rename_i hlt
   refine List.pairwise_cons.2 ⟨fun y hy => ?_, h⟩
   rcases List.mem_cons.1 hy with rfl | hy
   ·exact hlt
   exact List.lt_trans hlt (h1 y hy)
  split
  ·exact h
  rename_i n1 n2
  refine List.pairwise_cons.2 ⟨fun y hy => ?_, putL_up s r h2⟩
  rcases (putL_mem s y r).1 hy with rfl | hy
  ·exact lt_or n1 n2
  exact h1 y hy
theorem fold_up (m : ZB) : ∀ l, Up l -> Up (m.foldl (fun l s => putL s l) l) := by
 induction m with
 | nil => intro l h; exact h
 | cons a r ih => intro l h; exact ih _ (putL_up a l h)
theorem fold_mem (m : ZB) : ∀ l y, y ∈ m.foldl (fun l s => putL s l) l ↔ y ∈ m \/ y ∈ l := by
 induction m with
 | nil => intro l y; simp
 | cons a r ih =>
  intro l y
  rw [List.foldl_cons, ih, putL_mem, List.mem_cons]
  constructor
  ·rintro (h | h | h)
   ·exact Or.inl (Or.inr h)
   ·exact Or.inl (Or.inl h)
   exact Or.inr h
  rintro ((h | h) | h)
  ·exact Or.inr (Or.inl h)
  ·exact Or.inl h
  exact Or.inr (Or.inr h)
theorem refNames_up (l : ZB) : Up (refNames l) := fold_up l [] (by simp [Up])
theorem refNames_mem (l : ZB) (y : BA) : y ∈ refNames l ↔ y ∈ l := by rw [refNames, fold_mem]; simp
theorem putL_len (s : BA) : (l : ZB) -> (putL s l).length <= l.length + 1
 | [] => by simp [putL]
 | x :: r => by
  have := putL_len s r
  rw [putL]
  split
  ·simp
  split <;> simp <;> omega
theorem fold_len (m : ZB) : ∀ l : ZB, (m.foldl (fun l s => putL s l) l).length <= m.length + l.length := by
 induction m with
 | nil => intro l; simp
 | cons a r ih => intro l; have := ih (putL a l); have := putL_len a l; simp only [List.foldl_cons, List.length_cons]; omega
theorem names_same {D : DataW Unit} {l : ZB} {ss : List (List UInt8)} (h : SetIs D l) (hp : ss.Perm (strKeys D)) : (ss.mergeSort (fun x y => decide (x <= y))) = (refNames l).map (·.data.toList) := by
 obtain ⟨es, rfl, hs, hn, hm⟩ := h
 have tr : ∀ a b c : List UInt8, decide (a <= b) = true -> decide (b <= c) = true -> decide (a <= c) = true := fun a b c h1 h2 => by simp only [decide_eq_true_eq] at *; exact List.le_trans h1 h2
 have tto : ∀ a b : List UInt8, (decide (a <= b) || decide (b <= a)) = true := fun a b => by simp only [Bool.or_eq_true, decide_eq_true_eq]; exact List.le_total a b
 have hu := refNames_up l
 have eL : ∀ x : BA, x.toList = x.data.toList := fun x => ByteArray.toList_eq x
 have hup : ((refNames l).map (·.data.toList)).Pairwise (fun a b => a < b) := by
  refine List.pairwise_map.2 (hu.imp fun {a b} h => ?_)
  rwa [eL, eL] at h
 have hnd : ((refNames l).map (·.data.toList)).Nodup := hup.imp fun {a b} h e => by subst e; exact List.lt_irrefl _ h
 have hperm : ((refNames l).map (·.data.toList)).Perm (strKeys (H := Unit) (.map es)) := by
  refine (List.perm_ext_iff_of_nodup hnd hn).2 fun s => ?_
  rw [hm, List.mem_map]
  constructor
  ·rintro ⟨x, hx, rfl⟩; exact ⟨x, (refNames_mem l x).1 hx, rfl⟩
  rintro ⟨x, hx, rfl⟩; exact ⟨x, (refNames_mem l x).2 hx, rfl⟩
 refine List.Perm.eq_of_pairwise (le := fun a b => decide (a <= b) = true) (fun a b _ _ h1 h2 => ?_) (List.pairwise_mergeSort tr tto ss) (hup.imp fun {a b} h => ?_) (((List.mergeSort_perm ss _).trans hp).trans hperm.symm)
 ·simp only [decide_eq_true_eq] at h1 h2; exact List.le_antisymm h1 h2
 simp only [decide_eq_true_eq]; exact List.le_of_lt h
structure Dfn where
 is : Bool
 name : BA
 uses : ZB
def firstAt (l : List Dfn) (s : BA) : Option Nat := l.findIdx? fun d => d.is && decide (d.name = s)
def isDef (l : List Dfn) (i : Nat) : Bool := match l[i]? with | some d => d.is | none => false
def usesAt (l : List Dfn) (i : Nat) : ZB := match l[i]? with | some d => d.uses | none => []
def nameAt (l : List Dfn) (i : Nat) : BA := match l[i]? with | some d => d.name | none => ⟨#[]⟩
def missL (l : List Dfn) (o : ZN) (i : Nat) : ZB := (usesAt l i).filter fun s => match firstAt l s with | some d => decide (d ∉ o) | none => false
def usersOf (l : List Dfn) (s : BA) : ZN := (List.range l.length).filter fun i => isDef l i && (usesAt l i).any fun t => decide (t = s)
def countOf (l : List Dfn) : Nat := ((List.range l.length).filter (isDef l)).length
def After (l : List Dfn) (o : ZN) : Prop := ∀ p i, o[p]? = some i -> ∀ s ∈ usesAt l i, ∀ d, firstAt l s = some d -> d ∈ o.take p
structure Topo (l : List Dfn) (o : ZN) : Prop where
 nodup : o.Nodup
 all : ∀ i, i ∈ o ↔ isDef l i = true
 after : After l o
structure OInv (l : List Dfn) (o R : ZN) : Prop where
 nodup : (o ++ R).Nodup
 ready : ∀ i, i ∈ o ++ R ↔ (isDef l i = true /\ missL l o i = [])
 after : After l o
theorem mem_miss {l : List Dfn} {o : ZN} {i : Nat} {s : BA} : s ∈ missL l o i ↔ s ∈ usesAt l i /\ ∃ d, firstAt l s = some d /\ d ∉ o := by
 unfold missL
 rw [List.mem_filter]
 refine and_congr_right fun _ => ?_
 cases h : firstAt l s <;> simp
theorem miss_nil {l : List Dfn} {o : ZN} {i : Nat} : missL l o i = [] ↔ ∀ s ∈ usesAt l i, ∀ d, firstAt l s = some d -> d ∈ o := by
 rw [List.eq_nil_iff_forall_not_mem]
 constructor
 ·intro h s hs d hd
  by_cases hm : d ∈ o
  ·exact hm
  exact absurd (mem_miss.2 ⟨hs, d, hd, hm⟩) (h s)
 intro h s hs
 obtain ⟨h1, d, h2, h3⟩ := mem_miss.1 hs
 exact h3 (h s h1 d h2)
theorem isDef_lt {l : List Dfn} {i : Nat} (h : isDef l i = true) : i < l.length := by
 unfold isDef at h
 rcases Nat.lt_or_ge i l.length with h' | h'
 ·exact h'
 rw [List.getElem?_eq_none h'] at h; cases h
theorem first_def {l : List Dfn} {s : BA} {d : Nat} (h : firstAt l s = some d) : isDef l d = true /\ nameAt l d = s := by
 unfold firstAt at h
 rw [List.findIdx?_eq_some_iff_getElem] at h
 obtain ⟨hd, h1, _⟩ := h
 simp only [Bool.and_eq_true, decide_eq_true_eq] at h1
 unfold isDef nameAt
 rw [List.getElem?_eq_getElem hd]
 exact h1
theorem OInv.start (l : List Dfn) : OInv l [] ((List.range l.length).filter fun i => isDef l i && (missL l [] i).isEmpty) where
 nodup := List.nodup_range.filter _
 ready i := by
  simp only [List.nil_append, List.mem_filter, List.mem_range, Bool.and_eq_true, List.isEmpty_iff]
  exact ⟨fun h => h.2, fun h => ⟨isDef_lt h.1, h⟩⟩
 after p i h := by simp at h
theorem After.snoc {l : List Dfn} {o : ZN} {i : Nat} (h : After l o) (hm : missL l o i = []) : After l (o ++ [i]) := by
 intro p j hj s hs d hd
 rcases Nat.lt_trichotomy p o.length with hp | hp | hp
 ·rw [List.getElem?_append_left hp] at hj
  rw [List.take_append_of_le_length (by omega)]
  exact h p j hj s hs d hd
 ·subst hp
  simp at hj
  subst hj
  rw [List.take_left']
  ·exact miss_nil.1 hm s hs d hd
  rfl
 rw [List.getElem?_eq_none (by simp; omega)] at hj
 cases hj
theorem OInv.other {l : List Dfn} {o R R' : ZN} {i : Nat} (h : OInv l o R) (hR : R.Perm (i :: R')) (hn : ∀ s, firstAt l s ≠ some i) : OInv l (o ++ [i]) R' where
 nodup := by
  have h1 := (List.Perm.append_left o hR).nodup_iff.1 h.nodup
  simpa using h1
 ready j := by
  have hm : missL l (o ++ [i]) j = [] ↔ missL l o j = [] := by
   rw [miss_nil, miss_nil]
   constructor
   ·intro h1 s hs d hd
    have := h1 s hs d hd
    simp only [List.mem_append, List.mem_singleton] at this
    rcases this with h2 | rfl
    ·exact h2
    exact absurd hd (hn s)
   intro h1 s hs d hd
   simp [h1 s hs d hd]
  rw [hm, <- h.ready j]
  have := (List.Perm.append_left o hR).mem_iff (a := j)
  rw [this]
  simp
 after := by
  have hi : i ∈ o ++ R := by
   rw [(List.Perm.append_left o hR).mem_iff]; simp
  exact h.after.snoc ((h.ready i).1 hi).2
def freed (l : List Dfn) (o : ZN) (i : Nat) : ZN := (usersOf l (nameAt l i)).filter fun u => (missL l (o ++ [i]) u).isEmpty
theorem OInv.first {l : List Dfn} {o R R' : ZN} {i : Nat} (h : OInv l o R) (hR : R.Perm (i :: R')) (hf : firstAt l (nameAt l i) = some i) : OInv l (o ++ [i]) (R' ++ freed l o i) := by
 have hi : i ∈ o ++ R := by
  rw [(List.Perm.append_left o hR).mem_iff]; simp
 have hnd := (List.Perm.append_left o hR).nodup_iff.1 h.nodup
 have hio : i ∉ o := fun hio => by
  have := List.nodup_append.1 hnd
  exact this.2.2 i hio i (by simp) rfl
 have hfm : ∀ u, u ∈ freed l o i ↔ (isDef l u = true /\ nameAt l i ∈ usesAt l u /\ missL l (o ++ [i]) u = []) := by
  intro u
  unfold freed usersOf
  simp only [List.mem_filter, List.mem_range, Bool.and_eq_true, List.any_eq_true, decide_eq_true_eq, List.isEmpty_iff, exists_eq_right]
  exact ⟨fun ⟨⟨_, h1, h2⟩, h3⟩ => ⟨h1, h2, h3⟩, fun ⟨h1, h2, h3⟩ => ⟨⟨isDef_lt h1, h1, h2⟩, h3⟩⟩
 have hnot : ∀ u ∈ freed l o i, u ∉ o ++ R := by
  intro u hu hm
  have h1 := (hfm u).1 hu
  have h2 := miss_nil.1 ((h.ready u).1 hm).2 _ h1.2.1 _ hf
  exact hio h2
 refine ⟨?_, ?_, h.after.snoc ((h.ready i).1 hi).2⟩
 ·have h1 : (o ++ [i] ++ R').Nodup := by simpa using hnd
  rw [<- List.append_assoc]
  refine List.nodup_append.2 ⟨h1, ?_, ?_⟩
  ·unfold freed usersOf
   exact (List.nodup_range.filter _).filter _
  rintro a ha b hb rfl
  refine hnot a hb ?_
  rw [(List.Perm.append_left o hR).mem_iff]
  simpa using ha
 intro j
 have hmem : j ∈ o ++ R ↔ j ∈ o ++ [i] ++ R' := by
  rw [(List.Perm.append_left o hR).mem_iff]; simp
 rw [<- List.append_assoc, List.mem_append, <- hmem, hfm, h.ready j]
 constructor
 ·rintro (⟨h1, h2⟩ | ⟨h1, _, h3⟩)
  ·exact ⟨h1, miss_nil.2 fun s hs d hd => by simp [miss_nil.1 h2 s hs d hd]⟩
  exact ⟨h1, h3⟩
 rintro ⟨h1, h2⟩
 by_cases hu : nameAt l i ∈ usesAt l j
 ·exact Or.inr ⟨h1, hu, h2⟩
 refine Or.inl ⟨h1, miss_nil.2 fun s hs d hd => ?_⟩
 have h3 := miss_nil.1 h2 s hs d hd
 simp only [List.mem_append, List.mem_singleton] at h3
 rcases h3 with h3 | rfl
 ·exact h3
 exact absurd hs ((first_def hd).2 ▸ hu)
theorem nodup_le : (a b : ZN) -> a.Nodup -> (∀ x ∈ a, x ∈ b) -> a.length <= b.length
 | [], b, _, _ => by simp
 | x :: a, b, h, hs => by
  rw [List.nodup_cons] at h
  have hx : x ∈ b := hs x (by simp)
  have h1 := nodup_le a (b.erase x) h.2 fun y hy => by
   have hne : y ≠ x := fun e => h.1 (e ▸ hy)
   exact (List.mem_erase_of_ne hne).2 (hs y (by simp [hy]))
  rw [List.length_erase_of_mem hx] at h1
  have := List.length_pos_of_mem hx
  simp only [List.length_cons]
  omega
theorem nodup_full {a b : ZN} (h : a.Nodup) (hs : ∀ x ∈ a, x ∈ b) (hl : b.length <= a.length) : ∀ x ∈ b, x ∈ a := by
 intro x hx
 by_cases hm : x ∈ a
 ·exact hm
 have h1 := nodup_le (x :: a) b (List.nodup_cons.2 ⟨hm, h⟩) (by simpa using ⟨hx, hs⟩)
 simp only [List.length_cons] at h1
 omega
theorem mem_defs {l : List Dfn} {i : Nat} : i ∈ (List.range l.length).filter (isDef l) ↔ isDef l i = true := by
 simp only [List.mem_filter, List.mem_range]
 exact ⟨fun h => h.2, fun h => ⟨isDef_lt h, h⟩⟩
theorem OInv.le {l : List Dfn} {o R : ZN} (h : OInv l o R) : (o ++ R).length <= countOf l :=
 nodup_le _ _ h.nodup fun i hi => mem_defs.2 ((h.ready i).1 hi).1
theorem OInv.done {l : List Dfn} {o : ZN} (h : OInv l o []) (hc : countOf l <= o.length) : Topo l o where
 nodup := by simpa using h.nodup
 all i := by
  have h1 : o.Nodup := by simpa using h.nodup
  have h2 : ∀ x ∈ o, x ∈ (List.range l.length).filter (isDef l) := fun x hx => mem_defs.2 ((h.ready x).1 (by simpa using hx)).1
  have h3 := nodup_full h1 h2 hc
  exact ⟨fun hi => mem_defs.1 (h2 i hi), fun hi => h3 i (mem_defs.2 hi)⟩
 after := h.after
theorem OInv.none {l : List Dfn} {o : ZN} (h : OInv l o []) (hc : o.length < countOf l) : ¬ ∃ q, Topo l q := by
 rintro ⟨q, hq⟩
 have key : ∀ (p i : Nat), q[p]? = some i -> i ∈ o := by
  intro p
  induction p using Nat.strongRecOn with
  | ind p ih =>
   intro i hi
   have h1 : isDef l i = true := (hq.all i).1 (List.mem_of_getElem? hi)
   have h2 : missL l o i = [] := miss_nil.2 fun s hs d hd => by
    obtain ⟨k, hk⟩ := List.mem_iff_getElem?.1 (hq.after p i hi s hs d hd)
    have hkp : k < p := by
     rcases Nat.lt_or_ge k p with h' | h'
     ·exact h'
     rw [List.getElem?_eq_none (by simp; omega)] at hk; cases hk
    rw [List.getElem?_take, if_pos hkp] at hk
    exact ih k hkp d hk
   have := (h.ready i).2 ⟨h1, h2⟩
   simpa using this
 have h3 := nodup_le _ o (List.nodup_range.filter (isDef l)) fun i hi => by
  have := (hq.all i).2 (mem_defs.1 hi)
  obtain ⟨p, hp⟩ := List.mem_iff_getElem?.1 this
  exact key p i hp
 unfold countOf at hc
 exact absurd h3 (by omega)
def firstI (f : Nat -> Int) : Nat -> Nat × Int
 | 0 => (0, 0)
 | n + 1 => if (firstI f n).2 ≠ 0 then firstI f n else if f n ≠ 0 then (n, f n) else (0, 0)
theorem firstI_zero {f : Nat -> Int} : (n : Nat) -> (∀ j, j < n -> f j = 0) -> firstI f n = (0, 0)
 | 0, _ => rfl
 | n + 1, h => by rw [firstI, firstI_zero n fun j hj => h j (by omega), h n (by omega)]; simp
theorem firstI_hit {f : Nat -> Int} {k : Nat} (hk : f k ≠ 0) (h0 : ∀ j, j < k -> f j = 0) : (n : Nat) -> k < n -> firstI f n = (k, f k)
 | 0, h => by omega
 | n + 1, h => by
  by_cases e : k = n
  ·subst e
   rw [firstI, firstI_zero k h0]; simp [hk]
  rw [firstI, firstI_hit hk h0 n (by omega)]; simp [hk]
def attrAt (s : List Attr) (x : BA) : Option Nat := s.findIdx? fun a => decide (a.name = x)
def farB (n : Int) : Bool := !numberB n
def attrErr (a : Attr) : Int :=
 if a.kind = 1 then (if a.lo ≠ 0 \/ a.hi ≠ 0 then 20 else if a.words.length = 0 then 19 else if 12 < a.words.length then 4 else if a.words.all nameB = false then 6 else if decide a.words.Nodup = false then 8 else 0)
 else if a.kind = 2 then (if 0 < a.words.length then 20 else if a.hi < a.lo \/ farB a.lo = true \/ farB a.hi = true then 1 else 0)
 else if a.kind = 3 then (if 0 < a.words.length \/ a.lo ≠ 0 \/ a.hi ≠ 0 then 20 else 0) else 11
def attr0 : Attr := ⟨⟨#[]⟩, 0, [], 0, 0⟩
def attrIErr (s : List Attr) (i : Nat) : Int :=
 if nameB (s.getD i attr0).name = false then 6 else if (s.take i).any (fun b => decide (b.name = (s.getD i attr0).name)) = true then 8 else attrErr (s.getD i attr0)
def schemaErr (s : List Attr) : Int := if s.length = 0 then 19 else if 6 < s.length then 4 else (firstI (attrIErr s) s.length).2
def defAt (l : List Cla) (x : BA) : Option Nat := l.findIdx? fun c => (c.kind == 1) && decide (c.name = x)
def nodeErr (s : List Attr) (l : List Cla) (op : Int) (name : BA) (words : ZB) (lo hi : Int) : Int :=
 if op = 3 then (match attrAt s name with | none => if (defAt l name).isSome then 0 else 7 | some i => if (s.getD i attr0).kind ≠ 3 then 9 else 0)
 else if op = 4 then (match attrAt s name with | none => 7 | some i => if (s.getD i attr0).kind ≠ 1 then 9 else if words.all (fun x => (s.getD i attr0).words.any fun y => decide (y = x)) = false then 7 else 0)
 else if op = 5 then (match attrAt s name with | none => 7 | some i => if (s.getD i attr0).kind ≠ 2 then 9 else if lo < (s.getD i attr0).lo \/ (s.getD i attr0).hi < hi then 1 else 0)
 else 0
mutual
def nodesErr (s : List Attr) (l : List Cla) : Ex -> Int
 | .mk op name words lo hi args => if nodeErr s l op name words lo hi ≠ 0 then nodeErr s l op name words lo hi else nodesErrL s l args
def nodesErrL (s : List Attr) (l : List Cla) : List Ex -> Int
 | [] => 0
 | e :: r => if nodesErr s l e ≠ 0 then nodesErr s l e else nodesErrL s l r
end
theorem nodesErr_eq (s : List Attr) (l : List Cla) (e : Ex) : nodesErr s l e = if nodeErr s l e.op e.name e.words e.lo e.hi ≠ 0 then nodeErr s l e.op e.name e.words e.lo e.hi else nodesErrL s l e.args := by cases e; rw [nodesErr]; rfl
theorem nodesErrL_zero {s : List Attr} {l : List Cla} : (r : List Ex) -> (∀ j (h : j < r.length), nodesErr s l r[j] = 0) -> nodesErrL s l r = 0
 | [], _ => by rw [nodesErrL]
 | e :: r, h => by
  have h0 := h 0 (by simp)
  simp only [List.getElem_cons_zero] at h0
  rw [nodesErrL, h0]
  simp only [ne_eq, not_true_eq_false, if_false]
  exact nodesErrL_zero r fun j hj => by have := h (j + 1) (by simpa using hj); simpa using this
theorem nodesErrL_hit {s : List Attr} {l : List Cla} : (r : List Ex) -> (k : Nat) -> (hk : k < r.length) -> nodesErr s l r[k] ≠ 0 -> (∀ j (h : j < k), nodesErr s l (r[j]'(by omega)) = 0) -> nodesErrL s l r = nodesErr s l r[k]
 | [], k, hk, _, _ => by simp at hk
 | e :: r, 0, _, h, _ => by simp only [List.getElem_cons_zero] at h ⊢; rw [nodesErrL, if_pos h]
 | e :: r, k + 1, hk, h, h0 => by
  have h1 := h0 0 (by omega)
  simp only [List.getElem_cons_zero] at h1
  rw [nodesErrL, h1]
  simp only [ne_eq, not_true_eq_false, if_false, List.getElem_cons_succ] at h ⊢
  exact nodesErrL_hit r k (by simpa using hk) h fun j hj => by have := h0 (j + 1) (by omega); simpa using this
mutual
def expE (D : BA -> Option Nat) : Ex -> Nat
 | .mk op name _ _ _ args => min ((if op = 3 then (D name).getD 1 else 1) + expL D args) 2001
def expL (D : BA -> Option Nat) : List Ex -> Nat
 | [] => 0
 | e :: r => expE D e + expL D r
end
theorem expE_eq (D : BA -> Option Nat) (e : Ex) : expE D e = min ((if e.op = 3 then (D e.name).getD 1 else 1) + expL D e.args) 2001 := by cases e; rw [expE]; rfl
theorem expL_take_succ (D : BA -> Option Nat) : (l : List Ex) -> (k : Nat) -> (hk : k < l.length) -> expL D (l.take (k + 1)) = expL D (l.take k) + expE D l[k]
 | [], k, hk => by simp at hk
 | e :: r, 0, _ => by simp [expL]
 | e :: r, k + 1, hk => by
  have := expL_take_succ D r k (by simpa using hk)
  simp [expL] at this ⊢
  omega
theorem expL_take_le (D : BA -> Option Nat) : (l : List Ex) -> (k : Nat) -> expL D (l.take k) <= expL D l
 | [], k => by simp [expL]
 | e :: r, 0 => by simp [expL]
 | e :: r, k + 1 => by
  have := expL_take_le D r k
  simp [expL]; omega
theorem expE_le (D : BA -> Option Nat) (e : Ex) : expE D e <= 2001 := by rw [expE_eq]; omega
def cla0 : Cla := ⟨0, ⟨#[]⟩, .mk 0 ⟨#[]⟩ [] 0 0 [], [], 0⟩
def expF (l : List Cla) : Nat -> Ex -> Nat
 | 0, _ => 2001
 | f + 1, e => expE (fun s => (defAt l s).map fun d => expF l f (l.getD d cla0).cond) e
def expanded (l : List Cla) (e : Ex) : Nat := expF l (l.length + 1) e
theorem expF_le (l : List Cla) (f : Nat) (e : Ex) : expF l f e <= 2001 := by cases f with | zero => simp [expF] | succ f => rw [expF]; exact expE_le _ e
def cntBacks : List Wb -> Nat
 | [] => 0
 | .mk _ _ u :: r => 1 + min (cntBacks u) 41 + cntBacks r
def backsB : Nat -> List Wb -> Bool
 | _, [] => true
 | d, .mk n c u :: r => decide (d ≠ 0) && nameB n && refExprB c && backsB (d - 1) u && backsB d r
def mostOf (kind : Int) : Int := if kind = 5 \/ kind = 6 \/ kind = 7 \/ kind = 10 then 1073741824 else if kind = 8 then 1000000 else 0
def clauseB (c : Cla) : Bool := decide (1 <= c.kind) && decide (c.kind <= 10) && nameB c.name && refExprB c.cond && (decide (c.unl.length = 0) || ((c.kind == 3) && decide (cntBacks c.unl <= 40) && backsB 16 c.unl)) &&
 ((decide (mostOf c.kind = 0) && (c.amount == 0)) || (decide (0 < mostOf c.kind) && decide (1 <= c.amount) && decide (c.amount <= mostOf c.kind)))
def backsErr (s : List Attr) (l : List Cla) : List Wb -> Int
 | [] => 0
 | .mk _ c u :: r => if nodesErr s l c ≠ 0 then nodesErr s l c else if backsErr s l u ≠ 0 then backsErr s l u else backsErr s l r
def backsLarge (l : List Cla) : List Wb -> Bool
 | [] => false
 | .mk _ c u :: r => decide (2000 < expanded l c) || backsLarge l u || backsLarge l r
def findAt (l : List Cla) (x : BA) : Option Nat := l.findIdx? fun c => decide (c.name = x)
def claErr (s : List Attr) (l : List Cla) (i : Nat) : Int :=
 if clauseB (l.getD i cla0) = false then 5 else if (findAt l (l.getD i cla0).name).getD 0 < i then 8 else if (attrAt s (l.getD i cla0).name).isSome then 8 else
 if nodesErr s l (l.getD i cla0).cond ≠ 0 then nodesErr s l (l.getD i cla0).cond else backsErr s l (l.getD i cla0).unl
def claLarge (l : List Cla) (i : Nat) : Int := if 2000 < expanded l (l.getD i cla0).cond \/ backsLarge l (l.getD i cla0).unl = true then 4 else 0
def Cla.dfn (c : Cla) : Dfn := ⟨c.kind == 1, c.name, refNames (namesE c.cond)⟩
def Sorts (l : List Dfn) : Prop := ∃ o, Topo l o
open Classical in
noncomputable def clausesErr (s : List Attr) (l : List Cla) : Nat × Int :=
 if schemaErr s ≠ 0 then (0, schemaErr s) else if 100 < l.length then (0, 4) else if (firstI (claErr s l) l.length).2 ≠ 0 then firstI (claErr s l) l.length else
 if ¬ Sorts (l.map Cla.dfn) then (0, 10) else firstI (claLarge l) l.length
end Go.Proofs.YtefjomofjejklaaGreatDoor
