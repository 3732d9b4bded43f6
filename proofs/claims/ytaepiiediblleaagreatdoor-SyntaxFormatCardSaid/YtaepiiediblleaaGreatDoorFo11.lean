/-
  Texts of the claim, joined: Exs, Ref2, Ref3, Ref4, Fmt, Fmt2.
-/
import Derived.Test.YtaepiiediblleaaGreatDoorFo10
import Derived.Test.YtaepiiediblleaaGreatDoorFo08
import Derived.Test.YtaepiiediblleaaGreatDoorFo02
namespace Go.Proofs.YtaepiiediblleaaGreatDoor
open Go.RowKit

def ExsR (w : World) (l : List Ex) (xs : List ExV) : Prop := l.length = xs.length ∧ ∀ i (h1 : i < l.length) (h2 : i < xs.length), IsEx w l[i] xs[i].val
theorem ExsR.mono {w w' : World} {l : List Ex} {xs : List ExV} (h : ExsR w l xs) (hs : Sub w w') : ExsR w' l xs := ⟨h.1, fun i h1 h2 => (h.2 i h1 h2).mono hs⟩
theorem ExsR.nil (w : World) : ExsR w [] [] := ⟨rfl, fun i h => by simp at h⟩
theorem ExsR.snoc {w : World} {l : List Ex} {xs : List ExV} {e : Ex} {x : ExV} (h : ExsR w l xs) (hx : IsEx w e x.val) : ExsR w (l ++ [e]) (xs ++ [x]) := by
  refine ⟨by simp [h.1], fun i h1 h2 => ?_⟩
  by_cases hi : i < l.length
  · have hi2 : i < xs.length := by rw [← h.1]; exact hi
    simp only [List.getElem_append_left hi, List.getElem_append_left hi2]
    exact h.2 i hi hi2
  · have e1 : i = l.length := by simp at h1; omega
    subst e1
    simp only [List.getElem_append_right (Nat.le_refl _), List.getElem_append_right (show xs.length ≤ l.length by rw [h.1]; exact Nat.le_refl _), Nat.sub_self, List.getElem_cons_zero]
    simpa [h.1] using hx
theorem exV_len (x : ExV) : x.cells.length = 6 := rfl

/-- Expressions in a row that the call owns. -/
theorem exs_owns {w : World} {M : List Nat} {base : Nat} {v : Value} {l : List Ex} {xs : List ExV} (h : w.ownsRow base 28 6 v l.length (xs.flatMap ExV.cells)) (hM : ∀ k, v.ownBlock = some k → k ∉ M) (hR : ExsR (mask w M) l xs) :
    ∃ a c, v = .slice a l.length c ∧ l.length ≤ c ∧ OkAddr a c ∧ ExsD (mask w M) l a := by
  rw [hR.1] at h
  obtain ⟨a, c, rfl, hr⟩ := IsRows.of_owns exV_len h
  refine ⟨a, c, by rw [hR.1], by rw [hR.1]; exact hr.2.1, hr.2.2.1, ?_⟩
  match l, hR with
  | [], _ => unfold ExsD; trivial
  | e :: r, hR =>
    obtain ⟨b, off, rfl, h1⟩ := hr.2.2.2 0 (by rw [← hR.1]; simp)
    refine ExsD.of (e :: r) off xs hR.1 fun i h3 h4 => ⟨fun j hj => ?_, hR.2 i h3 h4⟩
    obtain ⟨b', off', e1, h5⟩ := hr.2.2.2 i h4
    simp only [Option.some.injEq, Addr.mk.injEq, and_true] at e1
    obtain ⟨rfl, rfl⟩ := e1
    rw [mask_cell, if_neg (hM _ rfl), h5 j (by rw [exV_len]; exact hj), List.getElem?_eq_getElem (by rw [exV_len]; exact hj)]

/-- One expression in a block of its own. -/
theorem exs_one {w : World} {M : List Nat} {g : Nat} {e : Ex} {x : ExV} {t : TypeId} (h : w.heap[g]? = some (.cells x.cells.toArray t (0, 0))) (hM : g ∉ M) (hx : IsEx (mask w M) e x.val) : ExsD (mask w M) [e] (some ⟨g, 0, none⟩) := by
  refine ExsD.of [e] 0 [x] rfl fun i h1 h2 => ?_
  obtain rfl : i = 0 := by simp at h1; exact h1
  refine ⟨fun j hj => ?_, hx⟩
  rw [mask_cell, if_neg hM, blk_cell h]
  simp
theorem isEx_not {w : World} {M : List Nat} {g : Nat} {e : Ex} {x : ExV} {t : TypeId} (h : w.heap[g]? = some (.cells x.cells.toArray t (0, 0))) (hM : g ∉ M) (hx : IsEx (mask w M) e x.val) :
    IsEx (mask w M) (.mk 6 ⟨#[]⟩ [] 0 0 [e]) (exV 6 ⟨#[]⟩ none 0 0 0 0 (some ⟨g, 0, none⟩) 1 1) :=
  IsEx.mk ⟨rfl, by omega, Or.inl ⟨rfl, rfl⟩, fun i hi => by simp at hi⟩ rfl (by simp) (Or.inr ⟨g, 0, rfl⟩) (exs_one h hM hx)
/-- An expression is stored into a box. -/
def put6 (w : World) (B : Nat) (x : ExV) : World := (((((w.setCell ⟨B, 0, none⟩ (.int .i64 x.op)).setCell ⟨B, 1, none⟩ (.string x.name)).setCell ⟨B, 2, none⟩ (.slice x.aw x.nw x.cw)).setCell ⟨B, 3, none⟩ (.int .i64 x.lo)).setCell ⟨B, 4, none⟩ (.int .i64 x.hi)).setCell ⟨B, 5, none⟩ (.slice x.aa x.na x.ca)
theorem put6_blk {w : World} {B : Nat} {y : ExV} {t : TypeId} (h : w.heap[B]? = some (.cells y.cells.toArray t (0, 0))) (x : ExV) : (put6 w B x).heap[B]? = some (.cells x.cells.toArray t (0, 0)) := by
  unfold put6
  rw [heap_setCell_same _ _ _ _ _ _ (heap_setCell_same _ _ _ _ _ _ (heap_setCell_same _ _ _ _ _ _ (heap_setCell_same _ _ _ _ _ _ (heap_setCell_same _ _ _ _ _ _ (heap_setCell_same _ _ _ _ _ _ h)))))]
  rfl
theorem put6_chg (w : World) (B : Nat) (x : ExV) {N : List Nat} (h : B ∈ N) : Chg N w (put6 w B x) := by
  unfold put6
  repeat (with_reducible (refine Chg.setCell ?_ ?_ _))
  exact Chg.refl _ _
  all_goals exact Or.inl h
theorem put6_size (w : World) (B : Nat) (x : ExV) : (put6 w B x).heap.size = w.heap.size := by simp [put6]
end Go.Proofs.YtaepiiediblleaaGreatDoor

namespace Go.Proofs.YtaepiiediblleaaGreatDoor
open Go.RowKit

theorem size_pos (e : Ex) : 1 ≤ e.size := by rw [e.size_eq]; omega

/-- Size of the reference: at most 301. -/
def refSize (e : Ex) : Nat := min e.size 301
def refSizes : List Ex → Nat
  | [] => 0
  | e :: r => refSize e + refSizes r
theorem refSizes_le (l : List Ex) : refSizes l ≤ sizes l ∧ l.length ≤ refSizes l ∧ min (1 + refSizes l) 301 = min (1 + sizes l) 301 := by
  induction l with
  | nil => simp [refSizes, sizes]
  | cons e r ih => have := size_pos e; simp only [refSizes, sizes, refSize, List.length_cons]; omega
theorem refSizes_take_succ (l : List Ex) (k : Nat) (hk : k < l.length) : refSizes (l.take (k + 1)) = refSizes (l.take k) + refSize l[k] := by
  induction l generalizing k with
  | nil => simp at hk
  | cons e r ih =>
    cases k with
    | zero => simp [refSizes]
    | succ k => have := ih k (by simpa using hk); simp only [List.take_succ_cons, refSizes, this, List.getElem_cons_succ]; omega
theorem refSize_of {e : Ex} {k : Nat} (hs : k = e.args.length ∨ 300 < 1 + refSizes (e.args.take k)) : min (1 + refSizes (e.args.take k)) 301 = refSize e := by
  have h1 := e.size_eq
  have h2 := refSizes_le (e.args.take k)
  have h3 := sizes_take_le e.args k
  have h4 := refSizes_le e.args
  unfold refSize
  rcases hs with hs | hs
  · rw [hs, List.take_length]; omega
  · omega

set_option maxRecDepth 100000 in
set_option maxHeartbeats 1000000 in
theorem rsize_calls (m : Nat) : ∀ (e : Ex) (v : Value) (w : World), e.size ≤ m → IsEx w e v → Calls Tryz.prog 32 #[v] w (GivesE (.int .i64 (refSize e)) w) := by
  induction m with
  | zero => intro e v w h; have := size_pos e; omega
  | succ m ih =>
    intro e v w hm he
    obtain ⟨aw, nw, cw, aa, na, ca, rfl, hw, hna, hca, ha, hx⟩ := he.parts
    have HX := Lib.hid hx
    have HN := Lib.hid hna
    have hS : e.size = 1 + sizes e.args := e.size_eq
    have hb2 : sizes e.args ≤ m := by omega
    have H : Hid (∀ (e : Ex) (v : Value) (w : World), e.size ≤ m → IsEx w e v → Calls Tryz.prog 32 #[v] w (GivesE (.int .i64 (refSize e)) w)) := ih
    clear ih hx hna hw hca ha he hS hm
    unfold exV
    go_enter Tryz.func32, Tryz.ntmps32
    go_wp2_with fail
    go_loopw [3, 4] (fun s i wr => ∃ k : Nat, k ≤ na ∧ i = .int .i64 k ∧ s = .int .i64 (1 + (refSizes (e.args.take k) : Int)) ∧ refSizes (e.args.take k) ≤ 601 ∧ wr.heap[w.heap.size]? = some (.cells #[.int .i64 e.op, .string e.name, .slice aw nw cw, .int .i64 e.lo, .int .i64 e.hi, .slice aa na ca] 28 (0, 0)) ∧ Ext w wr) (fun _ i _ => na - (intOf i).toNat)
    case atStart => exact ⟨0, by omega, rfl, by simp [refSizes], by simp [refSizes], alloc_new w _, (Ext.refl w).alloc _⟩
    case round =>
      obtain ⟨k, hk, rfl, rfl, hb6, hbx, hb⟩ := hrel
      have HBX := Lib.hid hbx
      have HB := Lib.hid hb
      have hlt0 := blk_lt hbx
      obtain ⟨b0, b1, b2, b3, b4, b5, bf⟩ := blk6 hbx
      have hkl : k ≤ refSizes (e.args.take k) := by have := (refSizes_le (e.args.take k)).2.1; have hl := HN.out; rw [List.length_take] at this; omega
      clear hbx hb
      by_cases hlt : k < na
      · have hlt' : k < e.args.length := by have := HN.out; omega
        by_cases hc : refSizes (e.args.take k) ≤ 299
        · have t1 : decide ((k : Int) < (na : Int)) = true := by simp; omega
          have t2 : decide (1 + (refSizes (e.args.take k) : Int) ≤ 300) = true := by simp; omega
          obtain ⟨b, off, rfl, aw1, nw1, cw1, aa1, na1, ca1, h0, h1, h2, h3, h4, h5, h6⟩ := ExsD.at e.args _ (ExsD.ext HB.out e.args _ HX.out) k hlt'
          have H6 := Lib.hid h6
          have hs1 := Lib.hid (refSizes_take_succ e.args k hlt')
          have hsz := sizes_take_succ e.args k hlt'
          have hsl := sizes_take_le e.args (k + 1)
          have hk1 : e.args[k].size ≤ m := by omega
          have hr : refSize e.args[k] ≤ 301 := by unfold refSize; omega
          clear h6 hsz hsl
          go_wp2_with fail
          refine (H.out e.args[k] _ _ hk1 H6.out).mono ?_
          rintro r w1 ⟨rfl, hb1⟩
          have HE1 := Lib.hid hb1
          clear b0 b1 b2 b3 b4 b5 bf hb1
          go_wp2_with fail
          go_roundw
          case rel => exact ⟨k + 1, by omega, by go_num, by rw [hs1.out]; go_num, by rw [hs1.out]; omega, HE1.out.blk HBX.out, HB.out.trans HE1.out⟩
          case measure => simp [intOf]; omega
        · have t1 : decide ((k : Int) < (na : Int)) = true := by simp; omega
          have t2 : decide (1 + (refSizes (e.args.take k) : Int) ≤ 300) = false := by simp; omega
          have H1 := Lib.hid (refSize_of (e := e) (k := k) (Or.inr (by omega)))
          go_wp2_with fail
          all_goals (go_ret; exact givesE_int (by rw [← H1.out]; omega) HB.out)
      · have t1 : decide ((k : Int) < (na : Int)) = false := by simp; omega
        have H1 := Lib.hid (refSize_of (e := e) (k := k) (Or.inl (by have := HN.out; omega)))
        go_wp2_with fail
        all_goals (go_ret; exact givesE_int (by rw [← H1.out]; omega) HB.out)
set_option maxRecDepth 100000 in
set_option maxHeartbeats 1000000 in
theorem deeper_calls (m : Nat) : ∀ (e : Ex) (v : Value) (w : World) (n : Nat), e.size ≤ m → m ≤ 1000000000000000 → n ≤ 1000 → IsEx w e v → Calls Tryz.prog 45 #[v, .int .i64 n] w (GivesE (.bool (decide (n < e.depth))) w) := by
  induction m with
  | zero => intro e v w n h; have := size_pos e; omega
  | succ m ih =>
    intro e v w n hm hMM hn he
    obtain ⟨aw, nw, cw, aa, na, ca, rfl, hw, hna, hca, ha, hx⟩ := he.parts
    have HX := Lib.hid hx
    have HN := Lib.hid hna
    have HD := Lib.hid e.depth_eq
    have hS : e.size = 1 + sizes e.args := e.size_eq
    have hb2 : sizes e.args ≤ m := by omega
    have hla := length_le_sizes e.args
    have H : Hid (∀ (e : Ex) (v : Value) (w : World) (n : Nat), e.size ≤ m → n ≤ 1000 → IsEx w e v → Calls Tryz.prog 45 #[v, .int .i64 n] w (GivesE (.bool (decide (n < e.depth))) w)) := fun e v w n h1 h2 h3 => ih e v w n h1 (by omega) h2 h3
    clear ih hx hna hw hca ha he hS hm
    unfold exV
    by_cases hn0 : n = 0
    · have t1 : ((n : Int) == 0) = true := by simp [hn0]
      have H1 := Lib.hid (show decide (n < e.depth) = true by rw [decide_eq_true_eq, HD.out]; omega)
      generalize decide (n < e.depth) = B at *
      go_enter Tryz.func45, Tryz.ntmps45
      go_wp2_with fail
      go_ret
      exact givesE_bool (by rw [H1.out]) ((Ext.refl w).alloc _)
    · have hn1 : 1 ≤ n := by omega
      have t1 : ((n : Int) == 0) = false := by simp; omega
      obtain ⟨B, hB⟩ : ∃ B, B = decide (n < e.depth) := ⟨_, rfl⟩
      rw [← hB]
      have HBQ := Lib.hid hB
      clear hB
      go_enter Tryz.func45, Tryz.ntmps45
      go_wp2_with fail
      go_loopw [5] (fun i wr => ∃ k : Nat, k ≤ na ∧ i = .int .i64 k ∧ (∀ j (hj : j < e.args.length), j < k → ¬ n - 1 < e.args[j].depth) ∧ wr.heap[w.heap.size]? = some (.cells #[.int .i64 e.op, .string e.name, .slice aw nw cw, .int .i64 e.lo, .int .i64 e.hi, .slice aa na ca] 28 (0, 0)) ∧ Ext w wr) (fun i _ => na - (intOf i).toNat)
      case atStart => exact ⟨0, by omega, rfl, fun j _ h => by omega, alloc_new w _, (Ext.refl w).alloc _⟩
      case round =>
        obtain ⟨k, hk, rfl, hall, hbx, hb⟩ := hrel
        have HA := Lib.hid hall
        have HBX := Lib.hid hbx
        have HB := Lib.hid hb
        have hlt0 := blk_lt hbx
        obtain ⟨b0, b1, b2, b3, b4, b5, bf⟩ := blk6 hbx
        clear hbx hb hall
        by_cases hlt : k < na
        · have hlt' : k < e.args.length := by have := HN.out; omega
          obtain ⟨b, off, rfl, aw1, nw1, cw1, aa1, na1, ca1, h0, h1, h2, h3, h4, h5, h6⟩ := ExsD.at e.args _ (ExsD.ext HB.out e.args _ HX.out) k hlt'
          have H6 := Lib.hid h6
          have hsz := sizes_take_succ e.args k hlt'
          have hsl := sizes_take_le e.args (k + 1)
          have hk1 : e.args[k].size ≤ m := by omega
          have HM1 := Lib.hid (depths_mem (List.getElem_mem hlt'))
          clear h6 hsz hsl
          have HCA := Lib.hid (show (n : Int) - 1 = ((n - 1 : Nat) : Int) by omega)
          go_wp2_with fail
          rw [HCA.out]
          refine (H.out e.args[k] _ _ (n - 1) hk1 (by omega) H6.out).mono ?_
          rintro r w1 ⟨rfl, hb1⟩
          have HE1 := Lib.hid hb1
          clear b0 b1 b2 b3 b4 b5 bf hb1
          by_cases hdp : n - 1 < e.args[k].depth
          · rw [decide_eq_true hdp]
            have H1 := Lib.hid (show B = true by rw [HBQ.out, decide_eq_true_eq, HD.out]; have := HM1.out; omega)
            clear hdp
            go_wp2_with fail
            go_ret
            exact givesE_bool (by rw [H1.out]) (HB.out.trans HE1.out)
          · rw [decide_eq_false hdp]
            have HND := Lib.hid hdp
            clear hdp
            go_wp2_with fail
            go_roundw
            case rel =>
              refine ⟨k + 1, by omega, by go_num, fun j hj hjk => ?_, HE1.out.blk HBX.out, HB.out.trans HE1.out⟩
              by_cases ej : j = k
              · subst ej; exact HND.out
              · exact HA.out j hj (by omega)
            case measure => simp [intOf]; omega
        · have H1 := Lib.hid (show B = false by
            rw [HBQ.out, decide_eq_false_iff_not, HD.out]
            have : ∀ l : List Ex, (∀ x ∈ l, ¬ n - 1 < x.depth) → depths l ≤ n - 1 := by
              intro l
              induction l with
              | nil => intro _; simp [depths]
              | cons y r ih =>
                intro h
                have h1 := h y (by simp)
                have h2 := ih (fun x hx => h x (List.mem_cons_of_mem _ hx))
                simp only [depths]; omega
            have := this e.args (fun x hx => by
              obtain ⟨j, hj, rfl⟩ := List.getElem_of_mem hx
              exact HA.out j hj (by have := HN.out; omega))
            omega)
          go_wp2_with fail
          go_ret
          exact givesE_bool (by rw [H1.out]) HB.out

set_option maxRecDepth 100000 in
theorem sameWords_calls (l1 l2 : List ByteArray) (a1 a2 : Option Addr) (n1 c1 n2 c2 : Nat) (w : World) (h1 : IsStrs w l1 a1 n1 c1) (h2 : IsStrs w l2 a2 n2 c2) (hn : n1 ≤ 1000000000000000) :
    Calls Tryz.prog 23 #[.slice a1 n1 c1, .slice a2 n2 c2] w (GivesD (.bool (decide (l1 = l2))) w) := by
  have HL1 := Lib.hid h1
  have HL2 := Lib.hid h2
  have hn1 := Lib.hid h1.1
  have hn2 := Lib.hid h2.1
  obtain ⟨B, hB⟩ : ∃ B, B = decide (l1 = l2) := ⟨_, rfl⟩
  rw [← hB]
  have HBQ := Lib.hid hB
  clear h1 h2 hB
  by_cases he : n1 = n2
  · have t1 : ((n1 : Int) != (n2 : Int)) = false := by simp [he]
    have t2 : (n1 != n2) = false := by simp [he]
    have hle : n1 ≤ n2 := by omega
    have HEQ := Lib.hid he
    clear he
    go_enter Tryz.func23, Tryz.ntmps23
    go_wp2_with fail
    go_loopw [5] (fun t wr => ∃ k : Nat, t = .int .i64 k ∧ k ≤ n1 ∧ (∀ j (hj : j < l1.length) (hj2 : j < l2.length), j < k → l1[j] = l2[j]) ∧ ∃ q, wr = w.drewN q) (fun t _ => n1 - (intOf t).toNat)
    case atStart => exact ⟨0, rfl, by omega, fun j _ _ h => by omega, 0, rfl⟩
    case round =>
      obtain ⟨k, rfl, hk, hal, q, rfl⟩ := hrel
      have HA := Lib.hid hal
      clear hal
      by_cases hlt : k < n1
      · have hk1 : k < l1.length := by have := hn1.out; omega
        have hk2 : k < l2.length := by have := hn2.out; omega
        obtain ⟨b, off, rfl, hc1⟩ := HL1.out.2.2.2 k hk1
        obtain ⟨b', off', rfl, hc2⟩ := HL2.out.2.2.2 k hk2
        have ti0 : (0 : Int) ≤ (k : Int) := by omega
        have ti1 : (k : Int) < (n1 : Int) := by omega
        have tj1 : (k : Int) < (n2 : Int) := by omega
        have tj2 : k < n2 := by omega
        cases hx : (l1[k].toList == l2[k].toList)
        · have H1 := Lib.hid (show B = false by
            rw [HBQ.out, decide_eq_false_iff_not]
            intro e
            subst e
            simp at hx)
          have hx2 : (l1[k].toList != l2[k].toList) = true := by simp only [bne, hx]; rfl
          go_wp2_with fail
          go_quiet (fail)
          go_wp2_with fail
          go_ret
          exact givesD_bool (by rw [H1.out]) ⟨_, drewN_drewN _ _ _⟩
        · have HQ := Lib.hid hx
          have hx2 : (l1[k].toList != l2[k].toList) = false := by simp only [bne, hx]; rfl
          go_wp2_with fail
          go_quiet (fail)
          go_wp2_with fail
          go_roundw
          case rel =>
            refine ⟨k + 1, by go_num, by omega, fun j hj hj2 hjk => ?_, _, rfl⟩
            by_cases e : j = k
            · subst e; exact toList_inj (beq_iff_eq.1 HQ.out)
            · exact HA.out j hj hj2 (by omega)
          case measure => simp [intOf]; omega
      · have H1 := Lib.hid (show B = true by
          rw [HBQ.out, decide_eq_true_eq]
          have e1 := hn1.out
          have e2 := hn2.out
          have e3 := HEQ.out
          exact List.ext_getElem (by omega) (fun j hj hj2 => HA.out j hj hj2 (by omega)))
        go_wp2_with fail
        go_ret
        exact givesD_bool (by rw [H1.out]) ⟨q, rfl⟩
  · have t1 : ((n1 : Int) != (n2 : Int)) = true := by simp [bne_iff_ne]; omega
    have t2 : (n1 != n2) = true := by simp [bne_iff_ne]; omega
    have H1 := Lib.hid (show B = false by
      rw [HBQ.out, decide_eq_false_iff_not]
      intro e
      have e1 := hn1.out
      have e2 := hn2.out
      rw [e] at e1
      omega)
    go_enter Tryz.func23, Tryz.ntmps23
    go_wp2_with fail
    go_ret
    exact givesD_bool (by rw [H1.out]) ⟨0, rfl⟩
end Go.Proofs.YtaepiiediblleaaGreatDoor

namespace Go.Proofs.YtaepiiediblleaaGreatDoor
open Go.RowKit

/-- The reference's look at one node; na, nw: the numbers of arguments and of words. -/
def refNode (op : Int) (name : ByteArray) (words : List ByteArray) (lo hi : Int) (na nw : Nat) : Bool :=
  decide (1 ≤ op ∧ op ≤ 8) && (if op == 3 || op == 4 || op == 5 then nameB name else name.toList.isEmpty) && (if op == 4 then decide (1 ≤ nw) && decide (nw ≤ 12) && words.all nameB && decide words.Nodup else decide (nw = 0)) &&
  (if op == 5 then numberB lo && numberB hi && decide (lo ≤ hi) else (lo == 0) && (hi == 0)) && (if op == 6 then decide (na = 1) else if op == 7 || op == 8 then decide (2 ≤ na) else decide (na = 0))
def refNodeB (e : Ex) : Bool := refNode e.op e.name e.words e.lo e.hi e.args.length e.words.length

theorem int_beq0 (n : Nat) : ((n : Int) == 0) = decide (n = 0) := by rw [Bool.eq_iff_iff]; simp
theorem int_beq1 (n : Nat) : ((n : Int) == 1) = decide (n = 1) := by rw [Bool.eq_iff_iff]; simp; omega
set_option maxRecDepth 100000 in
set_option maxHeartbeats 4000000 in
theorem rnode_calls (e : Ex) (v : Value) (w : World) (he : IsEx w e v) (hs : e.name.size ≤ 1000000000000000) (hws : ∀ x ∈ e.words, x.size ≤ 1000000000000000) (hnw : e.words.length ≤ 1000000000000000) :
    Calls Tryz.prog 84 #[v] w (GivesE (.bool (refNodeB e)) w) := by
  obtain ⟨aw, nw, cw, aa, na, ca, rfl, hw, hna, hca, ha, hx⟩ := he.parts
  clear he hx ha hca
  have HW := Lib.hid hw
  have HS := Lib.hid hws
  have hnw' : nw ≤ 1000000000000000 := by have := hw.1; omega
  have HB := Lib.hid (show refNodeB e = refNode e.op e.name e.words e.lo e.hi na nw by unfold refNodeB; rw [hna, hw.1])
  generalize refNodeB e = B at *
  clear hw hws hna hnw
  obtain ⟨op, name, words, lo, hi, args⟩ := e
  simp only [Ex.op, Ex.name, Ex.words, Ex.lo, Ex.hi] at *
  unfold exV
  by_cases h1 : 1 ≤ op
  · by_cases h8 : op ≤ 8
    · have hk : op = 1 ∨ op = 2 ∨ op = 3 ∨ op = 4 ∨ op = 5 ∨ op = 6 ∨ op = 7 ∨ op = 8 := by omega
      clear h1 h8
      rcases hk with rfl | rfl | rfl | rfl | rfl | rfl | rfl | rfl
      case inr.inr.inr.inl =>
        obtain ⟨P, hP⟩ : ∃ P, P = words.all nameB := ⟨_, rfl⟩
        obtain ⟨Q, hQ⟩ : ∃ Q, Q = decide words.Nodup := ⟨_, rfl⟩
        have HP := Lib.hid hP
        have HQ := Lib.hid hQ
        have HB2 := Lib.hid (show B = (nameB name && (decide (1 ≤ nw) && decide (nw ≤ 12) && P && Q) && ((lo == 0) && (hi == 0)) && decide (na = 0)) by rw [HB.out]; unfold refNode; rw [hP, hQ]; simp)
        clear hP hQ HB
        cases P
        all_goals cases Q
        all_goals
          by_cases hn1 : 1 ≤ nw
          · by_cases hn2 : nw ≤ 12
            · have t1 : decide ((nw : Int) < 1) = false := by simp; omega
              have t2 : decide ((12 : Int) < nw) = false := by simp; omega
              have HB3 := Lib.hid HB2.out
              simp only [hn1, hn2, decide_true, Bool.false_and, Bool.and_false, Bool.and_true] at HB3
              clear HB2
              go_enter Tryz.func84, Tryz.ntmps84
              go_wp2_with (first
                | (go_at_call 105; refine (rname_calls _ _ hs).mono ?_; rintro e w' ⟨rfl, rfl⟩)
                | (go_at_call 106; refine (names_calls words _ _ _ _ (HW.out.ext ((Ext.refl w).alloc _)) hnw' HS.out).mono ?_; rintro e w' ⟨rfl, rfl⟩; rw [← HP.out])
                | (go_at_call 107; refine (distinct_calls words _ _ _ _ (HW.out.ext ((Ext.refl w).alloc _)) hnw').mono ?_; rintro e w' ⟨rfl, q, rfl⟩; rw [← HQ.out]))
              all_goals (go_ret; exact givesE_bool (by first | (rw [HB3.out]; done) | (rw [HB3.out]; simp_all [int_beq0])) (by first | exact (Ext.refl w).alloc _ | exact ((Ext.refl w).alloc _).drewN _))
            · have t1 : decide ((nw : Int) < 1) = false := by simp; omega
              have t2 : decide ((12 : Int) < nw) = true := by simp; omega
              have HF := Lib.hid (show B = false by rw [HB2.out]; simp [hn2])
              clear HB2
              go_enter Tryz.func84, Tryz.ntmps84
              go_wp2_with (go_at_call 105; refine (rname_calls _ _ hs).mono ?_; rintro e w' ⟨rfl, rfl⟩)
              all_goals (go_ret; exact givesE_bool (by rw [HF.out]) ((Ext.refl w).alloc _))
          · have t1 : decide ((nw : Int) < 1) = true := by simp; omega
            have HF := Lib.hid (show B = false by rw [HB2.out]; simp [hn1])
            clear HB2
            go_enter Tryz.func84, Tryz.ntmps84
            go_wp2_with (go_at_call 105; refine (rname_calls _ _ hs).mono ?_; rintro e w' ⟨rfl, rfl⟩)
            all_goals (go_ret; exact givesE_bool (by rw [HF.out]) ((Ext.refl w).alloc _))
      all_goals
        go_enter Tryz.func84, Tryz.ntmps84
        go_wp2_with (first
          | (go_at_call 105; refine (rname_calls _ _ hs).mono ?_; rintro e w' ⟨rfl, rfl⟩)
          | (go_at_call 108; refine (far_calls _ _).mono ?_; rintro e w' ⟨rfl, rfl⟩))
        all_goals (go_ret; exact givesE_bool (by rw [HB.out]; simp_all [refNode, int_beq0, int_beq1]; try omega) ((Ext.refl w).alloc _))
    · have H := Lib.hid (show B = false by rw [HB.out]; simp [refNode, h8])
      have t1 : decide (op < 1) = false := by simp; omega
      have t2 : decide (8 < op) = true := by simp; omega
      have e3 : (op == 3) = false := by simp; omega
      have e4 : (op == 4) = false := by simp; omega
      have e5 : (op == 5) = false := by simp; omega
      go_enter Tryz.func84, Tryz.ntmps84
      go_wp2_with fail
      go_ret
      exact givesE_bool (by rw [H.out]) ((Ext.refl w).alloc _)
  · have H := Lib.hid (show B = false by rw [HB.out]; simp [refNode, h1])
    have t1 : decide (op < 1) = true := by simp; omega
    have e3 : (op == 3) = false := by simp; omega
    have e4 : (op == 4) = false := by simp; omega
    have e5 : (op == 5) = false := by simp; omega
    go_enter Tryz.func84, Tryz.ntmps84
    go_wp2_with fail
    go_ret
    exact givesE_bool (by rw [H.out]) ((Ext.refl w).alloc _)
end Go.Proofs.YtaepiiediblleaaGreatDoor

namespace Go.Proofs.YtaepiiediblleaaGreatDoor
open Go.RowKit

mutual
def nodesB : Ex → Bool
  | .mk op name words lo hi args => refNodeB (.mk op name words lo hi args) && nodesAll args
def nodesAll : List Ex → Bool
  | [] => true
  | e :: r => nodesB e && nodesAll r
end
theorem nodesB_eq (e : Ex) : nodesB e = (refNodeB e && nodesAll e.args) := by cases e; rw [nodesB]; rfl
theorem nodesAll_iff (l : List Ex) : nodesAll l = true ↔ ∀ j (h : j < l.length), nodesB l[j] = true := by
  induction l with
  | nil => simp [nodesAll]
  | cons e r ih =>
    rw [nodesAll, Bool.and_eq_true, ih]
    constructor
    · rintro ⟨h1, h2⟩ j hj
      cases j with
      | zero => exact h1
      | succ j => exact h2 j (by simpa using hj)
    · intro h
      exact ⟨h 0 (by simp), fun j hj => h (j + 1) (by simpa using hj)⟩
mutual
def Ex.few : Ex → Prop
  | .mk _ _ words _ _ args => words.length ≤ 1000000000000000 ∧ fewAll args
def fewAll : List Ex → Prop
  | [] => True
  | e :: r => e.few ∧ fewAll r
end
theorem fewAll_at : (l : List Ex) → fewAll l → (k : Nat) → (hk : k < l.length) → l[k].few
  | [], _, k, hk => by simp at hk
  | e :: r, h, 0, _ => by unfold fewAll at h; exact h.1
  | e :: r, h, k + 1, hk => by unfold fewAll at h; simpa using fewAll_at r h.2 k (by simpa using hk)
theorem few_parts {e : Ex} (h : e.few) : e.words.length ≤ 1000000000000000 ∧ fewAll e.args := by
  cases e; unfold Ex.few at h; exact h

set_option maxRecDepth 100000 in
set_option maxHeartbeats 1000000 in
theorem nodes_calls (m : Nat) : ∀ (e : Ex) (v : Value) (w : World), e.size ≤ m → m ≤ 1000000000000000 → e.fits → e.few → IsEx w e v → Calls Tryz.prog 47 #[v] w (GivesE (.bool (nodesB e)) w) := by
  induction m with
  | zero => intro e v w h; have := size_pos e; omega
  | succ m ih =>
    intro e v w hm hMM hf hw2 he
    have HE := Lib.hid he
    obtain ⟨aw, nw, cw, aa, na, ca, rfl, hw, hna, hca, ha, hx⟩ := he.parts
    have HX := Lib.hid hx
    have HN := Lib.hid hna
    have HF := Lib.hid (fits_parts hf)
    have HW := Lib.hid (few_parts hw2)
    have hS : e.size = 1 + sizes e.args := e.size_eq
    have hb2 : sizes e.args ≤ m := by omega
    have hla := length_le_sizes e.args
    have H : Hid (∀ (e : Ex) (v : Value) (w : World), e.size ≤ m → e.fits → e.few → IsEx w e v → Calls Tryz.prog 47 #[v] w (GivesE (.bool (nodesB e)) w)) := fun e v w h1 h2 h3 h4 => ih e v w h1 (by omega) h2 h3 h4
    have HQ := Lib.hid (nodesB_eq e)
    generalize nodesB e = B at *
    clear ih hx hna hw hca ha he hS hm hf hw2
    have HNC := Lib.hid (rnode_calls e _ (w.alloc (.cells #[.int .i64 e.op, .string e.name, .slice aw nw cw, .int .i64 e.lo, .int .i64 e.hi, .slice aa na ca] 28)) (HE.out.ext ((Ext.refl w).alloc _)) HF.out.1 HF.out.2.1 HW.out.1)
    unfold exV at *
    cases hnode : refNodeB e
    · have HND := Lib.hid hnode
      have H1 := Lib.hid (show B = false by rw [HQ.out, hnode]; rfl)
      clear hnode
      go_enter Tryz.func47, Tryz.ntmps47
      go_wp2_with fail
      refine HNC.out.mono ?_
      rintro r w1 ⟨rfl, hx1⟩
      rw [HND.out]
      have HX1 := Lib.hid (((Ext.refl w).alloc _).trans hx1)
      clear hx1
      go_wp2_with fail
      go_ret
      exact givesE_bool (by rw [H1.out]) HX1.out
    · have HND := Lib.hid hnode
      have HQ2 := Lib.hid (show B = nodesAll e.args by rw [HQ.out, hnode]; rfl)
      clear hnode
      go_enter Tryz.func47, Tryz.ntmps47
      go_wp2_with fail
      refine HNC.out.mono ?_
      rintro r w1 ⟨rfl, hx1⟩
      rw [HND.out]
      have HBX1 := Lib.hid (hx1.blk (alloc_new w _))
      have HX1 := Lib.hid (((Ext.refl w).alloc _).trans hx1)
      clear hx1
      go_wp2_with fail
      go_loopw [3] (fun i wr => ∃ k : Nat, k ≤ na ∧ i = .int .i64 k ∧ (∀ j (hj : j < e.args.length), j < k → nodesB e.args[j] = true) ∧ wr.heap[w.heap.size]? = some (.cells #[.int .i64 e.op, .string e.name, .slice aw nw cw, .int .i64 e.lo, .int .i64 e.hi, .slice aa na ca] 28 (0, 0)) ∧ Ext w wr) (fun i _ => na - (intOf i).toNat)
      case atStart => exact ⟨0, by omega, rfl, fun j _ h => by omega, HBX1.out, HX1.out⟩
      case round =>
        obtain ⟨k, hk, rfl, hall, hbx, hb⟩ := hrel
        have HA := Lib.hid hall
        have HBX := Lib.hid hbx
        have HB := Lib.hid hb
        have hlt0 := blk_lt hbx
        obtain ⟨b0, b1, b2, b3, b4, b5, bf⟩ := blk6 hbx
        clear hbx hb hall
        by_cases hlt : k < na
        · have hlt' : k < e.args.length := by have := HN.out; omega
          obtain ⟨b, off, rfl, aw1, nw1, cw1, aa1, na1, ca1, h0, h1, h2, h3, h4, h5, h6⟩ := ExsD.at e.args _ (ExsD.ext HB.out e.args _ HX.out) k hlt'
          have H6 := Lib.hid h6
          have hsz := sizes_take_succ e.args k hlt'
          have hsl := sizes_take_le e.args (k + 1)
          have hk1 : e.args[k].size ≤ m := by omega
          clear h6 hsz hsl
          go_wp2_with fail
          refine (H.out e.args[k] _ _ hk1 (fitsAll_at _ HF.out.2.2 k hlt') (fewAll_at _ HW.out.2 k hlt') H6.out).mono ?_
          rintro r w2 ⟨rfl, hb1⟩
          have HE1 := Lib.hid hb1
          clear b0 b1 b2 b3 b4 b5 bf hb1
          cases hdp : nodesB e.args[k]
          · have H1 := Lib.hid (show B = false by
              rw [HQ2.out]
              cases hz : nodesAll e.args
              · rfl
              · have := (nodesAll_iff _).1 hz k hlt'; rw [hdp] at this; cases this)
            clear hdp
            go_wp2_with fail
            go_ret
            exact givesE_bool (by rw [H1.out]) (HB.out.trans HE1.out)
          · have HND2 := Lib.hid hdp
            clear hdp
            go_wp2_with fail
            go_roundw
            case rel =>
              refine ⟨k + 1, by omega, by go_num, fun j hj hjk => ?_, HE1.out.blk HBX.out, HB.out.trans HE1.out⟩
              by_cases ej : j = k
              · subst ej; exact HND2.out
              · exact HA.out j hj (by omega)
            case measure => simp [intOf]; omega
        · have H1 := Lib.hid (show B = true by rw [HQ2.out]; exact (nodesAll_iff _).2 (fun j hj => HA.out j hj (by have := HN.out; omega)))
          go_wp2_with fail
          go_ret
          exact givesE_bool (by rw [H1.out]) HB.out

def refExprB (e : Ex) : Bool := !decide (16 < e.depth) && decide (refSize e ≤ 300) && nodesB e
set_option maxRecDepth 100000 in
theorem rexpr_calls (e : Ex) (v : Value) (w : World) (he : IsEx w e v) (hsz : e.size ≤ 1000000000000000) (hf : e.fits) (hw : e.few) : Calls Tryz.prog 24 #[v] w (GivesE (.bool (refExprB e)) w) := by
  have HE := Lib.hid he
  have HF := Lib.hid hf
  have HW := Lib.hid hw
  have HQ := Lib.hid (show refExprB e = (!decide (16 < e.depth) && decide (refSize e ≤ 300) && nodesB e) from rfl)
  generalize refExprB e = B at *
  obtain ⟨aw, nw, cw, aa, na, ca, rfl, -⟩ := he.parts
  clear he hf hw
  have HA := Lib.hid (fun W (h : Ext (w.alloc (.cells #[.int .i64 e.op, .string e.name, .slice aw nw cw, .int .i64 e.lo, .int .i64 e.hi, .slice aa na ca] 28)) W) => ((Ext.refl w).alloc _).trans h)
  have HNB := Lib.hid (alloc_new w (.cells #[.int .i64 e.op, .string e.name, .slice aw nw cw, .int .i64 e.lo, .int .i64 e.hi, .slice aa na ca] 28))
  unfold exV at *
  go_enter Tryz.func24, Tryz.ntmps24
  go_wp2_with fail
  refine (deeper_calls e.size e _ _ 16 (Nat.le_refl _) hsz (by omega) (HE.out.ext ((Ext.refl w).alloc _))).mono ?_
  rintro r w1 ⟨rfl, hx1⟩
  have HX1 := Lib.hid (HA.out _ hx1)
  have hb1 := hx1.blk HNB.out
  have HB1 := Lib.hid hb1
  have hz1 := blk_lt hb1
  obtain ⟨b0, b1, b2, b3, b4, b5, bf⟩ := blk6 hb1
  clear hx1 hb1 HA
  by_cases hd : 16 < e.depth
  · rw [decide_eq_true hd]
    have H1 := Lib.hid (show B = false by rw [HQ.out]; simp [hd])
    clear hd
    go_wp2_with fail
    go_ret
    exact givesE_bool (by rw [H1.out]) HX1.out
  · rw [decide_eq_false hd]
    have HD := Lib.hid hd
    clear hd
    go_wp2_with fail
    refine (rsize_calls e.size e _ _ (Nat.le_refl _) (HE.out.ext HX1.out)).mono ?_
    rintro r w2 ⟨rfl, hx2⟩
    have HX2 := Lib.hid (HX1.out.trans hx2)
    have hb2 := hx2.blk HB1.out
    have hz2 := blk_lt hb2
    clear b0 b1 b2 b3 b4 b5 bf hx2
    obtain ⟨b0, b1, b2, b3, b4, b5, bf⟩ := blk6 hb2
    clear hb2
    by_cases hs : refSize e ≤ 300
    · have t1 : decide ((refSize e : Int) ≤ 300) = true := by simp; omega
      have HS := Lib.hid hs
      clear hs
      go_wp2_with fail
      refine (nodes_calls e.size e _ _ (Nat.le_refl _) hsz HF.out HW.out (HE.out.ext HX2.out)).mono ?_
      rintro r w3 ⟨rfl, hx3⟩
      have HX3 := Lib.hid (HX2.out.trans hx3)
      clear b0 b1 b2 b3 b4 b5 bf hx3
      go_wp2_with fail
      go_ret
      exact givesE_bool (by rw [HQ.out]; simp [HD.out, HS.out]) HX3.out
    · have t1 : decide ((refSize e : Int) ≤ 300) = false := by simp; omega
      have H1 := Lib.hid (show B = false by rw [HQ.out]; simp [hs])
      clear hs
      go_wp2_with fail
      go_ret
      exact givesE_bool (by rw [H1.out]) HX2.out
end Go.Proofs.YtaepiiediblleaaGreatDoor

namespace Go.Proofs.YtaepiiediblleaaGreatDoor

def nameT (s : ByteArray) : Tok := ⟨1, s, 0, 0⟩
def markT (c : UInt8) : Tok := ⟨4, ⟨#[c]⟩, 0, 0⟩
def numT (n : Int) : Tok := ⟨2, ⟨#[]⟩, n, 0⟩
def wTo : ByteArray := ⟨#[116, 111]⟩

/-- Names with commas between them. -/
def listedT : List ByteArray → List Tok
  | [] => []
  | [s] => [nameT s]
  | s :: r => nameT s :: markT 44 :: listedT r

def paren (op aop : Int) : Bool := aop == 8 || (aop == 7 && op != 8)
mutual
/-- The tokens of an expression. -/
def tokE : Ex → List Tok
  | .mk op name words lo hi args =>
    if op = 1 then [nameT wTrue] else if op = 2 then [nameT wFalse] else if op = 3 then [nameT name] else
    if op = 4 then [nameT name, nameT wIn, markT 40] ++ listedT words ++ [markT 41] else
    if op = 5 then [nameT name, nameT wFrom, numT lo, nameT wTo, numT hi] else
    (if op = 6 then [nameT wNot] else []) ++ tokArgs op args
def tokArgs (op : Int) : List Ex → List Tok
  | [] => []
  | a :: r => (if paren op a.op then [markT 40] ++ tokE a ++ [markT 41] else tokE a) ++ tokMore op r
def tokMore (op : Int) : List Ex → List Tok
  | [] => []
  | a :: r => [nameT (if op = 7 then wAnd else wOr)] ++ (if paren op a.op then [markT 40] ++ tokE a ++ [markT 41] else tokE a) ++ tokMore op r
end

/-- From the k-th token on these tokens stand in the list, wherever in the text. -/
def AtT (toks : List Tok) : Nat → List Tok → Prop
  | _, [] => True
  | k, x :: r => (∃ p, toks[k]? = some ⟨x.kind, x.text, x.num, p⟩) ∧ AtT toks (k + 1) r
theorem AtT.append {toks : List Tok} : (l m : List Tok) → (k : Nat) → AtT toks k (l ++ m) ↔ AtT toks k l ∧ AtT toks (k + l.length) m
  | [], m, k => by simp [AtT]
  | x :: r, m, k => by
    simp only [List.cons_append, AtT, AtT.append r m (k + 1), List.length_cons]
    rw [show k + 1 + r.length = k + (r.length + 1) by omega]
    exact and_assoc.symm

theorem accept_at {toks : List Tok} {k : Nat} {kind : Int} {text : ByteArray} {x : Tok} (h : ∃ p, toks[k]? = some ⟨x.kind, x.text, x.num, p⟩) : acceptB toks k kind text = ((x.kind == kind) && decide (x.text = text)) := by
  obtain ⟨p, h⟩ := h; rw [acceptB, h]
theorem nameTok_at {toks : List Tok} {k : Nat} {x : Tok} (h : ∃ p, toks[k]? = some ⟨x.kind, x.text, x.num, p⟩) : nameTokB toks k = ((x.kind == 1) && nameB x.text) := by
  obtain ⟨p, h⟩ := h; rw [nameTokB, h]
theorem text_at {toks : List Tok} {k : Nat} {x : Tok} (h : ∃ p, toks[k]? = some ⟨x.kind, x.text, x.num, p⟩) : textAt toks k = x.text := by
  obtain ⟨p, h⟩ := h; rw [textAt, h]

/-- The fields of a node are those of its operator. -/
def okNode (e : Ex) : Prop :=
  (e.op = 1 ∧ e.name = ⟨#[]⟩ ∧ e.words = [] ∧ e.lo = 0 ∧ e.hi = 0 ∧ e.args = []) ∨ (e.op = 2 ∧ e.name = ⟨#[]⟩ ∧ e.words = [] ∧ e.lo = 0 ∧ e.hi = 0 ∧ e.args = []) ∨
  (e.op = 3 ∧ nameB e.name = true ∧ e.words = [] ∧ e.lo = 0 ∧ e.hi = 0 ∧ e.args = []) ∨ (e.op = 4 ∧ nameB e.name = true ∧ wordsB e.words = true ∧ e.lo = 0 ∧ e.hi = 0 ∧ e.args = []) ∨
  (e.op = 5 ∧ nameB e.name = true ∧ e.words = [] ∧ numberB e.lo = true ∧ numberB e.hi = true ∧ e.lo ≤ e.hi ∧ e.args = []) ∨
  (e.op = 6 ∧ e.name = ⟨#[]⟩ ∧ e.words = [] ∧ e.lo = 0 ∧ e.hi = 0 ∧ e.args.length = 1) ∨
  ((e.op = 7 ∨ e.op = 8) ∧ e.name = ⟨#[]⟩ ∧ e.words = [] ∧ e.lo = 0 ∧ e.hi = 0 ∧ 2 ≤ e.args.length)
mutual
def okTree : Ex → Prop
  | .mk op name words lo hi args => okNode (.mk op name words lo hi args) ∧ okTrees args
def okTrees : List Ex → Prop
  | [] => True
  | e :: r => okTree e ∧ okTrees r
end

theorem nameB_word {s : ByteArray} (h : nameB s = true) : s ≠ wTrue ∧ s ≠ wFalse ∧ s ≠ wNot ∧ s ≠ wIn ∧ s ≠ wFrom ∧ s ≠ wAnd ∧ s ≠ wOr ∧ s ≠ wTo := by
  simp only [nameB, Bool.and_eq_true, Bool.not_eq_true'] at h
  have h := h.2
  refine ⟨?_, ?_, ?_, ?_, ?_, ?_, ?_, ?_⟩ <;> (rintro rfl; revert h; decide +kernel)

/-- What follows: no and, no or (no list, no range either). -/
def Ends (toks : List Tok) (k : Nat) : Prop := acceptB toks k 1 wAnd = false ∧ acceptB toks k 1 wOr = false ∧ acceptB toks k 1 wIn = false ∧ acceptB toks k 1 wFrom = false

theorem list_read {toks : List Tok} : (ws : List ByteArray) → ws ≠ [] → (k f : Nat) → (acc : List ByteArray) → AtT toks k (listedT ws ++ [markT 41]) → (acc ++ ws).length ≤ 12 → (∀ x ∈ ws, nameB x = true) → (acc ++ ws).Nodup → ws.length ≤ f →
    listLoop toks f k acc = (acc ++ ws, 0, k + (listedT ws).length + 1)
  | [], h, _, _, _, _, _, _, _, _ => absurd rfl h
  | [s], _, k, f, acc, hat, hl, hn, hd, hf => by
    obtain ⟨f, rfl⟩ : ∃ g, f = g + 1 := ⟨f - 1, by simp at hf; omega⟩
    simp only [listedT, List.cons_append, List.nil_append, AtT] at hat
    obtain ⟨h1, h2, _⟩ := hat
    have hs := hn s (by simp)
    have hm : s ∉ acc := by
      rw [List.nodup_append] at hd
      exact fun h => hd.2.2 s h s (by simp) rfl
    rw [listLoop, if_neg (by rw [nameTok_at h1]; simp [nameT, hs]), if_neg (by simp at hl; omega), if_neg (by rw [text_at h1]; exact hm), if_neg (by rw [accept_at h2]; simp [markT]), if_pos (by rw [accept_at h2]; simp [markT]), text_at h1]
    simp [listedT, nameT]
  | s :: s2 :: r, _, k, f, acc, hat, hl, hn, hd, hf => by
    obtain ⟨f, rfl⟩ : ∃ g, f = g + 1 := ⟨f - 1, by simp at hf; omega⟩
    simp only [listedT, List.cons_append, AtT] at hat
    obtain ⟨h1, h2, h3⟩ := hat
    have hs := hn s (by simp)
    have hm : s ∉ acc := by
      rw [List.nodup_append] at hd
      exact fun h => hd.2.2 s h s (by simp) rfl
    rw [listLoop, if_neg (by rw [nameTok_at h1]; simp [nameT, hs]), if_neg (by simp at hl; omega), if_neg (by rw [text_at h1]; exact hm), if_pos (by rw [accept_at h2]; simp [markT]), text_at h1]
    have e : acc ++ [(nameT s).text] ++ (s2 :: r) = acc ++ s :: s2 :: r := by simp [nameT]
    rw [list_read (s2 :: r) (by simp) (k + 2) f (acc ++ [(nameT s).text]) h3 (by rw [e]; exact hl) (fun x hx => hn x (List.mem_cons_of_mem _ hx)) (by rw [e]; exact hd) (by simp at hf ⊢; omega), e]
    simp [listedT]
    omega
end Go.Proofs.YtaepiiediblleaaGreatDoor

namespace Go.Proofs.YtaepiiediblleaaGreatDoor

/-- The tokens of an argument. -/
def argT (op : Int) (a : Ex) : List Tok := if paren op a.op then [markT 40] ++ tokE a ++ [markT 41] else tokE a
theorem tokArgs_cons (op : Int) (a : Ex) (r : List Ex) : tokArgs op (a :: r) = argT op a ++ tokMore op r := by rw [tokArgs]; rfl
theorem tokMore_cons (op : Int) (a : Ex) (r : List Ex) : tokMore op (a :: r) = nameT (if op = 7 then wAnd else wOr) :: (argT op a ++ tokMore op r) := by rw [tokMore]; simp [argT]

/-- What follows is no word that goes on with an atom. -/
def NoTail (toks : List Tok) (k : Nat) : Prop := acceptB toks k 1 wIn = false ∧ acceptB toks k 1 wFrom = false
theorem noTail_name {toks : List Tok} {k : Nat} {s : ByteArray} (h : ∃ p, toks[k]? = some ⟨(nameT s).kind, (nameT s).text, (nameT s).num, p⟩) (h1 : s ≠ wIn) (h2 : s ≠ wFrom) : NoTail toks k := by
  constructor <;> (rw [accept_at h]; simp [nameT, h1, h2])
theorem noTail_mark {toks : List Tok} {k : Nat} {c : UInt8} (h : ∃ p, toks[k]? = some ⟨(markT c).kind, (markT c).text, (markT c).num, p⟩) : NoTail toks k := by
  constructor <;> (rw [accept_at h]; simp [markT])
theorem wAnd_ne : wAnd ≠ wIn ∧ wAnd ≠ wFrom ∧ wOr ≠ wIn ∧ wOr ≠ wFrom ∧ wOr ≠ wAnd ∧ wNot ≠ wTrue ∧ wNot ≠ wFalse := by decide +kernel
theorem ends_mark {toks : List Tok} {k : Nat} {c : UInt8} (h : ∃ p, toks[k]? = some ⟨(markT c).kind, (markT c).text, (markT c).num, p⟩) : acceptB toks k 1 wAnd = false ∧ acceptB toks k 1 wOr = false := by
  constructor <;> (rw [accept_at h]; simp [markT])

/-- What the tokens of an expression are read as. -/
def Reads (toks : List Tok) (e : Ex) : Prop := ∀ k, AtT toks k (tokE e) → NoTail toks (k + (tokE e).length) →
  (e.op ≠ 7 → e.op ≠ 8 → Gr toks .neg k [] e 0 (k + (tokE e).length)) ∧ (e.op = 7 → acceptB toks (k + (tokE e).length) 1 wAnd = false → Gr toks .ands k [] e 0 (k + (tokE e).length)) ∧
  (e.op = 8 → acceptB toks (k + (tokE e).length) 1 wAnd = false → acceptB toks (k + (tokE e).length) 1 wOr = false → Gr toks .ors k [] e 0 (k + (tokE e).length))

theorem Reads.ands {toks : List Tok} {e : Ex} (h : Reads toks e) (h8 : e.op ≠ 8) {k : Nat} (ha : AtT toks k (tokE e)) (ht : NoTail toks (k + (tokE e).length)) (h1 : acceptB toks (k + (tokE e).length) 1 wAnd = false) : Gr toks .ands k [] e 0 (k + (tokE e).length) := by
  by_cases h7 : e.op = 7
  · exact (h k ha ht).2.1 h7 h1
  · exact Gr.andStop (acc := []) ((h k ha ht).1 h7 h8) h1
theorem Reads.ors {toks : List Tok} {e : Ex} (h : Reads toks e) {k : Nat} (ha : AtT toks k (tokE e)) (ht : NoTail toks (k + (tokE e).length)) (h1 : acceptB toks (k + (tokE e).length) 1 wAnd = false) (h2 : acceptB toks (k + (tokE e).length) 1 wOr = false) : Gr toks .ors k [] e 0 (k + (tokE e).length) := by
  by_cases h8 : e.op = 8
  · exact (h k ha ht).2.2 h8 h1 h2
  · exact Gr.orStop (acc := []) (h.ands h8 ha ht h1) h2
theorem not_mark {toks : List Tok} {k : Nat} {c : UInt8} (h : ∃ p, toks[k]? = some ⟨(markT c).kind, (markT c).text, (markT c).num, p⟩) : acceptB toks k 1 wNot = false := by rw [accept_at h]; simp [markT]
/-- An expression in parentheses. -/
theorem Reads.parens {toks : List Tok} {e : Ex} (h : Reads toks e) {k : Nat} (ha : AtT toks k ([markT 40] ++ tokE e ++ [markT 41])) : Gr toks .neg k [] e 0 (k + ([markT 40] ++ tokE e ++ [markT 41]).length) := by
  rw [AtT.append, AtT.append] at ha
  obtain ⟨⟨h1, h2⟩, h3⟩ := ha
  have ho : ∃ p, toks[k]? = some ⟨(markT 40).kind, (markT 40).text, (markT 40).num, p⟩ := h1.1
  simp only [List.length_singleton] at h2
  have hl : k + ([markT 40] ++ tokE e).length = k + 1 + (tokE e).length := by simp; omega
  rw [hl] at h3
  have hc : ∃ p, toks[k + 1 + (tokE e).length]? = some ⟨(markT 41).kind, (markT 41).text, (markT 41).num, p⟩ := h3.1
  have hg := h.ors h2 (noTail_mark hc) (ends_mark hc).1 (ends_mark hc).2
  have := Gr.negAtom (not_mark ho) (Gr.parenOk (by rw [accept_at ho]; simp [markT]) hg (by rw [accept_at hc]; simp [markT]))
  rw [show k + ([markT 40] ++ tokE e ++ [markT 41]).length = k + 1 + (tokE e).length + 1 by simp; omega]
  exact this
/-- An argument of not, or of and. -/
theorem Reads.argNeg {toks : List Tok} {e : Ex} (h : Reads toks e) {op : Int} (hop : op ≠ 8) {k : Nat} (ha : AtT toks k (argT op e)) (ht : NoTail toks (k + (argT op e).length)) : Gr toks .neg k [] e 0 (k + (argT op e).length) := by
  unfold argT at *
  by_cases hp : paren op e.op = true
  · rw [if_pos hp] at *
    exact h.parens ha
  · rw [if_neg hp] at *
    simp only [paren, Bool.or_eq_true, Bool.and_eq_true, beq_iff_eq, bne_iff_ne, not_or, not_and] at hp
    exact (h k ha ht).1 (fun e7 => hp.2 e7 hop) hp.1
/-- An argument of or. -/
theorem Reads.argAnds {toks : List Tok} {e : Ex} (h : Reads toks e) {k : Nat} (ha : AtT toks k (argT 8 e)) (ht : NoTail toks (k + (argT 8 e).length)) (h1 : acceptB toks (k + (argT 8 e).length) 1 wAnd = false) : Gr toks .ands k [] e 0 (k + (argT 8 e).length) := by
  unfold argT at *
  by_cases hp : paren 8 e.op = true
  · rw [if_pos hp] at *
    exact Gr.andStop (acc := []) (h.parens ha) h1
  · rw [if_neg hp] at *
    simp only [paren, Bool.or_eq_true, Bool.and_eq_true, beq_iff_eq, bne_iff_ne, not_or, not_and] at hp
    exact h.ands hp.1 ha ht h1

/-- Arguments of and. -/
theorem ands_read {toks : List Tok} : (r : List Ex) → (a : Ex) → (∀ x ∈ a :: r, Reads toks x) → (acc : List Ex) → (k : Nat) → AtT toks k (argT 7 a ++ tokMore 7 r) → NoTail toks (k + (argT 7 a ++ tokMore 7 r).length) → acceptB toks (k + (argT 7 a ++ tokMore 7 r).length) 1 wAnd = false →
    Gr toks .ands k acc (joinE 7 (acc ++ a :: r)) 0 (k + (argT 7 a ++ tokMore 7 r).length)
  | [], a, hr, acc, k, ha, ht, h1 => by
    simp only [tokMore, List.append_nil] at *
    exact Gr.andStop ((hr a (by simp)).argNeg (by decide) ha ht) h1
  | b :: r, a, hr, acc, k, ha, ht, h1 => by
    rw [tokMore_cons, if_pos rfl, AtT.append] at ha
    obtain ⟨ha1, hw, ha2⟩ := ha
    have hlen : k + (argT 7 a ++ tokMore 7 (b :: r)).length = k + (argT 7 a).length + 1 + (argT 7 b ++ tokMore 7 r).length := by rw [tokMore_cons]; simp; omega
    rw [hlen] at ht h1 ⊢
    have hg := (hr a (by simp)).argNeg (op := 7) (by decide) ha1 (noTail_name hw wAnd_ne.1 wAnd_ne.2.1)
    have ih := ands_read r b (fun x hx => hr x (List.mem_cons_of_mem _ hx)) (acc ++ [a]) (k + (argT 7 a).length + 1) ha2 ht h1
    refine Gr.andStep hg (by rw [accept_at hw]; simp [nameT]) ?_
    simpa using ih
/-- Arguments of or. -/
theorem ors_read {toks : List Tok} : (r : List Ex) → (a : Ex) → (∀ x ∈ a :: r, Reads toks x) → (acc : List Ex) → (k : Nat) → AtT toks k (argT 8 a ++ tokMore 8 r) → NoTail toks (k + (argT 8 a ++ tokMore 8 r).length) → acceptB toks (k + (argT 8 a ++ tokMore 8 r).length) 1 wAnd = false → acceptB toks (k + (argT 8 a ++ tokMore 8 r).length) 1 wOr = false →
    Gr toks .ors k acc (joinE 8 (acc ++ a :: r)) 0 (k + (argT 8 a ++ tokMore 8 r).length)
  | [], a, hr, acc, k, ha, ht, h1, h2 => by
    simp only [tokMore, List.append_nil] at *
    exact Gr.orStop ((hr a (by simp)).argAnds ha ht h1) h2
  | b :: r, a, hr, acc, k, ha, ht, h1, h2 => by
    rw [tokMore_cons, if_neg (by decide), AtT.append] at ha
    obtain ⟨ha1, hw, ha2⟩ := ha
    have hlen : k + (argT 8 a ++ tokMore 8 (b :: r)).length = k + (argT 8 a).length + 1 + (argT 8 b ++ tokMore 8 r).length := by rw [tokMore_cons]; simp; omega
    rw [hlen] at ht h1 h2 ⊢
    have hg := (hr a (by simp)).argAnds ha1 (noTail_name hw wAnd_ne.2.2.1 wAnd_ne.2.2.2.1) (by rw [accept_at hw]; simp [nameT, wAnd_ne.2.2.2.2.1])
    have ih := ors_read r b (fun x hx => hr x (List.mem_cons_of_mem _ hx)) (acc ++ [a]) (k + (argT 8 a).length + 1) ha2 ht h1 h2
    refine Gr.orStep hg (by rw [accept_at hw]; simp [nameT]) ?_
    simpa using ih
theorem okTrees_mem {l : List Ex} (h : okTrees l) : ∀ x ∈ l, okTree x := by
  induction l with
  | nil => intro x hx; simp at hx
  | cons e r ih =>
    unfold okTrees at h
    intro x hx
    rcases List.mem_cons.1 hx with rfl | hx
    · exact h.1
    · exact ih h.2 x hx
theorem operand_gr {toks : List Tok} {k : Nat} {e : Ex} {n : Nat} (h1 : acceptB toks k 4 ⟨#[40]⟩ = false) (h2 : acceptB toks k 1 wNot = false) (h3 : operandF toks k = (⟨e, 1, 1⟩, 0, n)) : Gr toks .neg k [] e 0 n := by
  have := Gr.negAtom h2 (Gr.operand h1)
  rw [h3] at this
  exact this
theorem name_start {toks : List Tok} {k : Nat} {s : ByteArray} (h : ∃ p, toks[k]? = some ⟨(nameT s).kind, (nameT s).text, (nameT s).num, p⟩) (hs : s ≠ wNot) : acceptB toks k 4 ⟨#[40]⟩ = false ∧ acceptB toks k 1 wNot = false := by
  constructor <;> (rw [accept_at h]; simp [nameT, hs])
theorem reads_ok (toks : List Tok) (m : Nat) : ∀ e : Ex, e.size ≤ m → okTree e → Reads toks e := by
  induction m with
  | zero => intro e h; have := e.size_eq; omega
  | succ m ih =>
    intro e hm hok k ha ht
    have hsz := e.size_eq
    have hargs : ∀ x ∈ e.args, Reads toks x := fun x hx => ih x (by have := sizes_mem hx; omega) (by
      cases e; unfold okTree at hok; exact okTrees_mem hok.2 x hx)
    have hnode : okNode e := by cases e; unfold okTree at hok; exact hok.1
    obtain ⟨op, name, words, lo, hi, args⟩ := e
    simp only [Ex.op, Ex.name, Ex.words, Ex.lo, Ex.hi, Ex.args, okNode] at hnode hargs ⊢
    rcases hnode with ⟨rfl, rfl, rfl, rfl, rfl, rfl⟩ | ⟨rfl, rfl, rfl, rfl, rfl, rfl⟩ | ⟨rfl, hn, rfl, rfl, rfl, rfl⟩ | ⟨rfl, hn, hw, rfl, rfl, rfl⟩ | ⟨rfl, hn, rfl, hl, hh, hlh, rfl⟩ | ⟨rfl, rfl, rfl, rfl, rfl, hl⟩ | ⟨hop, rfl, rfl, rfl, rfl, hl⟩
    · refine ⟨fun _ _ => ?_, fun h => by simp at h, fun h => by simp at h⟩
      simp only [tokE, if_true, AtT] at ha ⊢
      have hs := name_start ha.1 (by decide +kernel)
      exact operand_gr hs.1 hs.2 (by rw [operandF, if_pos (by rw [accept_at ha.1]; simp [nameT])]; rfl)
    · refine ⟨fun _ _ => ?_, fun h => by simp at h, fun h => by simp at h⟩
      have e0 : tokE (.mk 2 ⟨#[]⟩ [] 0 0 []) = [nameT wFalse] := by simp [tokE]
      rw [e0] at ha ⊢
      simp only [AtT] at ha
      have hs := name_start ha.1 (by decide +kernel)
      exact operand_gr hs.1 hs.2 (by rw [operandF, if_neg (by rw [accept_at ha.1]; simp [nameT, (by decide +kernel : wFalse ≠ wTrue)]), if_pos (by rw [accept_at ha.1]; simp [nameT])]; rfl)
    · refine ⟨fun _ _ => ?_, fun h => by simp at h, fun h => by simp at h⟩
      have e0 : tokE (.mk 3 name [] 0 0 []) = [nameT name] := by simp [tokE]
      rw [e0] at ha ht ⊢
      simp only [AtT] at ha
      obtain ⟨n1, n2, n3, _⟩ := nameB_word hn
      have hs := name_start ha.1 n3
      refine operand_gr hs.1 hs.2 ?_
      rw [operandF, if_neg (by rw [accept_at ha.1]; simp [nameT, n1]), if_neg (by rw [accept_at ha.1]; simp [nameT, n2]), if_neg (by rw [nameTok_at ha.1]; simp [nameT, hn]), if_neg (by have := ht.1; simp at this; simp [this]), if_neg (by have := ht.2; simp at this; simp [this]), text_at ha.1]
      rfl
    · refine ⟨fun _ _ => ?_, fun h => by simp at h, fun h => by simp at h⟩
      have e0 : tokE (.mk 4 name words 0 0 []) = [nameT name, nameT wIn, markT 40] ++ (listedT words ++ [markT 41]) := by simp [tokE]
      rw [e0, AtT.append] at ha
      rw [e0] at ht ⊢
      obtain ⟨⟨a1, a2, a3, _⟩, a4⟩ := ha
      obtain ⟨n1, n2, n3, _⟩ := nameB_word hn
      have hs := name_start a1 n3
      simp only [wordsB, Bool.and_eq_true, bne_iff_ne, decide_eq_true_eq, List.all_eq_true] at hw
      have hlist : listF toks (k + 2) = (words, 0, k + ([nameT name, nameT wIn, markT 40] ++ (listedT words ++ [markT 41])).length) := by
        rw [listF, if_pos (by rw [accept_at a3]; simp [markT]), list_read words (fun e => hw.1.1.1 (by rw [e]; rfl)) (k + 3) 14 [] a4 (by simpa using hw.1.1.2) hw.1.2 (by simpa using hw.2) (by have := hw.1.1.2; omega)]
        simp
        omega
      refine operand_gr hs.1 hs.2 ?_
      rw [operandF, if_neg (by rw [accept_at a1]; simp [nameT, n1]), if_neg (by rw [accept_at a1]; simp [nameT, n2]), if_neg (by rw [nameTok_at a1]; simp [nameT, hn]), if_pos (by rw [accept_at a2]; simp [nameT]), hlist, text_at a1]
      rfl
    · refine ⟨fun _ _ => ?_, fun h => by simp at h, fun h => by simp at h⟩
      have e0 : tokE (.mk 5 name [] lo hi []) = [nameT name, nameT wFrom, numT lo, nameT wTo, numT hi] := by simp [tokE]
      rw [e0] at ha ht ⊢
      obtain ⟨a1, a2, ⟨p3, a3⟩, a4, ⟨p5, a5⟩, _⟩ := ha
      obtain ⟨n1, n2, n3, _⟩ := nameB_word hn
      have hs := name_start a1 n3
      have hb1 : boundF toks (k + 2) (-1000000000) = (lo, 0, k + 3) := by
        have hlo : -1000000000 ≤ lo := by simp [numberB] at hl; exact hl.1
        rw [boundF, a3]
        simp [numT, hl, hlo]
      have hb2 : boundF toks (k + 4) lo = (hi, 0, k + 5) := by
        rw [boundF, a5]
        simp [numT, hh, hlh]
      have hint : intervalF toks (k + 2) = (lo, hi, 0, k + 5) := by
        unfold intervalF
        simp only [hb1]
        rw [if_neg (by simp), if_neg (by rw [show (⟨#[116, 111]⟩ : ByteArray) = wTo from rfl, accept_at a4]; simp [nameT])]
        simp only [hb2]
      refine operand_gr hs.1 hs.2 ?_
      rw [operandF, if_neg (by rw [accept_at a1]; simp [nameT, n1]), if_neg (by rw [accept_at a1]; simp [nameT, n2]), if_neg (by rw [nameTok_at a1]; simp [nameT, hn]), if_neg (by rw [accept_at a2]; simp [nameT, (by decide +kernel : wFrom ≠ wIn)]), if_pos (by rw [accept_at a2]; simp [nameT]), hint, text_at a1]
      rfl
    · refine ⟨fun _ _ => ?_, fun h => by simp at h, fun h => by simp at h⟩
      obtain ⟨x, rfl⟩ : ∃ x, args = [x] := by
        match args, hl with
        | [x], _ => exact ⟨x, rfl⟩
      have e0 : tokE (.mk 6 ⟨#[]⟩ [] 0 0 [x]) = nameT wNot :: argT 6 x := by
        rw [tokE]; simp [tokArgs_cons, tokMore]
      rw [e0] at ha ht ⊢
      have hlen : k + (nameT wNot :: argT 6 x).length = k + 1 + (argT 6 x).length := by simp; omega
      rw [hlen] at ht ⊢
      exact Gr.notOk (by rw [accept_at ha.1]; simp [nameT]) ((hargs x (by simp)).argNeg (by decide) ha.2 ht)
    · obtain ⟨a, b, r, rfl⟩ : ∃ a b r, args = a :: b :: r := by
        match args, hl with
        | a :: b :: r, _ => exact ⟨a, b, r, rfl⟩
      rcases hop with rfl | rfl
      · have e0 : tokE (.mk 7 ⟨#[]⟩ [] 0 0 (a :: b :: r)) = argT 7 a ++ tokMore 7 (b :: r) := by rw [tokE]; simp [tokArgs_cons]
        rw [e0] at ha ht ⊢
        exact ⟨fun h => absurd rfl h, fun _ h1 => ands_read (b :: r) a hargs [] k ha ht h1, fun h => by simp at h⟩
      · have e0 : tokE (.mk 8 ⟨#[]⟩ [] 0 0 (a :: b :: r)) = argT 8 a ++ tokMore 8 (b :: r) := by rw [tokE]; simp [tokArgs_cons]
        rw [e0] at ha ht ⊢
        exact ⟨fun _ h => absurd rfl h, fun h => by simp at h, fun _ h1 h2 => ors_read (b :: r) a hargs [] k ha ht h1 h2⟩
/-- The tokens of an expression at the end of a list are read as the expression. -/
theorem run_ok {toks : List Tok} {e : Ex} {k : Nat} (hok : okTree e) (ha : AtT toks k (tokE e)) (hend : toks.length ≤ k + (tokE e).length) : run toks true k [] lvl0 = (partOf e, 0, k + (tokE e).length) := by
  have hno : ∀ kind text, acceptB toks (k + (tokE e).length) kind text = false := fun kind text => by rw [acceptB, List.getElem?_eq_none hend]
  have := Gr.run ((reads_ok toks e.size e (Nat.le_refl _) hok).ors ha ⟨hno _ _, hno _ _⟩ (hno _ _) (hno _ _))
  simpa using this
end Go.Proofs.YtaepiiediblleaaGreatDoor
