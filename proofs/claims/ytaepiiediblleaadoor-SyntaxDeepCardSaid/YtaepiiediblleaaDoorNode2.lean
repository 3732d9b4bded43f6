import Derived.Test.YtaepiiediblleaaDoorNode1
namespace Go.Proofs.YtaepiiediblleaaDoor
open Go.RowKit

/-- The table of the operators: the words, whether they have a name, how many arguments, and how strongly they bind. -/
def opWord (k : Nat) : ByteArray := ⟨(([[], [116, 114, 117, 101], [102, 97, 108, 115, 101], [], [105, 110], [102, 114, 111, 109], [110, 111, 116], [97, 110, 100], [111, 114]] : List (List UInt8)).getD k []).toArray⟩
def opNamed (k : Nat) : Bool := [false, false, false, true, true, true, false, false, false].getD k false
def opLeast (k : Nat) : Int := [0, 0, 0, 0, 0, 0, 1, 2, 2].getD k 0
def opMost (k : Nat) : Int := [0, 0, 0, 0, 0, 0, 1, 300, 300].getD k 0
def opBinds (k : Nat) : Int := [0, 0, 0, 0, 0, 0, 3, 2, 1].getD k 0

/-- The package-level table lies where the program has it. -/
def HasOps (w : World) : Prop := ∀ k, k < 9 → w.cell? ⟨0, k * 5, none⟩ = some (.string (opWord k)) ∧ w.cell? ⟨0, k * 5 + 1, none⟩ = some (.bool (opNamed k)) ∧
  w.cell? ⟨0, k * 5 + 2, none⟩ = some (.int .i64 (opLeast k)) ∧ w.cell? ⟨0, k * 5 + 3, none⟩ = some (.int .i64 (opMost k)) ∧ w.cell? ⟨0, k * 5 + 4, none⟩ = some (.int .i64 (opBinds k))

theorem block_lt {w : World} {p : Addr} {v : Value} (hp : w.cell? p = some v) : p.block < w.heap.size := by
  unfold World.cell? at hp
  by_cases hlt : p.block < w.heap.size
  · exact hlt
  · rw [Array.getElem?_eq_none (by omega)] at hp; cases hp
theorem HasOps.ext {w w' : World} (h : HasOps w) (he : Ext w w') : HasOps w' := fun k hk =>
  ⟨he.cell (h k hk).1, he.cell (h k hk).2.1, he.cell (h k hk).2.2.1, he.cell (h k hk).2.2.2.1, he.cell (h k hk).2.2.2.2⟩

def nodeB (e : Ex) : Bool :=
  decide (1 ≤ e.op ∧ e.op ≤ 8) && (decide (opLeast e.op.toNat ≤ e.args.length) && decide ((e.args.length : Int) ≤ opMost e.op.toNat)) &&
  (if opNamed e.op.toNat then nameB e.name else e.name.toList.isEmpty) && (if e.op == 4 then wordsB e.words else e.words.isEmpty) &&
  (if e.op == 5 then numberB e.lo && numberB e.hi && decide (e.lo ≤ e.hi) else (e.lo == 0) && (e.hi == 0))


theorem nodeB_eq (op lo hi : Int) (name : ByteArray) (words : List ByteArray) (args : List Ex) (nw na : Nat) (h1 : nw = words.length) (h2 : na = args.length) : nodeB (.mk op name words lo hi args) =
  (decide (1 ≤ op ∧ op ≤ 8) && (decide (opLeast op.toNat ≤ na) && decide ((na : Int) ≤ opMost op.toNat)) &&
  (if opNamed op.toNat then nameB name else name.toList.isEmpty) && (if op == 4 then wordsB words else decide (nw = 0)) &&
  (if op == 5 then numberB lo && numberB hi && decide (lo ≤ hi) else (lo == 0) && (hi == 0))) := by
  subst h1 h2
  have : words.isEmpty = decide (words.length = 0) := by cases words <;> simp
  simp only [nodeB, Ex.op, Ex.name, Ex.words, Ex.lo, Ex.hi, Ex.args, this]
  rfl
theorem nodeB_nat (k : Nat) (lo hi : Int) (name : ByteArray) (words : List ByteArray) (args : List Ex) (nw na : Nat) (h1 : nw = words.length) (h2 : na = args.length) (hk : 1 ≤ k ∧ k < 9) : nodeB (.mk k name words lo hi args) =
  ((decide (opLeast k ≤ na) && decide ((na : Int) ≤ opMost k)) &&
  (if opNamed k then nameB name else name.toList.isEmpty) && (if (k : Int) == 4 then wordsB words else decide (nw = 0)) &&
  (if (k : Int) == 5 then numberB lo && numberB hi && decide (lo ≤ hi) else (lo == 0) && (hi == 0))) := by
  rw [nodeB_eq _ _ _ _ _ _ nw na h1 h2, Int.toNat_natCast, decide_eq_true (show 1 ≤ (k : Int) ∧ (k : Int) ≤ 8 by omega), Bool.true_and]

set_option maxRecDepth 100000 in
set_option maxHeartbeats 1000000 in
theorem node_calls (e : Ex) (v : Value) (w : World) (he : IsEx w e v) (ho : HasOps w) (hs : e.name.size ≤ 1000000000000000) (hws : ∀ x ∈ e.words, x.size ≤ 1000000000000000) :
    Calls Tryd.prog 58 #[v] w (GivesE (.bool (nodeB e)) w) := by
  obtain ⟨aw, nw, cw, aa, na, ca, rfl, hw, hna, hca, ha, hx⟩ := he.parts
  clear he hx ha hca
  have HNW := Lib.hid hw.1
  have HNA := Lib.hid hna
  have HW := Lib.hid hw
  have HS := Lib.hid hws
  clear hw hws hna
  obtain ⟨op, name, words, lo, hi, args⟩ := e
  simp only [Ex.op, Ex.name, Ex.words, Ex.lo, Ex.hi, Ex.args] at *
  unfold exV
  by_cases h1 : 1 ≤ op
  · by_cases h8 : op ≤ 8
    · obtain ⟨k, rfl⟩ := Int.eq_ofNat_of_zero_le (show 0 ≤ op by omega)
      have hk : k < 9 := by omega
      obtain ⟨o0, o1, o2, o3, o4⟩ := ho k hk
      have hbk := block_lt o0
      simp only at hbk
      clear ho
      have HB := Lib.hid (nodeB_nat k lo hi name words args nw na HNW.out HNA.out (by omega))
      generalize nodeB (.mk k name words lo hi args) = B at *
      have hl1 : (0 : Int) ≤ opLeast k := by unfold opLeast; match k, hk with | 0, _ | 1, _ | 2, _ | 3, _ | 4, _ | 5, _ | 6, _ | 7, _ | 8, _ => decide
      generalize opLeast k = ol, opMost k = om, opNamed k = on, opWord k = ow, opBinds k = ob at *
      have t1 : decide ((k : Int) < 1) = false := by simp; omega
      have t2 : decide (8 < (k : Int)) = false := by simp; omega
      by_cases h2 : ol ≤ na
      · by_cases h3 : (na : Int) ≤ om
        · have t3 : decide ((na : Int) < ol) = false := by simp; omega
          have t4 : decide (om < (na : Int)) = false := by simp; omega
          go_enter Tryd.func58, Tryd.ntmps58
          go_wp2_with (first
            | (go_at_call 82; refine (name_calls _ _ hs).mono ?_; rintro e w' ⟨rfl, rfl⟩)
            | (go_at_call 83; refine (words_calls words _ _ _ _ (HW.out.ext (((Ext.refl w).alloc _).alloc _)) HS.out).mono ?_; rintro e w' ⟨rfl, rfl⟩)
            | (go_at_call 84; refine (number_calls _ _).mono ?_; rintro e w' ⟨rfl, rfl⟩))
          all_goals (go_ret; exact givesE_bool (by rw [HB.out]; simp_all; try omega) (((Ext.refl w).alloc _).alloc _))
        · have H := Lib.hid (show B = false by rw [HB.out]; simp [h3])
          have t3 : decide ((na : Int) < ol) = false := by simp; omega
          have t4 : decide (om < (na : Int)) = true := by simp; omega
          go_enter Tryd.func58, Tryd.ntmps58
          go_wp2_with fail
          go_ret
          exact givesE_bool (by rw [H.out]) (((Ext.refl w).alloc _).alloc _)
      · have H := Lib.hid (show B = false by rw [HB.out]; simp [h2])
        have t3 : decide ((na : Int) < ol) = true := by simp; omega
        go_enter Tryd.func58, Tryd.ntmps58
        go_wp2_with fail
        go_ret
        exact givesE_bool (by rw [H.out]) (((Ext.refl w).alloc _).alloc _)
    · have H := Lib.hid (show nodeB (.mk op name words lo hi args) = false by rw [nodeB_eq op lo hi name words args nw na HNW.out HNA.out]; simp [h8])
      have t1 : decide (op < 1) = false := by simp; omega
      have t2 : decide (8 < op) = true := by simp; omega
      go_enter Tryd.func58, Tryd.ntmps58
      go_wp2_with fail
      go_ret
      exact givesE_bool (by rw [H.out]) ((Ext.refl w).alloc _)
  · have H := Lib.hid (show nodeB (.mk op name words lo hi args) = false by rw [nodeB_eq op lo hi name words args nw na HNW.out HNA.out]; simp [h1])
    have t1 : decide (op < 1) = true := by simp; omega
    go_enter Tryd.func58, Tryd.ntmps58
    go_wp2_with fail
    go_ret
    exact givesE_bool (by rw [H.out]) ((Ext.refl w).alloc _)
end Go.Proofs.YtaepiiediblleaaDoor
