import Derived.Test.YtaepiiediblleaaDoorAwake
import Derived.Test.YtaepiiediblleaaDoorExs
namespace Go.Proofs.YtaepiiediblleaaDoor
open Go.RowKit

def nestE : Nat → Ex → Ex
  | 0, e => e
  | n + 1, e => .mk 6 ⟨#[]⟩ [] 0 0 [nestE n e]
def atomE (name : Bool) : Ex := if name then .mk 3 ⟨#[97]⟩ [] 0 0 [] else .mk 1 ⟨#[]⟩ [] 0 0 []
def atomV (name : Bool) : ExV := if name then ⟨3, ⟨#[97]⟩, none, 0, 0, 0, 0, none, 0, 0⟩ else ⟨1, ⟨#[]⟩, none, 0, 0, 0, 0, none, 0, 0⟩
theorem atom_is (w : World) (name : Bool) : IsEx w (atomE name) (atomV name).val := by
  cases name
  · exact isEx_plain w 1 0 0 ⟨#[]⟩
  · exact isEx_plain w 3 0 0 ⟨#[97]⟩

/-- After k rounds: e is k times negated. -/
def DeepI (name : Bool) (w : World) (i : Value) (wr : World) : Prop := ∃ (k : Nat) (x : ExV), k ≤ 15 ∧ i = .int .i64 ((k : Int) + 1) ∧ wr.heap[w.heap.size]? = some (.cells x.cells.toArray 26 (0, 0)) ∧ IsEx (mask wr [w.heap.size]) (nestE k (atomE name)) x.val ∧ Ext w wr

theorem deep_valid : ∀ b, validB (nestE 15 (atomE b)) = true ∧ validB (nestE 16 (atomE b)) = false ∧ (nestE 16 (atomE b)).depth = 17 ∧ (nestE 16 (atomE b)).size ≤ 17 := by decide +kernel
theorem atom_fits (b : Bool) : (atomE b).fits := by cases b <;> simp [atomE, Ex.fits, fitsAll] <;> decide
theorem nest_fits (n : Nat) (b : Bool) : (nestE n (atomE b)).fits := by
  induction n with
  | zero => exact atom_fits b
  | succ n ih => simp only [nestE, Ex.fits, fitsAll]; exact ⟨by decide, by simp, ih, trivial⟩

def notV (g : Nat) : ExV := ⟨6, ⟨#[]⟩, none, 0, 0, 0, 0, some ⟨g, 0, none⟩, 1, 1⟩
theorem deep_step {w wr : World} {e : Ex} {x : ExV} {B : Nat} (hb : wr.heap[B]? = some (.cells x.cells.toArray 26 (0, 0))) (hx : IsEx (mask wr [B]) e x.val) (hE : Ext w wr) (hB : w.heap.size ≤ B) :
    ((put6 wr B (notV wr.heap.size)).alloc (.cells x.cells.toArray 26)).heap[B]? = some (.cells (notV wr.heap.size).cells.toArray 26 (0, 0)) ∧
    IsEx (mask ((put6 wr B (notV wr.heap.size)).alloc (.cells x.cells.toArray 26)) [B]) (.mk 6 ⟨#[]⟩ [] 0 0 [e]) (notV wr.heap.size).val ∧ Ext w ((put6 wr B (notV wr.heap.size)).alloc (.cells x.cells.toArray 26)) := by
  have hlt := blk_lt hb
  have h1 := put6_blk hb (notV wr.heap.size)
  have hc : Chg [B] wr (put6 wr B (notV wr.heap.size)) := put6_chg _ _ _ (by simp)
  have hs := put6_size wr B (notV wr.heap.size)
  generalize put6 wr B (notV wr.heap.size) = w6 at *
  have hn := alloc_new w6 (.cells x.cells.toArray 26)
  rw [hs] at hn
  exact ⟨blk_alloc h1, isEx_not hn (by simp; omega) (hx.mono (hc.alloc _).sub), (hc.alloc _).ext hE (by simpa using hB)⟩

set_option maxRecDepth 100000 in
set_option maxHeartbeats 1000000 in
theorem deep_calls (name : Bool) (w : World) (ho : HasOps w) : Calls Tryd.prog 5 #[.bool true, .bool name] w (GivesE (.bool true) w) := by
  have HO := Lib.hid ho
  clear ho
  obtain ⟨nb, hnb⟩ : ∃ nb, nb = name := ⟨_, rfl⟩
  have HNB := Lib.hid hnb
  clear hnb
  have body : ∀ (W : World), W.heap[w.heap.size]? = some (.cells (atomV nb).cells.toArray 26 (0, 0)) → Ext w W → DeepI nb w (.int .i64 1) W := fun W h1 h2 => ⟨0, atomV nb, by omega, rfl, h1, atom_is _ nb, h2⟩
  have BODY := Lib.hid body
  clear body
  cases name
  all_goals
    go_enter Tryd.func5, Tryd.ntmps5
    go_wp2_with fail
    go_loopw [6] (DeepI nb w) (fun i _ => 16 - (intOf i).toNat)
    case atStart =>
      refine BODY.out _ ?_ ((Ext.refl w).alloc _)
      rw [HNB.out]
      exact alloc_new w _
    case round =>
      obtain ⟨k, x, hk, rfl, hb, hx, hE⟩ := hrel
      have HB := Lib.hid hb
      have HX := Lib.hid hx
      have HE := Lib.hid hE
      have hlt := blk_lt hb
      have HST := Lib.hid (deep_step hb hx hE (Nat.le_refl _))
      unfold ExV.cells at hb
      obtain ⟨b0, b1, b2, b3, b4, b5, bf⟩ := blk6 hb
      clear hb hx hE
      by_cases hk15 : k < 15
      · go_wp2_with fail
        go_roundw
        case rel =>
          have st := HST.out
          exact ⟨k + 1, notV wr.heap.size, by omega, by go_num, st.1, st.2.1, st.2.2⟩
        case measure => simp [intOf]; omega
      · obtain rfl : k = 15 := by omega
        have hW : ∀ (x : ExV), Ext wr ((wr.alloc (.cells x.cells.toArray 26)).alloc (.cells (notV wr.heap.size).cells.toArray 26)) := fun x => ((Ext.refl wr).alloc _).alloc _
        have H15 := Lib.hid (HX.out.mono ((mask_sub _ _).trans (hW x).sub))
        have H16 := Lib.hid ((isEx_not (M := []) (blk_alloc (o' := .cells (notV wr.heap.size).cells.toArray 26) (alloc_new wr (.cells x.cells.toArray 26))) (by simp) (HX.out.mono ((mask_sub _ _).trans ((hW x).sub.trans (fun p v h => by rw [mask_cell, if_neg (by simp)]; exact h))))).mono (mask_sub _ _))
        have HW := Lib.hid (hW x)
        have hbf0 := alloc_new (wr.alloc (.cells x.cells.toArray 26)) (.cells (notV wr.heap.size).cells.toArray 26)
        rw [show (wr.alloc (.cells x.cells.toArray 26)).heap.size = wr.heap.size + 1 by simp] at hbf0
        have HBF := Lib.hid hbf0
        clear hbf0
        clear hW HST
        go_wp2_with fail
        refine (Valid_calls (nestE 15 (atomE nb)) _ _ H15.out (HO.out.ext (HE.out.trans HW.out)) (nest_fits 15 nb)).mono ?_
        rintro r w1 ⟨rfl, hx1⟩
        rw [(deep_valid nb).1]
        have HX1 := Lib.hid hx1
        have hbf := hx1.blk HBF.out
        have hltf := blk_lt hbf
        have HBF1 := Lib.hid hbf
        unfold notV ExV.cells at hbf
        clear b0 b1 b2 b3 b4 b5 bf hx1
        obtain ⟨b0, b1, b2, b3, b4, b5, bf⟩ := blk6 hbf
        clear hbf
        go_wp2_with fail
        refine (Valid_calls (nestE 16 (atomE nb)) _ _ (H16.out.ext HX1.out) (HO.out.ext ((HE.out.trans HW.out).trans HX1.out)) (nest_fits 16 nb)).mono ?_
        rintro r w2 ⟨rfl, hx2⟩
        rw [(deep_valid nb).2.1]
        have HX2 := Lib.hid (HX1.out.trans hx2)
        have hbf := hx2.blk HBF1.out
        have hltf := blk_lt hbf
        unfold notV ExV.cells at hbf
        clear b0 b1 b2 b3 b4 b5 bf hx2
        obtain ⟨b0, b1, b2, b3, b4, b5, bf⟩ := blk6 hbf
        clear hbf
        go_wp2_with fail
        refine (depth_calls 17 (nestE 16 (atomE nb)) _ _ (deep_valid nb).2.2.2 (by omega) (H16.out.ext HX2.out)).mono ?_
        rintro r w3 ⟨rfl, hx3⟩
        rw [(deep_valid nb).2.2.1]
        have HX3 := Lib.hid ((HE.out.trans HW.out).trans (HX2.out.trans hx3))
        clear b0 b1 b2 b3 b4 b5 bf hx3
        go_wp2_with fail
        refine (awake_calls _ (HO.out.ext HX3.out)).mono ?_
        rintro r w4 ⟨rfl, hx4⟩
        go_wp2_with fail
        go_ret
        exact ⟨rfl, HX3.out.trans hx4⟩
end Go.Proofs.YtaepiiediblleaaDoor
