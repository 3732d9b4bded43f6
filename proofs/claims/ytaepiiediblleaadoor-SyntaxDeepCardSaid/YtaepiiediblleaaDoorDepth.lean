import Derived.Test.YtaepiiediblleaaDoorGram
namespace Go.Proofs.YtaepiiediblleaaDoor
open Go.RowKit

def DepthQ (e : Ex) (w : World) (r : Ending) (w' : World) : Prop := r = .returned (.int .i64 e.depth) ∧ Ext w w'

set_option maxRecDepth 100000 in
theorem depth_calls (m : Nat) : ∀ (e : Ex) (v : Value) (w : World), e.size ≤ m → m ≤ 1000000000000000 → IsEx w e v → Calls Tryd.prog 15 #[v] w (DepthQ e w) := by
  induction m with
  | zero => intro e v w h; cases e; simp [Ex.size] at h
  | succ m ih =>
    intro e v w hm hM he
    obtain ⟨aw, nw, cw, aa, na, ca, rfl, hw, hna, hca, ha, hx⟩ := he.parts
    have hse := e.size_eq
    have hde := e.depth_eq
    have hlen := length_le_sizes e.args
    have H : Hid (∀ (e : Ex) (v : Value) (w : World), e.size ≤ m → IsEx w e v → Calls Tryd.prog 15 #[v] w (DepthQ e w)) := fun e v w h1 h2 => ih e v w h1 (by omega) h2
    have HX := Lib.hid hx
    have HN := Lib.hid hna
    have HS := Lib.hid hde
    have hb1 : na ≤ m := by omega
    have hb2 : 1 + sizes e.args ≤ m + 1 := by omega
    clear ih hx hna hw hca ha he hse hm hlen hde
    unfold exV
    go_enter Tryd.func15, Tryd.ntmps15
    go_wp2_with fail
    go_loopw [3, 9] (fun s i wr => ∃ k : Nat, k ≤ na ∧ i = .int .i64 k ∧ s = .int .i64 (depths (e.args.take k) : Int) ∧ Ext w wr) (fun _ i _ => na - (intOf i).toNat)
    case atStart => exact ⟨0, by omega, rfl, by simp [depths], (Ext.refl w).alloc _⟩
    case round =>
      obtain ⟨k, hk, rfl, rfl, hb⟩ := hrel
      have hsz := sizes_take_le e.args k
      have hdz := depths_le (e.args.take k)
      by_cases hlt : k < na
      · have hlt' : k < e.args.length := by have := HN.out; omega
        obtain ⟨b, off, rfl, aw1, nw1, cw1, aa1, na1, ca1, h0, h1, h2, h3, h4, h5, h6⟩ := ExsD.at e.args _ (ExsD.ext hb e.args _ HX.out) k hlt'
        have hs1 := Lib.hid (sizes_take_succ e.args k hlt')
        have hd1 := Lib.hid (depths_take_succ e.args k hlt')
        have hs2 := sizes_take_le e.args (k + 1)
        have H6 := Lib.hid h6
        clear h6
        have hk1 : e.args[k].size ≤ m := by have := hs1.out; omega
        have hk2 := e.args[k].depth_le
        go_wp2_with fail
        refine (H.out e.args[k] _ _ hk1 (H6.out.ext ((Ext.refl wr).alloc _))).mono ?_
        rintro r w1 ⟨rfl, hb1⟩
        go_wp2_with fail
        go_roundw
        case rel => exact ⟨k + 1, by omega, by go_num, by rw [hd1.out]; congr 1; split <;> omega, hb.trans ((((Ext.refl wr).alloc _)).trans hb1)⟩
        case measure => simp [intOf]; omega
      · have hkn := Lib.hid (show k = e.args.length by have := HN.out; omega)
        go_wp2_with fail
        go_ret
        refine ⟨?_, hb⟩
        rw [HS.out, hkn.out]
        simp
end Go.Proofs.YtaepiiediblleaaDoor
