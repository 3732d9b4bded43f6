/-
  Texts of the claim, joined: RFormat.
-/
import Derived.Test.YtaepiiediblleaaGreatDoorFo19
import Derived.Test.YtaepiiediblleaaGreatDoorFo26
namespace Go.Proofs.YtaepiiediblleaaGreatDoor
open Go.RowKit

set_option maxRecDepth 100000 in
set_option maxHeartbeats 2000000 in
theorem rformat_calls (e : Ex) (ev : Value) (w : World) (he : IsEx w e ev) (hsz : e.size ≤ 1000000000000000) (hf : e.fits) (hfew : e.few) : Calls Tryz.prog 10 #[ev] w (JoinQ (fmtR e).1 (fmtR e).2 w) := by
  obtain ⟨aw, nw, cw, aa, na, ca, rfl, hw, hna, hca, ha, hx⟩ := he.parts
  have HX := Lib.hid ((Ext.refl w).alloc (.cells #[.int .i64 e.op, .string e.name, .slice aw nw cw, .int .i64 e.lo, .int .i64 e.hi, .slice aa na ca] 28))
  have HBX := Lib.hid (alloc_new w (.cells #[.int .i64 e.op, .string e.name, .slice aw nw cw, .int .i64 e.lo, .int .i64 e.hi, .slice aa na ca] 28))
  have HE := Lib.hid (he.ext HX.out)
  have HOK := Lib.hid (show e.fits ∧ e.few from ⟨hf, hfew⟩)
  have HR := Lib.hid (show fmtR e = if validB e then joinR (tokE e) else ([], 5) from rfl)
  clear hw hna hca ha hx he hf hfew
  unfold exV at *
  go_enter Tryz.func10, Tryz.ntmps10
  go_wp2_with fail
  generalize w.alloc (.cells #[.int .i64 e.op, .string e.name, .slice aw nw cw, .int .i64 e.lo, .int .i64 e.hi, .slice aa na ca] 28) = wb at *
  refine (rexpr_calls e _ _ HE.out (by omega) HOK.out.1 HOK.out.2).mono ?_
  rintro r w1 ⟨rfl, hx1⟩
  have hb1 := hx1.blk HBX.out
  have hlt := blk_lt hb1
  obtain ⟨b0, b1, b2, b3, b4, b5, bf⟩ := blk6 hb1
  have HX1 := Lib.hid (HX.out.trans hx1)
  have HE1 := Lib.hid (HE.out.ext hx1)
  clear hx1 hb1
  rw [← validB_ref]
  cases hv : validB e with
  | false =>
    rw [hv] at HR
    go_wp2_with fail
    go_ret2
    rw [HR.out]
    exact ⟨rfl, HX1.out⟩
  | true =>
    rw [hv] at HR
    obtain ⟨hok, hdp, hs3⟩ := (valid_ok e).1 hv
    have HGD := Lib.hid (good_tokE e.size e (Nat.le_refl _) hok)
    have hlen := tokE_len e hok
    clear hok hv
    go_wp2_with fail
    refine (tokens_calls 300 (by omega) e [] (.slice none 0 0) w1.heap.size w1 _ hs3 (HE1.out.mono (sub_mask_nil w1)) (World.ownsRow_nil _ _ _ _) (by omega) (by simp; omega)).mono ?_
    rintro r w2 ⟨v', rfl, ho, hg⟩
    rw [List.nil_append] at ho
    obtain ⟨a, c, rfl, hrows⟩ := IsRows.of_owns (f := tokCells) (fun _ => rfl) ho
    have HX2 := Lib.hid (hg.1.ext HX1.out (by intro q hq; simp [rowOf, Value.ownBlock] at hq))
    have HRW := Lib.hid hrows
    clear ho hg hrows b0 b1 b2 b3 b4 b5 bf
    go_wp2_with fail
    refine (rjoin_calls _ a _ c w2 HRW.out HGD.out).mono ?_
    rintro r w3 ⟨rfl, hx3⟩
    have HX3 := Lib.hid (HX2.out.trans hx3)
    clear hx3
    have HR2 := Lib.hid (show fmtR e = joinR (tokE e) from HR.out)
    clear HR
    generalize joinR (tokE e) = J at *
    unfold bstr
    go_wp2_with fail
    refine bodyPost_ret (v := .tuple #[bstr J.1, .int .i64 J.2]) (by simp [results, Tryz.results10, go_sem, bstr]) rfl ⟨by rw [HR2.out], HX3.out⟩
end Go.Proofs.YtaepiiediblleaaGreatDoor
