/-
  Texts of the claim, joined: LaidB.
-/
import Derived.Test.YtaepiiediblleaaGreatDoorRows
import Derived.Test.YtaepiiediblleaaGreatDoorFo01
import Derived.Test.YtaepiiediblleaaGreatDoorFo15
namespace Go.Proofs.YtaepiiediblleaaGreatDoor
open Go.ChangeShapes Go.WideShapes Go.ChangeAt Go.WideMaps Go.WideElems Go.RowKit

theorem tTab : (Tryz.prog.globals[2]?).map (·.type) = some 161 := by kernel_rfl
theorem uTab : Tryz.prog.underlying 161 = some (.array 20 149) := by kernel_rfl
theorem uU64 : Tryz.prog.underlying 149 = some (.int .u64) := by kernel_rfl
theorem cU64 : Tryz.prog.cellsOf 149 = 1 := by kernel_rfl
theorem cTab : Tryz.prog.cellsOf 161 = 20 := by kernel_rfl
theorem tabData_is {H : Type} : (Rows.laid_internal_strconv_uint64pow10 : DataW H) = Lib.tabData .u64 Lib.pow10Tab := by kernel_rfl
set_option maxRecDepth 100000 in
/-- What the condition on the package's table gives. -/
theorem hasOps_of_laid {W : World} (h : laidMetH Tryz.prog Rows.syntaxBackRow.laid W) : HasOps W ∧ HasTab W := by
  rw [MakeChecks.laidMetH_plain _ _ _ (by kernel_rfl)] at h
  obtain ⟨ps, ⟨ga, ta, csa, fa, pa, qa, hga, hta, hva, hda, ⟨gb, tb, csb, fb, pb, qb, hgb, htb, hvb, hdb, ⟨gc, tc, csc, fc, pc, qc, hgc, htc, hvc, hdc, ⟨g0, t0, cs0, f0, p0, q0, hg0, ht0, hv0, hd0, ⟨g1, t1, cs1, f1, p1, q1, hg1, ht1, hv1, hd1, _, _⟩, _⟩, _⟩, _⟩, _⟩, _, _⟩ := h
  have hT : HasTab W := by
    obtain rfl := Option.some.inj (gTab.symm.trans hgc)
    obtain rfl := Option.some.inj (tTab.symm.trans htc)
    unfold HasTab Lib.TabIs
    rw [hvc, ← Lib.cells_of_tab (zs := Lib.pow10Tab) uTab uU64 cU64 cTab (by rw [← tabData_is]; exact hdc)]
  refine ⟨?_, hT⟩
  clear hT hda hdb hdc hd0 hva hvb hvc hv0
  obtain rfl := Option.some.inj (gOps.symm.trans hg1)
  obtain rfl := Option.some.inj (tOps.symm.trans ht1)
  obtain ⟨xs, m, rfl, hx, hlen, hn, hel⟩ := DataW.trod_array uOps hd1
  simp only [Prod.mk.injEq] at hx
  have hx1 := hx.1
  intro k hk
  have hD : (xs.map (·.1))[k]? = some (.agg [.lit (.string (opWord k).data.toList), .lit (.bool (opNamed k)), .lit (.int .i64 (opLeast k)), .lit (.int .i64 (opMost k)), .lit (.int .i64 (opBinds k))]) := by
    unfold Rows.laid_treaty_syntax_operators at hx1
    injection hx1 with hx1
    rw [← hx1]
    have hk' : k = 0 ∨ k = 1 ∨ k = 2 ∨ k = 3 ∨ k = 4 ∨ k = 5 ∨ k = 6 ∨ k = 7 ∨ k = 8 := by omega
    rcases hk' with rfl | rfl | rfl | rfl | rfl | rfl | rfl | rfl | rfl <;> rfl
  rw [List.getElem?_map] at hD
  have hek := hel k hk
  cases hy : xs[k]? with
  | none => rw [hy] at hD; cases hD
  | some y =>
    rw [hy] at hD hek
    simp only [Option.map_some, Option.some.injEq] at hD
    rw [cOp] at hek
    have hc := op_cells hek hD
    have key : ∀ j, j < 5 → W.cell? ⟨0, k * 5 + j, none⟩ = ([.string (opWord k), .bool (opNamed k), .int .i64 (opLeast k), .int .i64 (opMost k), .int .i64 (opBinds k)] : List Value)[j]? := by
      intro j hj
      have e1 : (⟨(opWord k).data.toList.toArray⟩ : ByteArray) = opWord k := by simp
      rw [World.var?_cell hg1 hv1 (k * 5 + j), ← e1, ← hc, List.getElem?_take, if_pos hj, List.getElem?_drop]
      simp
    have k0 := key 0 (by omega)
    rw [Nat.add_zero] at k0
    exact ⟨k0, key 1 (by omega), key 2 (by omega), key 3 (by omega), key 4 (by omega)⟩
end Go.Proofs.YtaepiiediblleaaGreatDoor
