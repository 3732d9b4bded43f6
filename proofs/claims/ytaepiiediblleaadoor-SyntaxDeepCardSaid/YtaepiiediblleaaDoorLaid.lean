import Derived.Test.YtaepiiediblleaaDoorRows
import Derived.Test.YtaepiiediblleaaDoorNode2
import Derived.ProofKit
import Derived.LaidMore
import Derived.OpenShut
import Derived.Deep.Fields
import Derived.Stop.Joined
namespace Go.Proofs.YtaepiiediblleaaDoor
open Go.ChangeShapes Go.WideShapes Go.ChangeAt Go.WideMaps Go.WideElems Go.RowKit

theorem own : ownKnob Tryd.prog.godebug = none := by kernel_rfl
theorem gLen : Tryd.prog.globalNamed "treaty/calendar.lengths" = some 1 := by kernel_rfl
theorem gOps : Tryd.prog.globalNamed "treaty/syntax.operators" = some 0 := by kernel_rfl
theorem tOps : (Tryd.prog.globals[0]?).map (·.type) = some 113 := by kernel_rfl
theorem uOps : Tryd.prog.underlying 113 = some (.array 9 112) := by kernel_rfl
theorem opFields_are : (Tryd.prog.underlying 112).bind (fun u => match u with | .struct fs => some (fs.toList.map (fun f => (f.type, f.offset))) | _ => none) = some [(9, 0), (4, 1), (3, 2), (3, 3), (3, 4)] := by kernel_rfl
theorem uOp : ∃ fs : Array Field, Tryd.prog.underlying 112 = some (.struct fs) ∧ fs.toList.map (fun f => (f.type, f.offset)) = [(9, 0), (4, 1), (3, 2), (3, 3), (3, 4)] := by
  have h := opFields_are
  generalize Tryd.prog.underlying 112 = U at *
  match U, h with
  | some (.struct fs), h => exact ⟨fs, rfl, by simpa using h⟩
theorem cOp : Tryd.prog.cellsOf 112 = 5 := by kernel_rfl
theorem cS : Tryd.prog.cellsOf 9 = 1 := by kernel_rfl
theorem cB : Tryd.prog.cellsOf 4 = 1 := by kernel_rfl
theorem cI : Tryd.prog.cellsOf 3 = 1 := by kernel_rfl
theorem uS : Tryd.prog.underlying 9 = some .string := by kernel_rfl
theorem uB : Tryd.prog.underlying 4 = some .bool := by kernel_rfl
theorem uI : Tryd.prog.underlying 3 = some (.int .i64) := by kernel_rfl

theorem op_field {opFields : Array Field} (j : Nat) (t : TypeId) (o : Nat) (h : (opFields.toList.map (fun f => (f.type, f.offset)))[j]? = some (t, o)) : ∃ f, opFields[j]? = some f ∧ f.type = t ∧ f.offset = o := by
  rw [List.getElem?_map] at h
  cases hf : opFields.toList[j]? with
  | none => rw [hf] at h; cases h
  | some f =>
    rw [hf] at h
    simp only [Option.map_some, Option.some.injEq, Prod.mk.injEq] at h
    exact ⟨f, by simpa using hf, h.1, h.2⟩

theorem list5 {α : Type} (l : List α) (h : l.length = 5) : ∃ a b c d e, l = [a, b, c, d, e] := by
  rcases l with _ | ⟨a, _ | ⟨b, _ | ⟨c, _ | ⟨d, _ | ⟨e, _ | ⟨f, r⟩⟩⟩⟩⟩⟩ <;> simp at h
  exact ⟨a, b, c, d, e, rfl⟩
theorem op_cells {H : Type} {enc : TypeId × Value → H} {W : World} {base n : Nat} {sp : Nat → Bool} {held : Bool} {cs : List Value} {y : DataW H × List MemPlace} (h : DataW.trod enc Tryd.prog W base sp held n 112 cs = some y) {s : List UInt8} {b : Bool} {l m k : Int}
    (hy : y.1 = .agg [.lit (.string s), .lit (.bool b), .lit (.int .i64 l), .lit (.int .i64 m), .lit (.int .i64 k)]) : cs = [.string ⟨s.toArray⟩, .bool b, .int .i64 l, .int .i64 m, .int .i64 k] := by
  obtain ⟨opFields, uO, are⟩ := uOp
  obtain ⟨xs, r, rfl, rfl, hlen, hxl, hf⟩ := DataW.trod_struct uO h
  have e5 : opFields.size = 5 := by have := congrArg List.length are; simpa using this
  rw [e5] at hxl
  rw [cOp] at hlen
  obtain ⟨c0, c1, c2, c3, c4, rfl⟩ := list5 cs hlen
  obtain ⟨x0, x1, x2, x3, x4, rfl⟩ := list5 xs hxl
  · skip
    obtain ⟨f0, g0, t0, o0⟩ := op_field 0 _ _ (by rw [are]; rfl)
    obtain ⟨f1, g1, t1, o1⟩ := op_field 1 _ _ (by rw [are]; rfl)
    obtain ⟨f2, g2, t2, o2⟩ := op_field 2 _ _ (by rw [are]; rfl)
    obtain ⟨f3, g3, t3, o3⟩ := op_field 3 _ _ (by rw [are]; rfl)
    obtain ⟨f4, g4, t4, o4⟩ := op_field 4 _ _ (by rw [are]; rfl)
    have r0 := hf 0 f0 g0
    have r1 := hf 1 f1 g1
    have r2 := hf 2 f2 g2
    have r3 := hf 3 f3 g3
    have r4 := hf 4 f4 g4
    rw [t0, o0, cS] at r0
    rw [t1, o1, cB] at r1
    rw [t2, o2, cI] at r2
    rw [t3, o3, cI] at r3
    rw [t4, o4, cI] at r4
    obtain ⟨s', a0, b0, _⟩ := DataW.trod_string uS r0
    obtain ⟨b', a1, b1⟩ := DataW.trod_bool uB r1
    obtain ⟨l', a2, b2, _⟩ := DataW.trod_int uI r2
    obtain ⟨m', a3, b3, _⟩ := DataW.trod_int uI r3
    obtain ⟨k', a4, b4, _⟩ := DataW.trod_int uI r4
    simp at a0 a1 a2 a3 a4
    subst a0 a1 a2 a3 a4 b0 b1 b2 b3 b4
    simp at hy
    obtain ⟨h0, h1, h2, h3, h4⟩ := hy
    subst h0 h1 h2 h3 h4
    simp

set_option maxRecDepth 100000 in
/-- What the condition on the package's table gives. -/
theorem hasOps_of_laid {W : World} (h : laidMetH Tryd.prog Rows.syntaxDeepRow.laid W) : HasOps W := by
  rw [MakeChecks.laidMetH_plain _ _ _ (by kernel_rfl)] at h
  obtain ⟨ps, ⟨g0, t0, cs0, f0, p0, q0, hg0, ht0, hv0, hd0, ⟨g1, t1, cs1, f1, p1, q1, hg1, ht1, hv1, hd1, _, _⟩, _⟩, _, _⟩ := h
  obtain rfl := Option.some.inj (gOps.symm.trans hg1)
  obtain rfl := Option.some.inj (tOps.symm.trans ht1)
  obtain ⟨xs, m, rfl, hx, hlen, hn, hel⟩ := DataW.trod_array uOps hd1
  simp only [Prod.mk.injEq] at hx
  have hx1 := hx.1
  intro k hk
  have hD : (xs.map (·.1))[k]? = some (.agg [.lit (.string (opWord k).data.toList), .lit (.bool (opNamed k)), .lit (.int .i64 (opLeast k)), .lit (.int .i64 (opMost k)), .lit (.int .i64 (opBinds k))]) := by
    unfold Rows.laid_treaty_syntax_operators at hx1
    injection hx1 with hx1
    rw [← hx1]
    have hk' : k = 0 ∨ k = 1 ∨ k = 2 ∨ k = 3 ∨ k = 4 ∨ k = 5 ∨ k = 6 ∨ k = 7 ∨ k = 8 := by omega
    rcases hk' with rfl | rfl | rfl | rfl | rfl | rfl | rfl | rfl | rfl <;> rfl
  rw [List.getElem?_map] at hD
  have hek := hel k hk
  cases hy : xs[k]? with
  | none => rw [hy] at hD; cases hD
  | some y =>
    rw [hy] at hD hek
    simp only [Option.map_some, Option.some.injEq] at hD
    rw [cOp] at hek
    have hc := op_cells hek hD
    have key : ∀ j, j < 5 → W.cell? ⟨0, k * 5 + j, none⟩ = ([.string (opWord k), .bool (opNamed k), .int .i64 (opLeast k), .int .i64 (opMost k), .int .i64 (opBinds k)] : List Value)[j]? := by
      intro j hj
      have e1 : (⟨(opWord k).data.toList.toArray⟩ : ByteArray) = opWord k := by simp
      rw [World.var?_cell hg1 hv1 (k * 5 + j), ← e1, ← hc, List.getElem?_take, if_pos hj, List.getElem?_drop]
      simp
    have k0 := key 0 (by omega)
    rw [Nat.add_zero] at k0
    exact ⟨k0, key 1 (by omega), key 2 (by omega), key 3 (by omega), key 4 (by omega)⟩
end Go.Proofs.YtaepiiediblleaaDoor
