import Derived.Test.YtaepiiediblleaaDoorParse5
import Derived.Test.YtaepiiediblleaaDoorDepth
namespace Go.Proofs.YtaepiiediblleaaDoor
open Go.RowKit

def nm (c : UInt8) : Ex := .mk 3 ⟨#[c]⟩ [] 0 0 []
def awakeText : ByteArray := ⟨#[97, 32, 111, 114, 32, 98, 32, 97, 110, 100, 32, 110, 111, 116, 32, 99]⟩
def awakeToks : List Tok := [⟨1, ⟨#[97]⟩, 0, 0⟩, ⟨1, ⟨#[111, 114]⟩, 0, 2⟩, ⟨1, ⟨#[98]⟩, 0, 5⟩, ⟨1, ⟨#[97, 110, 100]⟩, 0, 7⟩, ⟨1, ⟨#[110, 111, 116]⟩, 0, 11⟩, ⟨1, ⟨#[99]⟩, 0, 15⟩]
def awakeEx : Ex := .mk 8 ⟨#[]⟩ [] 0 0 [nm 97, .mk 7 ⟨#[]⟩ [] 0 0 [nm 98, .mk 6 ⟨#[]⟩ [] 0 0 [nm 99]]]
theorem awake_scan : scanAll awakeText = (awakeToks, 0, 0) := by kernel_rfl
theorem awake_tokens : tokensF awakeToks 0 = (awakeEx, (awakeToks.length : Int), 0, 0) := by kernel_rfl
theorem awake_64 : ∀ i, i < awakeText.size → byteAt awakeText i ≠ 64 := by
  have h : (List.range 16).all (fun i => byteAt awakeText i != 64) = true := by decide +kernel
  intro i hi
  have := List.all_eq_true.1 h i (by rw [List.mem_range]; exact hi)
  simpa using this
theorem awake_parse (w : World) (ho : HasOps w) (M : List Nat) (hM : ∀ y ∈ M, y < w.heap.size) : Calls Tryd.prog 10 #[.string awakeText] w (ParseQ awakeEx 0 M w) :=
  Parse_ok awakeText awakeToks awakeEx w ho (by decide) awake_64 awake_scan (by decide) (fun t ht => by
    have h : awakeToks.all (fun t => decide (t.text.size ≤ 1000000000000000)) = true := by decide +kernel
    simpa using List.all_eq_true.1 h t ht) awake_tokens M hM

set_option maxRecDepth 100000 in
set_option maxHeartbeats 1000000 in
theorem awake_calls (w : World) (ho : HasOps w) : Calls Tryd.prog 12 #[] w (GivesE (.bool true) w) := by
  have HP := Lib.hid (awake_parse w ho [] (by simp))
  unfold awakeText at HP
  clear ho
  go_enter Tryd.func12, Tryd.ntmps12
  go_wp2_with fail
  refine HP.out.mono ?_
  rintro r w1 ⟨x, off, rfl, hx, h0, hE⟩
  obtain rfl := h0 rfl
  have hx' := hx.mono (mask_sub _ _)
  have HX := Lib.hid hx'
  obtain ⟨aw, nw, cw, aa, na, ca, e1, g1, g2, g3, g4, g5⟩ := hx'.parts
  rw [e1] at HX ⊢
  have hna : na = 2 := g2
  subst hna
  obtain ⟨b, o, ea, aw0, nw0, cw0, aa0, na0, ca0, p0, p1, p2, p3, p4, p5, p6⟩ := ExsD.at _ _ g5 0 (by decide)
  subst ea
  obtain ⟨b', o', ea, aw1, nw1, cw1, aa1, na1, ca1, q0, q1, q2, q3, q4, q5, q6⟩ := ExsD.at _ _ g5 1 (by decide)
  obtain ⟨rfl, rfl⟩ : b' = b ∧ o' = o := by simpa using ea.symm
  have hb := block_lt p1
  simp only [Nat.zero_mul, Nat.one_mul, Nat.add_zero] at p0 p1 p2 p3 p4 p5 q0 q1 q2 q3 q4 q5
  have p1' : w1.cell? ⟨b', o' + 1, none⟩ = some (.string ⟨#[97]⟩) := p1
  have q0' : w1.cell? ⟨b', o' + 6, none⟩ = some (.int .i64 7) := q0
  have HE := Lib.hid hE
  simp only at hb
  have hb2 : b' ≠ w1.heap.size := by omega
  clear hx hx' e1 g1 g2 g3 g4 g5 p0 p1 p2 p3 p4 p5 p6 q0 q1 q2 q3 q4 q5 q6 ea hE h0
  unfold exV awakeEx at *
  simp only [Ex.op, Ex.name, Ex.lo, Ex.hi] at *
  have HSZ := Lib.hid (size_calls 6 awakeEx _ _ (by decide +kernel) (by omega) (HX.out.ext ((Ext.refl w1).alloc (.cells #[.int .i64 8, .string ⟨#[]⟩, .slice aw nw cw, .int .i64 0, .int .i64 0, .slice (some ⟨b', o', none⟩) 2 ca] 26))))
  go_wp2_with fail
  refine HSZ.out.mono ?_
  rintro r w2 ⟨rfl, hx2⟩
  have hE2 := Lib.hid (HE.out.trans (((Ext.refl w1).alloc _).trans hx2))
  clear hx2
  rw [show awakeEx.size = 6 by decide +kernel]
  go_wp2_with fail
  go_ret
  exact ⟨rfl, hE2.out⟩
end Go.Proofs.YtaepiiediblleaaDoor
