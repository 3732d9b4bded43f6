/-
  Texts of the claim, joined: RefSame, Awake, Read1, Read2, Read3.
-/
import Derived.Test.YtaepiiediblleaaGreatDoorTa13
import Derived.Test.YtaepiiediblleaaGreatDoorTa10
import Derived.Test.YtaepiiediblleaaGreatDoorTa09
import Derived.Test.YtaepiiediblleaaGreatDoorTa01
import Derived.Test.YtaepiiediblleaaGreatDoorTa05
import Derived.Test.YtaepiiediblleaaGreatDoorTa08
namespace Go.Proofs.YtaepiiediblleaaGreatDoor
open Go.RowKit

/-- A bool that says whether P holds. -/
def SaysQ (P : Prop) (w : World) (e : Ending) (w' : World) : Prop := ∃ B : Bool, e = .returned (.bool B) ∧ (B = true ↔ P) ∧ Ext w w'
theorem says_false {P : Prop} {w w' : World} (h : ¬ P) (hx : Ext w w') : SaysQ P w (.returned (.bool false)) w' := ⟨false, rfl, by simp [h], hx⟩
theorem says_true {P : Prop} {w w' : World} (h : P) (hx : Ext w w') : SaysQ P w (.returned (.bool true)) w' := ⟨true, rfl, by simp [h], hx⟩
theorem Ex.ext_iff (a b : Ex) : a = b ↔ a.op = b.op ∧ a.name = b.name ∧ a.words = b.words ∧ a.lo = b.lo ∧ a.hi = b.hi ∧ a.args = b.args := by
  cases a; cases b; simp [Ex.op, Ex.name, Ex.words, Ex.lo, Ex.hi, Ex.args]

def RSame (P : Prop) (ba bb b1 o1 b2 o2 na ca nb cb k : Nat) (va vb : Value) : Nat → Value → World → Prop
  | 0, v, _ => v = .pointer (some ⟨ba, 5, none⟩)
  | 1, v, _ => v = .slice (some ⟨b1, o1, none⟩) na ca
  | 2, v, _ => v = .int .i64 k
  | 3, v, _ => v = .pointer (some ⟨b1, o1 + k * 6, none⟩)
  | 4, v, _ => v = va
  | 5, v, _ => v = .pointer (some ⟨bb, 5, none⟩)
  | 6, v, _ => v = .slice (some ⟨b2, o2, none⟩) nb cb
  | 7, v, _ => v = .int .i64 k
  | 8, v, _ => v = .pointer (some ⟨b2, o2 + k * 6, none⟩)
  | 9, v, _ => v = vb
  | 10, v, _ => ∃ B : Bool, v = .bool B ∧ (B = true ↔ P)
  | 11, v, _ => ∃ B : Bool, v = .bool (!B) ∧ (B = true ↔ P)
  | _, _, _ => True
theorem rsame_keeps {P : Prop} {ba bb b1 o1 b2 o2 na ca nb cb k : Nat} {va vb : Value} {i : Nat} {v : Value} {W W' : World} (hi : i < 12) (h : RSame P ba bb b1 o1 b2 o2 na ca nb cb k va vb i v W) : RSame P ba bb b1 o1 b2 o2 na ca nb cb k va vb i v W' := by
  have hi' : i = 0 ∨ i = 1 ∨ i = 2 ∨ i = 3 ∨ i = 4 ∨ i = 5 ∨ i = 6 ∨ i = 7 ∨ i = 8 ∨ i = 9 ∨ i = 10 ∨ i = 11 := by omega
  rcases hi' with rfl | rfl | rfl | rfl | rfl | rfl | rfl | rfl | rfl | rfl | rfl | rfl <;> exact h
def ESame (_ : Nat) (W W' : World) : Prop := Ext W W'
def GSame (w W : World) : Prop := Ext w W

set_option maxRecDepth 100000 in
set_option maxHeartbeats 4000000 in
theorem rsame_calls (m : Nat) : ∀ (a b : Ex) (va vb : Value) (w : World), a.size ≤ m → m ≤ 1000000000000000 → IsEx w a va → IsEx w b vb → a.few → Calls Tryz.prog 9 #[va, vb] w (SaysQ (a = b) w) := by
  induction m with
  | zero => intro a b va vb w h; have := size_pos a; omega
  | succ m ih =>
    intro a b va vb w hm hMM hea heb hfit
    obtain ⟨aw, nw, cw, aa, na, ca, rfl, hw, hna, hca, ha, hx⟩ := hea.parts
    obtain ⟨aw', nw', cw', ab, nb, cb, rfl, hw', hnb, hcb, hb, hy⟩ := heb.parts
    have hEQ := Ex.ext_iff a b
    have H : Hid (∀ (a b : Ex) (va vb : Value) (w : World), a.size ≤ m → IsEx w a va → IsEx w b vb → a.few → Calls Tryz.prog 9 #[va, vb] w (SaysQ (a = b) w)) := fun a b va vb w h1 h2 h3 h4 => ih a b va vb w h1 (by omega) h2 h3 h4
    have hS : a.size = 1 + sizes a.args := a.size_eq
    have hb2 : sizes a.args ≤ m := by omega
    have hla := length_le_sizes a.args
    have hna2 : na ≤ m := by omega
    obtain ⟨hf1, hf2⟩ := few_parts hfit
    have HF := Lib.hid hf2
    have hnw : nw ≤ 1000000000000000 := by have := hw.1; omega
    have HX := Lib.hid hx
    have HY := Lib.hid hy
    have HNA := Lib.hid hna
    have HNB := Lib.hid hnb
    have HEQ := Lib.hid hEQ
    have HW := Lib.hid hw
    have HW' := Lib.hid hw'
    obtain ⟨Pr, hP⟩ : ∃ Pr : Prop, Pr = (a = b) := ⟨_, rfl⟩
    rw [← hP]
    rw [← hP] at hEQ
    have HEQ := Lib.hid hEQ
    have HE2 := Lib.hid (((Ext.refl w).alloc (.cells #[.int .i64 a.op, .string a.name, .slice aw nw cw, .int .i64 a.lo, .int .i64 a.hi, .slice aa na ca] 28)).alloc (.cells #[.int .i64 b.op, .string b.name, .slice aw' nw' cw', .int .i64 b.lo, .int .i64 b.hi, .slice ab nb cb] 28))
    clear ih hx hy hna hnb hw hw' hca ha hcb hb hea heb hS hm hla hf1 hf2 hfit hEQ hP
    unfold exV
    by_cases c1 : a.op = b.op
    case neg =>
      have t1 : (a.op != b.op) = true := by simpa [bne_iff_ne] using c1
      have HNO := Lib.hid (show ¬ Pr from fun h => c1 (HEQ.out.1 h).1)
      clear c1
      go_enter Tryz.func9, Tryz.ntmps9
      go_wp2_with fail
      go_ret
      exact says_false HNO.out HE2.out
    case pos =>
    have t1 : (a.op != b.op) = false := by simpa using c1
    have HC1 := Lib.hid c1
    clear c1
    cases c2 : (a.name.toList == b.name.toList)
    case false =>
      have HNO := Lib.hid (show ¬ Pr from fun h => by rw [(HEQ.out.1 h).2.1] at c2; simp at c2)
      go_enter Tryz.func9, Tryz.ntmps9
      go_wp2_with fail
      go_ret
      exact says_false HNO.out HE2.out
    case true =>
    have HC2 := Lib.hid (toList_inj (beq_iff_eq.1 c2))
    by_cases c3 : a.lo = b.lo
    case neg =>
      have t3 : (a.lo != b.lo) = true := by simpa [bne_iff_ne] using c3
      have HNO := Lib.hid (show ¬ Pr from fun h => c3 (HEQ.out.1 h).2.2.2.1)
      clear c3
      go_enter Tryz.func9, Tryz.ntmps9
      go_wp2_with fail
      go_ret
      exact says_false HNO.out HE2.out
    case pos =>
    have t3 : (a.lo != b.lo) = false := by simpa using c3
    have HC3 := Lib.hid c3
    clear c3
    by_cases c4 : a.hi = b.hi
    case neg =>
      have t4 : (a.hi != b.hi) = true := by simpa [bne_iff_ne] using c4
      have HNO := Lib.hid (show ¬ Pr from fun h => c4 (HEQ.out.1 h).2.2.2.2.1)
      clear c4
      go_enter Tryz.func9, Tryz.ntmps9
      go_wp2_with fail
      go_ret
      exact says_false HNO.out HE2.out
    case pos =>
    have t4 : (a.hi != b.hi) = false := by simpa using c4
    have HC4 := Lib.hid c4
    clear c4
    have HSW := Lib.hid (sameWords_calls a.words b.words aw aw' nw cw nw' cw' _ (HW.out.ext HE2.out) (HW'.out.ext HE2.out) hnw)
    by_cases c5 : a.words = b.words
    case neg =>
      have HNO := Lib.hid (show ¬ Pr from fun h => c5 (HEQ.out.1 h).2.2.1)
      rw [decide_eq_false c5] at HSW
      clear c5
      go_enter Tryz.func9, Tryz.ntmps9
      go_wp2_with fail
      refine HSW.out.mono ?_
      rintro r w1 ⟨rfl, q, rfl⟩
      go_wp2_with fail
      go_ret
      exact says_false HNO.out (HE2.out.trans (Ext.drewN (Ext.refl _) _))
    case pos =>
    rw [decide_eq_true c5] at HSW
    have HC5 := Lib.hid c5
    clear c5
    by_cases c6 : na = nb
    case neg =>
      have t6 : ((na : Int) != (nb : Int)) = true := by simp [bne_iff_ne]; omega
      have t7 : (na != nb) = true := by simp [bne_iff_ne]; omega
      have HNO := Lib.hid (show ¬ Pr from fun h => c6 (by rw [HNA.out, HNB.out, (HEQ.out.1 h).2.2.2.2.2]))
      clear c6
      go_enter Tryz.func9, Tryz.ntmps9
      go_wp2_with fail
      refine HSW.out.mono ?_
      rintro r w1 ⟨rfl, q, rfl⟩
      go_wp2_with fail
      go_ret
      exact says_false HNO.out (HE2.out.trans (Ext.drewN (Ext.refl _) _))
    case pos =>
    have t6 : ((na : Int) != (nb : Int)) = false := by simp [c6]
    have t7 : (na != nb) = false := by simp [c6]
    have HEN := Lib.hid c6
    have hle : na ≤ nb := by omega
    clear c6
    go_enter Tryz.func9, Tryz.ntmps9
    go_wp2_with fail
    refine HSW.out.mono ?_
    rintro r w1 ⟨rfl, q, rfl⟩
    clear HSW
    go_wp2_with fail
    have HBA := Lib.hid (blk_alloc (o' := .cells #[.int .i64 b.op, .string b.name, .slice aw' nw' cw', .int .i64 b.lo, .int .i64 b.hi, .slice ab nb cb] 28) (alloc_new w (.cells #[.int .i64 a.op, .string a.name, .slice aw nw cw, .int .i64 a.lo, .int .i64 a.hi, .slice aa na ca] 28)))
    have HBB := Lib.hid (alloc_at (w := w.alloc (.cells #[.int .i64 a.op, .string a.name, .slice aw nw cw, .int .i64 a.lo, .int .i64 a.hi, .slice aa na ca] 28)) (o := .cells #[.int .i64 b.op, .string b.name, .slice aw' nw' cw', .int .i64 b.lo, .int .i64 b.hi, .slice ab nb cb] 28) (n := w.heap.size + 1) (by simp))
    have HEq := Lib.hid (show Ext ((w.alloc (.cells #[.int .i64 a.op, .string a.name, .slice aw nw cw, .int .i64 a.lo, .int .i64 a.hi, .slice aa na ca] 28)).alloc (.cells #[.int .i64 b.op, .string b.name, .slice aw' nw' cw', .int .i64 b.lo, .int .i64 b.hi, .slice ab nb cb] 28)) _ from Ext.drewN (Ext.refl _) q)
    go_loopw [5] (fun i wr => ∃ k : Nat, k ≤ na ∧ i = .int .i64 k ∧ (∀ j (h1 : j < a.args.length) (h2 : j < b.args.length), j < k → a.args[j] = b.args[j]) ∧ wr.heap[w.heap.size]? = some (.cells #[.int .i64 a.op, .string a.name, .slice aw nw cw, .int .i64 a.lo, .int .i64 a.hi, .slice aa na ca] 28 (0, 0)) ∧ wr.heap[w.heap.size + 1]? = some (.cells #[.int .i64 b.op, .string b.name, .slice aw' nw' cw', .int .i64 b.lo, .int .i64 b.hi, .slice ab nb cb] 28 (0, 0)) ∧ Ext w wr) (fun i _ => na - (intOf i).toNat)
    case atStart => exact ⟨0, by omega, rfl, fun j _ _ h => by omega, HEq.out.blk HBA.out, HEq.out.blk HBB.out, HE2.out.trans HEq.out⟩
    case round =>
      clear HBA HBB HEq t1 c2 t3 t4 t6 t7
      obtain ⟨k, hk, rfl, hall, hbx, hby, hb⟩ := hrel
      have HA := Lib.hid hall
      have HBX := Lib.hid hbx
      have HBY := Lib.hid hby
      have HB := Lib.hid hb
      have hlt0 := blk_lt hbx
      have hlt1 := blk_lt hby
      obtain ⟨b0, b1, b2, b3, b4, b5, bf⟩ := blk6 hbx
      obtain ⟨y0, y1, y2, y3, y4, y5, yf⟩ := blk6 hby
      clear hbx hby hb hall
      by_cases hlt : k < na
      · have hlt' : k < a.args.length := by have := HNA.out; omega
        have hlt2 : k < b.args.length := by have := HNB.out; have := HEN.out; omega
        have t1 : decide ((k : Int) < (na : Int)) = true := by simp; omega
        have hlt3 : k < nb := by omega
        obtain ⟨bb, off, rfl, aw1, nw1, cw1, aa1, na1, ca1, h0, h1, h2, h3, h4, h5, h6⟩ := ExsD.at a.args _ (ExsD.ext HB.out a.args _ HX.out) k hlt'
        obtain ⟨bb', off', rfl, aw2, nw2, cw2, aa2, na2, ca2, g0, g1, g2, g3, g4, g5, g6⟩ := ExsD.at b.args _ (ExsD.ext HB.out b.args _ HY.out) k hlt2
        have H6 := Lib.hid h6
        have G6 := Lib.hid g6
        have hsz := sizes_take_succ a.args k hlt'
        have hsl := sizes_take_le a.args (k + 1)
        have hk1 : a.args[k].size ≤ m := by omega
        clear h6 g6 hsz hsl
        have HK := Lib.hid (fun (W : World) (hW : Ext wr W) => H.out a.args[k] b.args[k] _ _ W hk1 (H6.out.ext hW) (G6.out.ext hW) (fewAll_at _ HF.out k hlt'))
        go_wp2_with fail
        refine wp_region_grow (m := 12) [11] (GSame wr) ESame (RSame (a.args[k] = b.args[k]) w.heap.size (w.heap.size + 1) bb off bb' off' na ca nb cb k (exV a.args[k].op a.args[k].name aw1 nw1 cw1 a.args[k].lo a.args[k].hi aa1 na1 ca1) (exV b.args[k].op b.args[k].name aw2 nw2 cw2 b.args[k].lo b.args[k].hi aa2 na2 ca2)) (by kernel_rfl) (by kernel_rfl) ((Ext.refl wr).drew) (fun i k v W W' hi _ _ _ hR _ => rsame_keeps hi hR) ?_ ?_
        · intro i o hi ho vs W hG hd ρ hρ
          have hi' : i = 0 ∨ i = 1 ∨ i = 2 ∨ i = 3 ∨ i = 4 ∨ i = 5 ∨ i = 6 ∨ i = 7 ∨ i = 8 ∨ i = 9 ∨ i = 10 ∨ i = 11 := by omega
          clear hi
          have o2 : ρ (.tmp 2) = .pointer (some ⟨w.heap.size, 0, none⟩) := hρ.out 2 rfl
          have o3 : ρ (.tmp 3) = .pointer (some ⟨w.heap.size + 1, 0, none⟩) := hρ.out 3 rfl
          have o5 : ρ (.tmp 5) = .int .i64 k := hρ.out 5 rfl
          have i0 := hρ.ins 0 56 (by omega) rfl (Nat.le_of_ble_eq_true rfl)
          have i1 := hρ.ins 1 57 (by omega) rfl (Nat.le_of_ble_eq_true rfl)
          have i2 := hρ.ins 2 58 (by omega) rfl (Nat.le_of_ble_eq_true rfl)
          have i3 := hρ.ins 3 59 (by omega) rfl (Nat.le_of_ble_eq_true rfl)
          have i4 := hρ.ins 4 60 (by omega) rfl (Nat.le_of_ble_eq_true rfl)
          have i5 := hρ.ins 5 61 (by omega) rfl (Nat.le_of_ble_eq_true rfl)
          have i6 := hρ.ins 6 62 (by omega) rfl (Nat.le_of_ble_eq_true rfl)
          have i7 := hρ.ins 7 63 (by omega) rfl (Nat.le_of_ble_eq_true rfl)
          have i8 := hρ.ins 8 64 (by omega) rfl (Nat.le_of_ble_eq_true rfl)
          have i9 := hρ.ins 9 65 (by omega) rfl (Nat.le_of_ble_eq_true rfl)
          have i10 := hρ.ins 10 66 (by omega) rfl (Nat.le_of_ble_eq_true rfl)
          have hcs := hρ.const
          have hfn := hρ.func
          clear hρ
          have hW : Ext wr W := hG
          replace b5 := hW.cell b5
          replace y5 := hW.cell y5
          replace h0 := hW.cell h0
          replace h1 := hW.cell h1
          replace h2 := hW.cell h2
          replace h3 := hW.cell h3
          replace h4 := hW.cell h4
          replace h5 := hW.cell h5
          replace g0 := hW.cell g0
          replace g1 := hW.cell g1
          replace g2 := hW.cell g2
          replace g3 := hW.cell g3
          replace g4 := hW.cell g4
          replace g5 := hW.cell g5
          clear b0 b1 b2 b3 b4 bf y0 y1 y2 y3 y4 yf
          have HG := Lib.hid hW
          clear hG hW
          rcases hi' with rfl | rfl | rfl | rfl | rfl | rfl | rfl | rfl | rfl | rfl | rfl | rfl
          · cases ho
            unfold GivesOp
            go_simp
            exact ⟨Ext.refl W, HG.out, rfl⟩
          · cases ho
            have r0 : vs 0 = _ := hd ⟨0, .data⟩ (by simp) rfl
            rw [r0] at i0
            unfold GivesOp
            go_simp
            exact ⟨Ext.refl W, HG.out, rfl⟩
          · cases ho
            unfold GivesOp
            go_simp
            exact ⟨Ext.refl W, HG.out, rfl⟩
          · cases ho
            have r1 : vs 1 = _ := hd ⟨1, .data⟩ (by simp) rfl
            rw [r1] at i1
            have r2 : vs 2 = _ := hd ⟨2, .data⟩ (by simp) rfl
            rw [r2] at i2
            unfold GivesOp
            go_simp
            exact ⟨Ext.refl W, HG.out, rfl⟩
          · cases ho
            have r3 : vs 3 = _ := hd ⟨3, .data⟩ (by simp) rfl
            rw [r3] at i3
            unfold GivesOp
            go_simp
            exact ⟨Ext.refl W, HG.out, rfl⟩
          · cases ho
            unfold GivesOp
            go_simp
            exact ⟨Ext.refl W, HG.out, rfl⟩
          · cases ho
            have r5 : vs 5 = _ := hd ⟨5, .data⟩ (by simp) rfl
            rw [r5] at i5
            unfold GivesOp
            go_simp
            exact ⟨Ext.refl W, HG.out, rfl⟩
          · cases ho
            unfold GivesOp
            go_simp
            exact ⟨Ext.refl W, HG.out, rfl⟩
          · cases ho
            have r6 : vs 6 = _ := hd ⟨6, .data⟩ (by simp) rfl
            rw [r6] at i6
            have r7 : vs 7 = _ := hd ⟨7, .data⟩ (by simp) rfl
            rw [r7] at i7
            unfold GivesOp
            go_simp
            exact ⟨Ext.refl W, HG.out, rfl⟩
          · cases ho
            have r8 : vs 8 = _ := hd ⟨8, .data⟩ (by simp) rfl
            rw [r8] at i8
            unfold GivesOp
            go_simp
            exact ⟨Ext.refl W, HG.out, rfl⟩
          · cases ho
            have r4 : vs 4 = _ := hd ⟨4, .data⟩ (by simp) rfl
            rw [r4] at i4
            have r9 : vs 9 = _ := hd ⟨9, .data⟩ (by simp) rfl
            rw [r9] at i9
            unfold GivesOp
            go_simp
            refine (HK.out W HG.out).mono ?_
            rintro r W1 ⟨B, rfl, hB, hx⟩
            exact ⟨_, rfl, hx, HG.out.trans hx, B, rfl, hB⟩
          · cases ho
            obtain ⟨B, r10, hB⟩ := hd ⟨10, .data⟩ (by simp) rfl
            rw [r10] at i10
            have HBB := Lib.hid hB
            clear hB
            unfold GivesOp
            go_simp
            exact ⟨Ext.refl W, HG.out, B, rfl, HBB.out⟩
        · intro vs W hG hR
          rw [if_pos (by decide +kernel)]
          obtain ⟨B, r11, hB⟩ := hR 11 (by simp) (by omega)
          have hW : Ext wr W := hG
          have HG := Lib.hid hW
          have HBB := Lib.hid hB
          simp only [acts, dstAt, List.range, List.range.loop, List.foldl_cons, List.foldl_nil, r11]
          go_simp
          have HBX2 := Lib.hid (hW.blk HBX.out)
          have HBY2 := Lib.hid (hW.blk HBY.out)
          clear hG hR hB hW r11 b0 b1 b2 b3 b4 b5 bf y0 y1 y2 y3 y4 y5 yf h0 h1 h2 h3 h4 h5 g0 g1 g2 g3 g4 g5
          cases B with
          | false =>
            have HNO := Lib.hid (show ¬ Pr from fun h => by
              have e := (HEQ.out.1 h).2.2.2.2.2
              have : a.args[k] = b.args[k] := by simp only [e]
              simpa using HBB.out.2 this)
            go_wp2_with fail
            go_ret
            exact says_false HNO.out (HB.out.trans HG.out)
          | true =>
            go_wp2_with fail
            go_roundw
            case rel =>
              refine ⟨k + 1, by omega, by go_num, fun j h1 h2 hjk => ?_, HBX2.out, HBY2.out, HB.out.trans HG.out⟩
              by_cases ej : j = k
              · subst ej; exact HBB.out.1 rfl
              · exact HA.out j h1 h2 (by omega)
            case measure => simp [intOf]; omega
      · have HPr := Lib.hid (show Pr from HEQ.out.2 ⟨HC1.out, HC2.out, HC5.out, HC3.out, HC4.out, List.ext_getElem (by have := HNA.out; have := HNB.out; have := HEN.out; omega) (fun j h1 h2 => HA.out j h1 h2 (by have := HNA.out; omega))⟩)
        have t1 : decide ((k : Int) < (na : Int)) = false := by simp; omega
        go_wp2_with fail
        go_ret
        exact says_true HPr.out HB.out
end Go.Proofs.YtaepiiediblleaaGreatDoor

namespace Go.Proofs.YtaepiiediblleaaGreatDoor
open Go.RowKit

def nm (c : UInt8) : Ex := .mk 3 ⟨#[c]⟩ [] 0 0 []
def awakeText : ByteArray := ⟨#[97, 32, 111, 114, 32, 98, 32, 97, 110, 100, 32, 110, 111, 116, 32, 99]⟩
def awakeToks : List Tok := [⟨1, ⟨#[97]⟩, 0, 0⟩, ⟨1, ⟨#[111, 114]⟩, 0, 2⟩, ⟨1, ⟨#[98]⟩, 0, 5⟩, ⟨1, ⟨#[97, 110, 100]⟩, 0, 7⟩, ⟨1, ⟨#[110, 111, 116]⟩, 0, 11⟩, ⟨1, ⟨#[99]⟩, 0, 15⟩]
def awakeEx : Ex := .mk 8 ⟨#[]⟩ [] 0 0 [nm 97, .mk 7 ⟨#[]⟩ [] 0 0 [nm 98, .mk 6 ⟨#[]⟩ [] 0 0 [nm 99]]]
theorem awake_scan : scanAll awakeText = (awakeToks, 0, 0) := by kernel_rfl
theorem awake_tokens : tokensF awakeToks 0 = (awakeEx, (awakeToks.length : Int), 0, 0) := by kernel_rfl
theorem awake_64 : ∀ i, i < awakeText.size → byteAt awakeText i ≠ 64 := by
  have h : (List.range 16).all (fun i => byteAt awakeText i != 64) = true := by decide +kernel
  intro i hi
  have := List.all_eq_true.1 h i (by rw [List.mem_range]; exact hi)
  simpa using this
theorem awake_parse (w : World) (ho : HasOps w) (M : List Nat) (hM : ∀ y ∈ M, y < w.heap.size) : Calls Tryz.prog 18 #[.string awakeText] w (ParseQ awakeEx 0 M w) :=
  Parse_ok awakeText awakeToks awakeEx w ho (by decide) awake_64 awake_scan (by decide) (fun t ht => by
    have h : awakeToks.all (fun t => decide (t.text.size ≤ 1000000000000000)) = true := by decide +kernel
    simpa using List.all_eq_true.1 h t ht) awake_tokens M hM

set_option maxRecDepth 100000 in
set_option maxHeartbeats 1000000 in
theorem awake_calls (w : World) (ho : HasOps w) : Calls Tryz.prog 6 #[] w (GivesE (.bool true) w) := by
  have HP := Lib.hid (awake_parse w ho [] (by simp))
  unfold awakeText at HP
  clear ho
  go_enter Tryz.func6, Tryz.ntmps6
  go_wp2_with fail
  refine HP.out.mono ?_
  rintro r w1 ⟨x, off, rfl, hx, h0, hE⟩
  obtain rfl := h0 rfl
  have hx' := hx.mono (mask_sub _ _)
  have HX := Lib.hid hx'
  obtain ⟨aw, nw, cw, aa, na, ca, e1, g1, g2, g3, g4, g5⟩ := hx'.parts
  rw [e1] at HX ⊢
  have hna : na = 2 := g2
  subst hna
  obtain ⟨b, o, ea, aw0, nw0, cw0, aa0, na0, ca0, p0, p1, p2, p3, p4, p5, p6⟩ := ExsD.at _ _ g5 0 (by decide)
  subst ea
  obtain ⟨b', o', ea, aw1, nw1, cw1, aa1, na1, ca1, q0, q1, q2, q3, q4, q5, q6⟩ := ExsD.at _ _ g5 1 (by decide)
  obtain ⟨rfl, rfl⟩ : b' = b ∧ o' = o := by simpa using ea.symm
  have hb := block_lt p1
  simp only [Nat.zero_mul, Nat.one_mul, Nat.add_zero] at p0 p1 p2 p3 p4 p5 q0 q1 q2 q3 q4 q5
  have p1' : w1.cell? ⟨b', o' + 1, none⟩ = some (.string ⟨#[97]⟩) := p1
  have q0' : w1.cell? ⟨b', o' + 6, none⟩ = some (.int .i64 7) := q0
  have HE := Lib.hid hE
  simp only at hb
  have hb2 : b' ≠ w1.heap.size := by omega
  clear hx hx' e1 g1 g2 g3 g4 g5 p0 p1 p2 p3 p4 p5 p6 q0 q1 q2 q3 q4 q5 q6 ea hE h0
  unfold exV awakeEx at *
  simp only [Ex.op, Ex.name, Ex.lo, Ex.hi] at *
  have HSZ := Lib.hid (size_calls 6 awakeEx _ _ (by decide +kernel) (by omega) (HX.out.ext ((Ext.refl w1).alloc (.cells #[.int .i64 8, .string ⟨#[]⟩, .slice aw nw cw, .int .i64 0, .int .i64 0, .slice (some ⟨b', o', none⟩) 2 ca] 28))))
  go_wp2_with fail
  refine HSZ.out.mono ?_
  rintro r w2 ⟨rfl, hx2⟩
  have hE2 := Lib.hid (HE.out.trans (((Ext.refl w1).alloc _).trans hx2))
  clear hx2
  rw [show awakeEx.size = 6 by decide +kernel]
  go_wp2_with fail
  go_ret
  exact ⟨rfl, hE2.out⟩
end Go.Proofs.YtaepiiediblleaaGreatDoor

namespace Go.Proofs.YtaepiiediblleaaGreatDoor
open Go.RowKit

theorem blk4 {w : World} {b : Nat} {v0 v1 v2 v3 : Value} {t : TypeId} (h : w.heap[b]? = some (.cells #[v0, v1, v2, v3] t (0, 0))) :
    w.cell? ⟨b, 0, none⟩ = some v0 ∧ w.cell? ⟨b, 1, none⟩ = some v1 ∧ w.cell? ⟨b, 2, none⟩ = some v2 ∧ w.cell? ⟨b, 3, none⟩ = some v3 ∧ (∀ j, w.frozen? ⟨b, j, none⟩ = false) :=
  ⟨blk_cell h 0, blk_cell h 1, blk_cell h 2, blk_cell h 3, fun j => blk_free h j⟩
/-- The reference's reader in memory: its tokens, its place, its error and the error's place. -/
structure RC (toks : List Tok) (ta : Option Addr) (tn tc : Nat) (w0 w : World) (br k : Nat) (er bad : Int) : Prop where
  ht : IsToks w0 toks ta tn tc
  hx : Ext w0 w
  hb : w.heap[br]? = some (.cells #[.slice ta tn tc, .int .i64 k, .int .i64 er, .int .i64 bad] 61 (0, 0))
  hbr : w0.heap.size ≤ br
  hk : k ≤ tn
  htn : tn ≤ 1000000
  hsz : ∀ t ∈ toks, t.text.size ≤ 1000000000000000
section
variable {toks : List Tok} {ta : Option Addr} {tn tc : Nat} {w0 w : World} {br k : Nat} {er bad : Int}
theorem RC.ext (h : RC toks ta tn tc w0 w br k er bad) {w' : World} (hx : Ext w w') : RC toks ta tn tc w0 w' br k er bad := ⟨h.ht, h.hx.trans hx, hx.blk h.hb, h.hbr, h.hk, h.htn, h.hsz⟩
theorem RC.tok (h : RC toks ta tn tc w0 w br k er bad) (hk : k < tn) : ∃ (T : Tok) (b off : Nat), toks[k]? = some T ∧ T.text.size ≤ 1000000000000000 ∧ ta = some ⟨b, off, none⟩ ∧ b < br ∧ w.cell? ⟨b, off + k * 4, none⟩ = some (.int .i64 T.kind) ∧ w.cell? ⟨b, off + k * 4 + 1, none⟩ = some (.string T.text) ∧ w.cell? ⟨b, off + k * 4 + 2, none⟩ = some (.int .i64 T.num) := by
  have hl : k < toks.length := by have := h.ht.1; omega
  obtain ⟨b, off, e, hc⟩ := h.ht.2.2.2 k hl
  have g0 := hc 0 (by simp [tokCells])
  have hb := block_lt g0
  have hbr := h.hbr
  simp only at hb
  exact ⟨toks[k], b, off, List.getElem?_eq_getElem hl, h.hsz _ (List.getElem_mem hl), e, by omega, h.hx.cell g0, h.hx.cell (hc 1 (by simp [tokCells])), h.hx.cell (hc 2 (by simp [tokCells]))⟩
theorem RC.past (h : RC toks ta tn tc w0 w br k er bad) (hk : ¬ k < tn) : toks[k]? = none ∧ k = tn := by
  have := h.ht.1; have := h.hk
  exact ⟨List.getElem?_eq_none (by omega), by omega⟩
/-- Of what was there only the reader has changed. -/
theorem RC.step (h : RC toks ta tn tc w0 w br k er bad) {w' : World} {k' : Nat} {er' bad' : Int} (hc : Chg [br] w w') (hb : w'.heap[br]? = some (.cells #[.slice ta tn tc, .int .i64 k', .int .i64 er', .int .i64 bad'] 61 (0, 0))) (hk : k' ≤ tn) : RC toks ta tn tc w0 w' br k' er' bad' :=
  ⟨h.ht, hc.ext h.hx (by simpa using h.hbr), hb, h.hbr, hk, h.htn, h.hsz⟩
/-- A method that only moves the reader. -/
def MovesR (toks : List Tok) (ta : Option Addr) (tn tc : Nat) (w0 w : World) (br k' : Nat) (er' bad' : Int) (w' : World) : Prop := RC toks ta tn tc w0 w' br k' er' bad' ∧ Chg [br] w w'

set_option maxRecDepth 100000 in
set_option maxHeartbeats 1000000 in
theorem is_calls (h : RC toks ta tn tc w0 w br k er bad) (kind : Int) (text : ByteArray) :
    Calls Tryz.prog 83 #[.pointer (some ⟨br, 0, none⟩), .int .i64 kind, .string text] w (GivesE (.bool (acceptB toks k kind text)) w) := by
  obtain ⟨c0, c1, c2, c3, cf⟩ := blk4 h.hb
  have hlt := blk_lt h.hb
  have htn := h.htn
  by_cases h1 : k < tn
  · obtain ⟨T, b, off, hT, hTs, rfl, hbw, g0, g1, g2⟩ := h.tok h1
    have HA := Lib.hid (show acceptB toks k kind text = ((T.kind == kind) && decide (T.text = text)) by rw [acceptB, hT])
    generalize acceptB toks k kind text = B at *
    have ti : (k : Int) < (tn : Int) := by omega
    have ti0 : (0 : Int) ≤ (k : Int) := by omega
    have td : decide ((k : Int) < (tn : Int)) = true := by simp; omega
    clear h hT hbw
    cases t2 : T.kind == kind
    · have H := Lib.hid (show B = false by rw [HA.out, t2]; rfl)
      go_enter Tryz.func83, Tryz.ntmps83
      go_wp2_with fail
      go_quiet (fail)
      go_wp2_with fail
      go_ret
      exact givesE_bool H.out.symm (Ext.drewN (Ext.refl w) _)
    · have H := Lib.hid (show B = (T.text.toList == text.toList) by rw [HA.out, t2, toList_beq]; rfl)
      go_enter Tryz.func83, Tryz.ntmps83
      go_wp2_with fail
      go_quiet (fail)
      go_wp2_with fail
      go_ret
      exact givesE_bool H.out.symm (Ext.drewN (Ext.refl w) _)
  · have H := Lib.hid (show acceptB toks k kind text = false by rw [acceptB, (h.past h1).1])
    generalize acceptB toks k kind text = B at *
    have td : decide ((k : Int) < (tn : Int)) = false := by simp; omega
    clear h
    go_enter Tryz.func83, Tryz.ntmps83
    go_wp2_with fail
    go_quiet (fail)
    go_wp2_with fail
    go_ret
    exact givesE_bool H.out.symm (Ext.drewN (Ext.refl w) _)

set_option maxRecDepth 100000 in
/-- The first error is noted. -/
theorem fail_calls (h : RC toks ta tn tc w0 w br k er bad) (e2 at2 : Int) :
    Calls Tryz.prog 46 #[.pointer (some ⟨br, 0, none⟩), .int .i64 e2, .int .i64 at2] w (fun e w' => e = .returned (.tuple #[]) ∧ MovesR toks ta tn tc w0 w br k (if er = 0 then e2 else er) (if er = 0 then at2 else bad) w') := by
  obtain ⟨c0, c1, c2, c3, cf⟩ := blk4 h.hb
  have hlt := blk_lt h.hb
  have HR := Lib.hid h
  clear h
  by_cases h0 : er = 0
  · have t1 : (er == 0) = true := by simp [h0]
    have H0 := Lib.hid h0
    clear h0
    go_enter Tryz.func46, Tryz.ntmps46
    go_wp2_with fail
    go_end0
    refine ⟨rfl, ?_⟩
    have hb2 := heap_setCell_same _ br 3 _ _ (.int .i64 at2) (heap_setCell_same w br 2 _ _ (.int .i64 e2) HR.out.hb)
    have hc : Chg [br] w ((w.setCell ⟨br, 2, none⟩ (.int .i64 e2)).setCell ⟨br, 3, none⟩ (.int .i64 at2)) := ((Chg.refl _ _).setCell (Or.inl (by simp)) _).setCell (Or.inl (by simp)) _
    exact ⟨HR.out.step hc hb2 HR.out.hk, hc⟩
  · have t1 : (er == 0) = false := by simp [h0]
    have H0 := Lib.hid h0
    clear h0
    go_enter Tryz.func46, Tryz.ntmps46
    go_wp2_with fail
    go_end0
    refine ⟨rfl, ?_⟩
    exact ⟨HR.out, Chg.refl _ _⟩

theorem RC.next (h : RC toks ta tn tc w0 w br k er bad) (hk : k < tn) : RC toks ta tn tc w0 (w.setCell ⟨br, 1, none⟩ (.int .i64 ((k : Int) + 1))) br (k + 1) er bad ∧ Chg [br] w (w.setCell ⟨br, 1, none⟩ (.int .i64 ((k : Int) + 1))) := by
  have hc : Chg [br] w (w.setCell ⟨br, 1, none⟩ (.int .i64 ((k : Int) + 1))) := (Chg.refl _ _).setCell (Or.inl (by simp)) _
  have hb := heap_setCell_same w br 1 _ _ (.int .i64 ((k : Int) + 1)) h.hb
  exact ⟨h.step hc hb (by omega), hc⟩
/-- A token is wanted. -/
def wantS (toks : List Tok) (kind : Int) (text : ByteArray) (k : Nat) (er bad : Int) : Nat × Int × Int := if er = 0 then (if acceptB toks k kind text then (k + 1, 0, bad) else (k, 5, (k : Int))) else (k, er, bad)
def WantQ (S : Nat × Int × Int) (toks : List Tok) (ta : Option Addr) (tn tc : Nat) (w0 w : World) (br : Nat) (e : Ending) (w' : World) : Prop := e = .returned (.tuple #[]) ∧ MovesR toks ta tn tc w0 w br S.1 S.2.1 S.2.2 w'
set_option maxRecDepth 100000 in
set_option maxHeartbeats 1000000 in
theorem want_calls (h : RC toks ta tn tc w0 w br k er bad) (kind : Int) (text : ByteArray) :
    Calls Tryz.prog 132 #[.pointer (some ⟨br, 0, none⟩), .int .i64 kind, .string text] w (WantQ (wantS toks kind text k er bad) toks ta tn tc w0 w br) := by
  obtain ⟨c0, c1, c2, c3, cf⟩ := blk4 h.hb
  have hlt := blk_lt h.hb
  have HR := Lib.hid h
  have htn := h.htn
  have hk := h.hk
  clear h
  by_cases h0 : er = 0
  · have t1 : (er != 0) = false := by simp [h0]
    subst h0
    have HIS := Lib.hid (is_calls HR.out kind text)
    cases ha : acceptB toks k kind text
    · have HS := Lib.hid (show wantS toks kind text k 0 bad = (k, 5, (k : Int)) by rw [wantS, if_pos rfl, ha]; rfl)
      rw [ha] at HIS
      clear ha
      generalize wantS toks kind text k 0 bad = SS at *
      go_enter Tryz.func132, Tryz.ntmps132
      go_wp2_with fail
      refine HIS.out.mono ?_
      rintro r w1 ⟨rfl, hx1⟩
      have HR1 := Lib.hid (HR.out.ext hx1)
      have HX1 := Lib.hid hx1
      clear hx1 c0 c1 c2 c3 cf hlt
      obtain ⟨c0, c1, c2, c3, cf⟩ := blk4 HR1.out.hb
      have hlt := blk_lt HR1.out.hb
      go_wp2_with fail
      refine (fail_calls HR1.out 5 (k : Int)).mono ?_
      rintro r w2 ⟨rfl, hm⟩
      have HM := Lib.hid hm
      clear hm c0 c1 c2 c3 cf hlt
      go_wp2_with fail
      go_end0
      rw [HS.out]
      exact ⟨rfl, HM.out.1, (HX1.out.chg _).then HM.out.2⟩
    · have HS := Lib.hid (show wantS toks kind text k 0 bad = (k + 1, 0, bad) by rw [wantS, if_pos rfl, ha]; rfl)
      have hkn : k < tn := by have := acceptB_lt ha; have := HR.out.ht.1; omega
      rw [ha] at HIS
      clear ha
      generalize wantS toks kind text k 0 bad = SS at *
      go_enter Tryz.func132, Tryz.ntmps132
      go_wp2_with fail
      refine HIS.out.mono ?_
      rintro r w1 ⟨rfl, hx1⟩
      have HR1 := Lib.hid (HR.out.ext hx1)
      have HX1 := Lib.hid hx1
      clear hx1 c0 c1 c2 c3 cf hlt
      obtain ⟨c0, c1, c2, c3, cf⟩ := blk4 HR1.out.hb
      have hlt := blk_lt HR1.out.hb
      go_wp2_with fail
      go_end0
      rw [HS.out]
      exact ⟨rfl, (HR1.out.next hkn).1, (HX1.out.chg _).then (HR1.out.next hkn).2⟩
  · have t1 : (er != 0) = true := by simpa using h0
    have HS := Lib.hid (show wantS toks kind text k er bad = (k, er, bad) by rw [wantS, if_neg h0])
    clear h0
    generalize wantS toks kind text k er bad = SS at *
    go_enter Tryz.func132, Tryz.ntmps132
    go_wp2_with fail
    go_end0
    rw [HS.out]
    exact ⟨rfl, HR.out, Chg.refl _ _⟩

/-- A name is read. -/
def nameS (toks : List Tok) (k : Nat) (er bad : Int) : ByteArray × Nat × Int × Int := if er = 0 then (if nameTokB toks k then (textAt toks k, k + 1, 0, bad) else (⟨#[]⟩, k, 5, (k : Int))) else (⟨#[]⟩, k, er, bad)
def NameQ (S : ByteArray × Nat × Int × Int) (toks : List Tok) (ta : Option Addr) (tn tc : Nat) (w0 w : World) (br : Nat) (e : Ending) (w' : World) : Prop := e = .returned (.string S.1) ∧ MovesR toks ta tn tc w0 w br S.2.1 S.2.2.1 S.2.2.2 w'
end
end Go.Proofs.YtaepiiediblleaaGreatDoor

namespace Go.Proofs.YtaepiiediblleaaGreatDoor
open Go.RowKit
theorem Chg.keep {N : List Nat} {w w' : World} (h : Chg N w w') {p : Addr} {v : Value} (hp : w.cell? p = some v) (hn : p.block ∉ N) : w'.cell? p = some v := by
  rw [World.cell?_of_block (h.block _ (block_lt hp) hn)]; exact hp
section
variable {toks : List Tok} {ta : Option Addr} {tn tc : Nat} {w0 w : World} {br k : Nat} {er bad : Int}

set_option maxRecDepth 100000 in
set_option maxHeartbeats 2000000 in
theorem readName_calls (h : RC toks ta tn tc w0 w br k er bad) :
    Calls Tryz.prog 133 #[.pointer (some ⟨br, 0, none⟩)] w (NameQ (nameS toks k er bad) toks ta tn tc w0 w br) := by
  obtain ⟨c0, c1, c2, c3, cf⟩ := blk4 h.hb
  have hlt := blk_lt h.hb
  have HR := Lib.hid h
  have htn := h.htn
  have hk := h.hk
  by_cases h0 : er = 0
  · have t1 : (er != 0) = false := by simp [h0]
    subst h0
    by_cases h1 : k < tn
    · obtain ⟨T, b, off, hT, hTs, rfl, hbw, g0, g1, g2⟩ := h.tok h1
      have HN := Lib.hid (show nameTokB toks k = ((T.kind == 1) && nameB T.text) by rw [nameTokB, hT])
      have HTX := Lib.hid (show textAt toks k = T.text by rw [textAt, hT])
      have ti : (k : Int) < (tn : Int) := by omega
      have ti0 : (0 : Int) ≤ (k : Int) := by omega
      have td : decide (tn ≤ k) = false := by simp; omega
      have hne : b ≠ br := by omega
      clear h hT hbw
      cases t2 : T.kind == 1
      · have t3 : (T.kind != 1) = true := by simp only [bne, t2]; rfl
        have HS := Lib.hid (show nameS toks k 0 bad = (⟨#[]⟩, k, 5, (k : Int)) by rw [nameS, if_pos rfl, HN.out, t2]; rfl)
        generalize nameS toks k 0 bad = SS at *
        go_enter Tryz.func133, Tryz.ntmps133
        go_wp2_with fail
        go_quiet (fail)
        go_wp2_with fail
        refine (fail_calls (HR.out.ext (Ext.drewN (Ext.refl w) _)) 5 (k : Int)).mono ?_
        rintro r w2 ⟨rfl, hm⟩
        have HM := Lib.hid hm
        clear hm c0 c1 c2 c3 cf hlt
        go_wp2_with fail
        go_ret
        rw [HS.out]
        exact ⟨rfl, HM.out.1, ((Ext.drewN (Ext.refl w) _).chg _).then HM.out.2⟩
      · have t3 : (T.kind != 1) = false := by simp only [bne, t2]; rfl
        cases t4 : nameB T.text
        · have HS := Lib.hid (show nameS toks k 0 bad = (⟨#[]⟩, k, 5, (k : Int)) by rw [nameS, if_pos rfl, HN.out, t2, t4]; rfl)
          have HC := Lib.hid (fun (w : World) => rname_calls T.text w hTs)
          rw [t4] at HC
          clear t4
          generalize nameS toks k 0 bad = SS at *
          go_enter Tryz.func133, Tryz.ntmps133
          go_wp2_with fail
          go_quiet ((go_at_call 105; exact quiet_gives (HC.out _)))
          go_wp2_with fail
          refine (fail_calls (HR.out.ext (Ext.drewN (Ext.refl w) _)) 5 (k : Int)).mono ?_
          rintro r w2 ⟨rfl, hm⟩
          have HM := Lib.hid hm
          clear hm c0 c1 c2 c3 cf hlt
          go_wp2_with fail
          go_ret
          rw [HS.out]
          exact ⟨rfl, HM.out.1, ((Ext.drewN (Ext.refl w) _).chg _).then HM.out.2⟩
        · have HS := Lib.hid (show nameS toks k 0 bad = (T.text, k + 1, 0, bad) by rw [nameS, if_pos rfl, HN.out, t2, t4, HTX.out]; rfl)
          have HC := Lib.hid (fun (w : World) => rname_calls T.text w hTs)
          rw [t4] at HC
          clear t4
          generalize nameS toks k 0 bad = SS at *
          go_enter Tryz.func133, Tryz.ntmps133
          go_wp2_with fail
          go_quiet ((go_at_call 105; exact quiet_gives (HC.out _)))
          go_wp2_with fail
          obtain ⟨hr1, hc1⟩ := (HR.out.ext (Ext.drewN (Ext.refl w) nq)).next h1
          have HX := Lib.hid (Ext.drewN (Ext.refl w) nq)
          generalize (w.drewN nq).setCell ⟨br, 1, none⟩ (.int .i64 ((k : Int) + 1)) = w1 at *
          have HR1 := Lib.hid hr1
          have HC1 := Lib.hid hc1
          have e1 : w1.cell? ⟨b, off + k * 4 + 1, none⟩ = some (.string T.text) := HC1.out.keep (HX.out.cell g1) (by simpa using hne)
          clear hr1 hc1 c0 c1 c2 c3 cf hlt g0 g1 g2 hne
          obtain ⟨c0, c1, c2, c3, cf⟩ := blk4 HR1.out.hb
          replace c1 : w1.cell? ⟨br, 1, none⟩ = some (.int .i64 ((k : Int) + 1)) := c1
          have hlt := blk_lt HR1.out.hb
          go_quiet (fail)
          go_wp2_with fail
          go_ret
          rw [HS.out]
          exact ⟨rfl, HR1.out.ext (Ext.drewN (Ext.refl w1) _), ((HX.out.chg _).then HC1.out).drewN _⟩
    · have td : decide (tn ≤ k) = true := by simp; omega
      have HS := Lib.hid (show nameS toks k 0 bad = (⟨#[]⟩, k, 5, (k : Int)) by rw [nameS, if_pos rfl, show nameTokB toks k = false by rw [nameTokB, (h.past h1).1]]; rfl)
      generalize nameS toks k 0 bad = SS at *
      clear h
      go_enter Tryz.func133, Tryz.ntmps133
      go_wp2_with fail
      go_quiet (fail)
      go_wp2_with fail
      refine (fail_calls (HR.out.ext (Ext.drewN (Ext.refl w) _)) 5 (k : Int)).mono ?_
      rintro r w2 ⟨rfl, hm⟩
      have HM := Lib.hid hm
      clear hm c0 c1 c2 c3 cf hlt
      go_wp2_with fail
      go_ret
      rw [HS.out]
      exact ⟨rfl, HM.out.1, ((Ext.drewN (Ext.refl w) _).chg _).then HM.out.2⟩
  · have t1 : (er != 0) = true := by simpa using h0
    have HS := Lib.hid (show nameS toks k er bad = (⟨#[]⟩, k, er, bad) by rw [nameS, if_neg h0])
    clear h0 h
    generalize nameS toks k er bad = SS at *
    go_enter Tryz.func133, Tryz.ntmps133
    go_wp2_with fail
    go_ret
    rw [HS.out]
    exact ⟨rfl, HR.out, Chg.refl _ _⟩
/-- A number is read. -/
def numAt (toks : List Tok) (k : Nat) : Int := match toks[k]? with | some t => t.num | none => 0
def kindB (toks : List Tok) (k : Nat) (kind : Int) : Bool := match toks[k]? with | some t => t.kind == kind | none => false
def numS (toks : List Tok) (kind : Int) (k : Nat) (er bad : Int) : Int × Nat × Int × Int := if er = 0 then (if kindB toks k kind then (numAt toks k, k + 1, 0, bad) else (0, k, 5, (k : Int))) else (0, k, er, bad)
def NumQ (S : Int × Nat × Int × Int) (toks : List Tok) (ta : Option Addr) (tn tc : Nat) (w0 w : World) (br : Nat) (e : Ending) (w' : World) : Prop := e = .returned (.int .i64 S.1) ∧ MovesR toks ta tn tc w0 w br S.2.1 S.2.2.1 S.2.2.2 w'

set_option maxRecDepth 100000 in
set_option maxHeartbeats 2000000 in
theorem readNumber_calls (h : RC toks ta tn tc w0 w br k er bad) (kind : Int) :
    Calls Tryz.prog 143 #[.pointer (some ⟨br, 0, none⟩), .int .i64 kind] w (NumQ (numS toks kind k er bad) toks ta tn tc w0 w br) := by
  obtain ⟨c0, c1, c2, c3, cf⟩ := blk4 h.hb
  have hlt := blk_lt h.hb
  have HR := Lib.hid h
  have htn := h.htn
  have hk := h.hk
  by_cases h0 : er = 0
  · have t1 : (er != 0) = false := by simp [h0]
    subst h0
    by_cases h1 : k < tn
    · obtain ⟨T, b, off, hT, hTs, rfl, hbw, g0, g1, g2⟩ := h.tok h1
      have HN := Lib.hid (show kindB toks k kind = (T.kind == kind) by rw [kindB, hT])
      have HTX := Lib.hid (show numAt toks k = T.num by rw [numAt, hT])
      have ti : (k : Int) < (tn : Int) := by omega
      have ti0 : (0 : Int) ≤ (k : Int) := by omega
      have td : decide (tn ≤ k) = false := by simp; omega
      have hne : b ≠ br := by omega
      clear h hT hbw
      cases t2 : T.kind == kind
      · have t3 : (T.kind != kind) = true := by simp only [bne, t2]; rfl
        have HS := Lib.hid (show numS toks kind k 0 bad = (0, k, 5, (k : Int)) by rw [numS, if_pos rfl, HN.out, t2]; rfl)
        generalize numS toks kind k 0 bad = SS at *
        go_enter Tryz.func143, Tryz.ntmps143
        go_wp2_with fail
        go_quiet (fail)
        go_wp2_with fail
        refine (fail_calls (HR.out.ext (Ext.drewN (Ext.refl w) _)) 5 (k : Int)).mono ?_
        rintro r w2 ⟨rfl, hm⟩
        have HM := Lib.hid hm
        clear hm c0 c1 c2 c3 cf hlt
        go_wp2_with fail
        go_ret
        rw [HS.out]
        exact ⟨rfl, HM.out.1, ((Ext.drewN (Ext.refl w) _).chg _).then HM.out.2⟩
      · have t3 : (T.kind != kind) = false := by simp only [bne, t2]; rfl
        have HS := Lib.hid (show numS toks kind k 0 bad = (T.num, k + 1, 0, bad) by rw [numS, if_pos rfl, HN.out, t2, HTX.out]; rfl)
        generalize numS toks kind k 0 bad = SS at *
        go_enter Tryz.func143, Tryz.ntmps143
        go_wp2_with fail
        go_quiet (fail)
        go_wp2_with fail
        obtain ⟨hr1, hc1⟩ := (HR.out.ext (Ext.drewN (Ext.refl w) nq)).next h1
        have HX := Lib.hid (Ext.drewN (Ext.refl w) nq)
        generalize (w.drewN nq).setCell ⟨br, 1, none⟩ (.int .i64 ((k : Int) + 1)) = w1 at *
        have HR1 := Lib.hid hr1
        have HC1 := Lib.hid hc1
        have e1 : w1.cell? ⟨b, off + k * 4 + 2, none⟩ = some (.int .i64 T.num) := HC1.out.keep (HX.out.cell g2) (by simpa using hne)
        clear hr1 hc1 c0 c1 c2 c3 cf hlt g0 g1 g2 hne
        obtain ⟨c0, c1, c2, c3, cf⟩ := blk4 HR1.out.hb
        replace c1 : w1.cell? ⟨br, 1, none⟩ = some (.int .i64 ((k : Int) + 1)) := c1
        have hlt := blk_lt HR1.out.hb
        go_quiet (fail)
        go_wp2_with fail
        go_ret
        rw [HS.out]
        exact ⟨rfl, HR1.out.ext (Ext.drewN (Ext.refl w1) _), ((HX.out.chg _).then HC1.out).drewN _⟩
    · have td : decide (tn ≤ k) = true := by simp; omega
      have HS := Lib.hid (show numS toks kind k 0 bad = (0, k, 5, (k : Int)) by rw [numS, if_pos rfl, show kindB toks k kind = false by rw [kindB, (h.past h1).1]]; rfl)
      generalize numS toks kind k 0 bad = SS at *
      clear h
      go_enter Tryz.func143, Tryz.ntmps143
      go_wp2_with fail
      go_quiet (fail)
      go_wp2_with fail
      refine (fail_calls (HR.out.ext (Ext.drewN (Ext.refl w) _)) 5 (k : Int)).mono ?_
      rintro r w2 ⟨rfl, hm⟩
      have HM := Lib.hid hm
      clear hm c0 c1 c2 c3 cf hlt
      go_wp2_with fail
      go_ret
      rw [HS.out]
      exact ⟨rfl, HM.out.1, ((Ext.drewN (Ext.refl w) _).chg _).then HM.out.2⟩
  · have t1 : (er != 0) = true := by simpa using h0
    have HS := Lib.hid (show numS toks kind k er bad = (0, k, er, bad) by rw [numS, if_neg h0])
    clear h0 h
    generalize numS toks kind k er bad = SS at *
    go_enter Tryz.func143, Tryz.ntmps143
    go_wp2_with fail
    go_ret
    rw [HS.out]
    exact ⟨rfl, HR.out, Chg.refl _ _⟩
end
end Go.Proofs.YtaepiiediblleaaGreatDoor

namespace Go.Proofs.YtaepiiediblleaaGreatDoor
open Go.RowKit
section
variable {toks : List Tok} {ta : Option Addr} {tn tc : Nat} {w0 w : World} {br k : Nat} {er bad : Int}

/-- A bound is read. -/
def rboundS (toks : List Tok) (k : Nat) (er bad : Int) : Int × Nat × Int × Int := if numberB (numS toks 2 k er bad).1 = true then numS toks 2 k er bad else ((numS toks 2 k er bad).1, (numS toks 2 k er bad).2.1, if (numS toks 2 k er bad).2.2.1 = 0 then 1 else (numS toks 2 k er bad).2.2.1, if (numS toks 2 k er bad).2.2.1 = 0 then (k : Int) else (numS toks 2 k er bad).2.2.2)

set_option maxRecDepth 100000 in
set_option maxHeartbeats 1000000 in
theorem rbound_calls (h : RC toks ta tn tc w0 w br k er bad) :
    Calls Tryz.prog 135 #[.pointer (some ⟨br, 0, none⟩)] w (NumQ (rboundS toks k er bad) toks ta tn tc w0 w br) := by
  obtain ⟨c0, c1, c2, c3, cf⟩ := blk4 h.hb
  have hlt := blk_lt h.hb
  have HNUM := Lib.hid (readNumber_calls h 2)
  have HS := Lib.hid (show rboundS toks k er bad = if numberB (numS toks 2 k er bad).1 = true then numS toks 2 k er bad else ((numS toks 2 k er bad).1, (numS toks 2 k er bad).2.1, if (numS toks 2 k er bad).2.2.1 = 0 then 1 else (numS toks 2 k er bad).2.2.1, if (numS toks 2 k er bad).2.2.1 = 0 then (k : Int) else (numS toks 2 k er bad).2.2.2) from rfl)
  generalize rboundS toks k er bad = B at *
  generalize numS toks 2 k er bad = NS at *
  obtain ⟨n, k1, er1, bad1⟩ := NS
  have HR := Lib.hid h
  clear h
  cases hb : numberB n
  · have H := Lib.hid (show B = (n, k1, if er1 = 0 then 1 else er1, if er1 = 0 then (k : Int) else bad1) by rw [HS.out, if_neg (by simp [hb])])
    have HF := Lib.hid (fun w => far_calls n w)
    simp only [hb] at HF
    clear hb HS
    go_enter Tryz.func135, Tryz.ntmps135
    go_wp2_with fail
    refine HNUM.out.mono ?_
    rintro r w1 ⟨rfl, hm⟩
    have HM := Lib.hid hm
    clear hm c0 c1 c2 c3 cf hlt
    go_wp2_with fail
    refine (HF.out _).mono ?_
    rintro r w2 ⟨rfl, rfl⟩
    go_wp2_with fail
    refine (fail_calls HM.out.1 1 (k : Int)).mono ?_
    rintro r w2 ⟨rfl, hm2⟩
    have HM2 := Lib.hid hm2
    clear hm2
    go_wp2_with fail
    go_ret
    rw [H.out]
    exact ⟨rfl, HM2.out.1, HM.out.2.then HM2.out.2⟩
  · have H := Lib.hid (show B = (n, k1, er1, bad1) by rw [HS.out, if_pos hb])
    have HF := Lib.hid (fun w => far_calls n w)
    simp only [hb] at HF
    clear hb HS
    go_enter Tryz.func135, Tryz.ntmps135
    go_wp2_with fail
    refine HNUM.out.mono ?_
    rintro r w1 ⟨rfl, hm⟩
    have HM := Lib.hid hm
    clear hm c0 c1 c2 c3 cf hlt
    go_wp2_with fail
    refine (HF.out _).mono ?_
    rintro r w2 ⟨rfl, rfl⟩
    go_wp2_with fail
    go_ret
    rw [H.out]
    exact ⟨rfl, HM.out.1, HM.out.2⟩

/-- What the words read come to: the words, the error, the place after them or of the error. -/
def wordsR (toks : List Tok) (k : Nat) (er bad : Int) : List ByteArray × Int × Int := if er = 0 then ((listF toks k).1, (listF toks k).2.1, ((listF toks k).2.2 : Int)) else ([], er, bad)
def WordsQ (R : List ByteArray × Int × Int) (toks : List Tok) (ta : Option Addr) (tn tc : Nat) (w0 w : World) (br : Nat) (e : Ending) (w' : World) : Prop :=
  ∃ (a : Option Addr) (n c : Nat) (out : List ByteArray) (k' : Nat) (er' bad' : Int), e = .returned (.slice a n c) ∧ (∀ M : List Nat, (∀ x ∈ M, x < w.heap.size) → IsStrs (mask w' M) out a n c) ∧ MovesR toks ta tn tc w0 w br k' er' bad' w' ∧ er' = R.2.1 ∧ (er' = 0 → out = R.1 ∧ (k' : Int) = R.2.2) ∧ (er' ≠ 0 → bad' = R.2.2)
/-- The list of words, with its place as a number. -/
def castL (L : List ByteArray × Int × Nat) : List ByteArray × Int × Int := (L.1, L.2.1, (L.2.2 : Int))
/-- At the head of a round. -/
def RWordsI (R : List ByteArray × Int × Int) (toks : List Tok) (ta : Option Addr) (tn tc : Nat) (w0 w : World) (br : Nat) (m : Nat) (v : Value) (wr : World) : Prop :=
  ∃ (k1 : Nat) (er1 bad1 : Int) (acc : List ByteArray), m = (if er1 = 0 then 14 - acc.length else 0) ∧ acc.length ≤ 13 ∧ wr.ownsRow w.heap.size 9 1 v acc.length (acc.flatMap strCells) ∧ MovesR toks ta tn tc w0 w br k1 er1 bad1 wr ∧ (er1 = 0 → acc.length ≤ 12 ∧ castL (listLoop toks (14 - acc.length) k1 acc) = R) ∧ (er1 ≠ 0 → R.2.1 = er1 ∧ R.2.2 = bad1)

theorem words_start {R : List ByteArray × Int × Int} (hR : wordsR toks k er bad = R) {k1 : Nat} {er1 bad1 : Int} (h : wantS toks 4 ⟨#[40]⟩ k er bad = (k1, er1, bad1)) :
    (er1 = 0 → castL (listLoop toks 14 k1 []) = R) ∧ (er1 ≠ 0 → R.2.1 = er1 ∧ R.2.2 = bad1) := by
  subst hR
  unfold wantS at h
  unfold wordsR
  by_cases h0 : er = 0
  · rw [if_pos h0] at h ⊢
    unfold listF castL
    by_cases ha : acceptB toks k 4 ⟨#[40]⟩ = true
    · rw [if_pos ha] at h ⊢
      simp only [Prod.mk.injEq] at h
      obtain ⟨rfl, rfl, rfl⟩ := h
      simp
    · rw [if_neg ha] at h ⊢
      simp only [Prod.mk.injEq] at h
      obtain ⟨rfl, rfl, rfl⟩ := h
      simp
  · rw [if_neg h0] at h ⊢
    simp only [Prod.mk.injEq] at h
    obtain ⟨rfl, rfl, rfl⟩ := h
    exact ⟨fun h => absurd h h0, fun _ => ⟨rfl, rfl⟩⟩
theorem word_step {acc : List ByteArray} {R : List ByteArray × Int × Int} {k1 k2 : Nat} {bad1 er2 bad2 er3 bad3 er4 bad4 : Int} {s : ByteArray} (hacc : acc.length ≤ 12)
    (hR : castL (listLoop toks (14 - acc.length) k1 acc) = R) (hN : nameS toks k1 0 bad1 = (s, k2, er2, bad2))
    (h3 : er3 = if acc.length = 12 then (if er2 = 0 then 4 else er2) else er2) (h3b : bad3 = if acc.length = 12 then (if er2 = 0 then (k1 : Int) else bad2) else bad2)
    (h4 : er4 = if er3 = 0 ∧ s ∈ acc then 8 else er3) (h4b : bad4 = if er3 = 0 ∧ s ∈ acc then (k1 : Int) else bad3) :
    (er4 ≠ 0 → R.2.1 = er4 ∧ R.2.2 = bad4) ∧ (er4 = 0 → acc.length < 12 ∧ castL (if acceptB toks k2 4 ⟨#[44]⟩ = true then listLoop toks (13 - acc.length) (k2 + 1) (acc ++ [s]) else if acceptB toks k2 4 ⟨#[41]⟩ = true then (acc ++ [s], 0, k2 + 1) else ([], 5, k2)) = R) := by
  subst hR
  rw [show 14 - acc.length = (13 - acc.length) + 1 by omega, listLoop]
  unfold nameS at hN
  rw [if_pos rfl] at hN
  by_cases hn : nameTokB toks k1 = true
  · rw [if_pos hn] at hN
    simp only [Prod.mk.injEq] at hN
    obtain ⟨rfl, rfl, rfl, rfl⟩ := hN
    rw [if_neg (show ¬ nameTokB toks k1 = false by simp [hn])]
    by_cases hl : acc.length = 12
    · rw [if_pos hl] at h3 h3b ⊢
      simp only [if_true] at h3 h3b
      subst h3 h3b
      simp at h4 h4b
      subst h4 h4b
      exact ⟨fun _ => ⟨rfl, rfl⟩, fun h => absurd h (by decide)⟩
    · rw [if_neg hl] at h3 h3b ⊢
      subst h3 h3b
      by_cases hm : textAt toks k1 ∈ acc
      · rw [if_pos ⟨rfl, hm⟩] at h4 h4b
        rw [if_pos hm]
        subst h4 h4b
        exact ⟨fun _ => ⟨rfl, rfl⟩, fun h => absurd h (by decide)⟩
      · rw [if_neg (fun h => hm h.2)] at h4 h4b
        rw [if_neg hm]
        subst h4 h4b
        exact ⟨fun h => absurd rfl h, fun _ => ⟨by omega, rfl⟩⟩
  · rw [if_neg hn] at hN
    simp only [Prod.mk.injEq] at hN
    obtain ⟨rfl, rfl, rfl, rfl⟩ := hN
    rw [if_pos (show nameTokB toks k1 = false by simpa using hn)]
    have e3 : er3 = 5 := by rw [h3]; simp
    have b3 : bad3 = k1 := by rw [h3b]; simp
    subst e3 b3
    simp at h4 h4b
    subst h4 h4b
    exact ⟨fun _ => ⟨rfl, rfl⟩, fun h => absurd h (by decide)⟩
/-- Behind the loop. -/
theorem words_end {R : List ByteArray × Int × Int} {wr w' : World} {acc : List ByteArray} {v : Value} {k2 : Nat} {er2 bad2 : Int} (hbr : br < w.heap.size) (ho : wr.ownsRow w.heap.size 9 1 v acc.length (acc.flatMap strCells)) (hc : Chg [br] w wr)
    (h0 : er2 = 0 → castL (if acceptB toks k2 4 ⟨#[41]⟩ = true then (acc, 0, k2 + 1) else ([], 5, k2)) = R) (h1 : er2 ≠ 0 → R.2.1 = er2 ∧ R.2.2 = bad2) {S : Nat × Int × Int} (hS : wantS toks 4 ⟨#[41]⟩ k2 er2 bad2 = S) (hm : MovesR toks ta tn tc w0 wr br S.1 S.2.1 S.2.2 w') : WordsQ R toks ta tn tc w0 w br (.returned v) w' := by
  have ho' := owns_chg ho hm.2 (fun x hx => by have := (ho.lt x hx).1; simp; omega)
  obtain ⟨a5, c5, rfl, -⟩ := strs_of_owns ho' [] (by simp)
  refine ⟨a5, _, c5, acc, S.1, S.2.1, S.2.2, rfl, fun M hM => ?_, ⟨hm.1, hc.then hm.2⟩, ?_⟩
  · obtain ⟨a6, c6, e6, h8, -⟩ := strs_of_owns ho' M hM
    simp only [Value.slice.injEq] at e6
    obtain ⟨rfl, -, rfl⟩ := e6
    exact h8
  · subst hS
    unfold wantS
    by_cases e : er2 = 0
    · rw [if_pos e, ← h0 e]
      by_cases ha : acceptB toks k2 4 ⟨#[41]⟩ = true
      · rw [if_pos ha, if_pos ha]
        exact ⟨rfl, fun _ => ⟨rfl, rfl⟩, fun h => absurd rfl h⟩
      · rw [if_neg ha, if_neg ha]
        exact ⟨rfl, fun h => absurd (show (5 : Int) = 0 from h) (by decide), fun _ => rfl⟩
    · rw [if_neg e]
      exact ⟨(h1 e).1.symm, fun h => absurd h e, fun _ => (h1 e).2.symm⟩
end
end Go.Proofs.YtaepiiediblleaaGreatDoor
