/-
  Texts of the claim, joined: Read12, Read13, Read14, Read15, Read16, Read17.
-/
import Derived.Test.YtaepiiediblleaaGreatDoorTa17
import Derived.Test.YtaepiiediblleaaGreatDoorTa07
import Derived.Test.YtaepiiediblleaaGreatDoorTa13
import Derived.RegionTactic
namespace Go.Proofs.YtaepiiediblleaaGreatDoor
open Go.RowKit
theorem alloc_at2 {w : World} {o : Obj} {n : Nat} (h : n = w.heap.size) : (w.alloc o).heap[n]? = some o := by subst h; exact alloc_new w o
section
variable {toks : List Tok} {ta : Option Addr} {tn tc : Nat} {w0 w : World} {br k : Nat} {bad : Int}

set_option maxRecDepth 100000 in
set_option maxHeartbeats 4000000 in
theorem rneg_calls (h : RC toks ta tn tc w0 w br k 0 bad)
    (hat : ∀ (W : World) (n : Nat) (b2 : Int), RC toks ta tn tc w0 W br (k + n) 0 b2 → Calls Tryz.prog 124 #[.pointer (some ⟨br, 0, none⟩)] W (ReadQ .atom toks ta tn tc w0 W br (k + n))) :
    Calls Tryz.prog 104 #[.pointer (some ⟨br, 0, none⟩)] w (ReadQ .neg toks ta tn tc w0 w br k) := by
  have hltw := blk_lt h.hb
  have htn := h.htn
  have hea : Ext w (w.alloc (.cells exV0.cells.toArray 28)) := (Ext.refl w).alloc _
  have HR := Lib.hid (h.ext hea)
  have HC := Lib.hid (hea.chg [br])
  have HB := Lib.hid (alloc_new w (.cells exV0.cells.toArray 28))
  have hsz : (w.alloc (.cells exV0.cells.toArray 28)).heap.size = w.heap.size + 1 := by simp
  have HAT := Lib.hid hat
  clear h hea hat
  unfold exV0 ExV.cells at *
  go_enter Tryz.func104, Tryz.ntmps104
  go_upto_region 1 with fail
  generalize w.alloc (.cells #[.int .i64 0, .string ⟨#[]⟩, .slice none 0 0, .int .i64 0, .int .i64 0, .slice none 0 0] 28) = wa at *
  go_wp2_with fail
  go_loopg [3] (tn - k) (fun m v wr => ∃ n : Nat, m = tn - (k + n) ∧ v = .int .i64 n ∧ RC toks ta tn tc w0 wr br (k + n) 0 bad ∧ Chg [br] w wr ∧ wr.heap[w.heap.size]? = some (.cells #[.int .i64 0, .string ⟨#[]⟩, .slice none 0 0, .int .i64 0, .int .i64 0, .slice none 0 0] 28 (0, 0)) ∧ (∀ j, j < n → acceptB toks (k + j) 1 wNot = true))
  case atStart => exact ⟨0, rfl, rfl, HR.out, HC.out, HB.out, fun j hj => by omega⟩
  case round =>
    clear HR HC HB hsz
    obtain ⟨n, hm, rfl, hr, hc, hb, hno⟩ := hrel
    have HM := Lib.hid hm
    have HR := Lib.hid hr
    have HC := Lib.hid hc
    have HB := Lib.hid hb
    have HNO := Lib.hid hno
    have hkn := hr.hk
    obtain ⟨c0, c1, c2, c3, cf⟩ := blk4 hr.hb
    have hlt := blk_lt hr.hb
    have HI := Lib.hid (is_calls hr 1 wNot)
    clear hm hr hc hb hno
    cases ha : acceptB toks (k + n) 1 wNot
    · rw [ha] at HI
      have HA := Lib.hid ha
      clear ha
      go_wp2_with fail
      refine HI.out.mono ?_
      rintro r w1 ⟨rfl, hx1⟩
      have HR1 := Lib.hid (HR.out.ext hx1)
      have HC1 := Lib.hid (HC.out.then (hx1.chg _))
      have HB1 := Lib.hid (hx1.blk HB.out)
      clear c0 c1 c2 c3 cf hlt HR HC HB hx1 HI
      go_wp2_with fail
      refine (HAT.out _ _ _ HR1.out).mono ?_
      rintro r w3 ⟨v, x, e1, k', k1, er', bad', rfl, hx, hm, hg, h0, h1⟩
      have HX := Lib.hid hx
      have HMV := Lib.hid hm
      have HG := Lib.hid hg
      have HZ0 := Lib.hid h0
      have HZ1 := Lib.hid h1
      have HC3 := Lib.hid (HC1.out.then hm.2)
      have HB3 := Lib.hid (hm.2.blk HB1.out (by simp; omega))
      have hz3 := blk_lt HB3.out
      clear hx hm hg h0 h1
      unfold ExV.val exV
      go_upto_region 6 with fail
      have hx4 : Ext w3 (w3.alloc (.cells v.cells.toArray 28)) := (Ext.refl w3).alloc _
      have HB4 := Lib.hid (hx4.blk HB3.out)
      have HV4 := Lib.hid (alloc_new w3 (.cells v.cells.toArray 28))
      have HR4 := Lib.hid (HMV.out.1.ext hx4)
      have HC4 := Lib.hid (HC3.out.then (hx4.chg _))
      have HX4 := Lib.hid (fun (M : List Nat) (hM : ∀ y ∈ M, y < w.heap.size) => (HX.out (w.heap.size :: M) (by
        intro y hy
        have := blk_lt HB1.out
        simp only [List.mem_cons] at hy
        rcases hy with rfl | hy
        · omega
        · have := hM y hy; omega)).mono (mask_sub_mask (M' := w3.heap.size :: w.heap.size :: M) (w' := w3.alloc (.cells v.cells.toArray 28)) fun y hy hn => ⟨fun hm => by rcases List.mem_cons.1 hm with rfl | hm; exact Nat.lt_irrefl _ hy; exact hn hm, hx4.block y hy⟩))
      unfold ExV.cells at HB4 HV4 HR4 HC4 HX4
      generalize w3.alloc (.cells _ 28) = w4 at *
      clear hx4
      generalize hB4 : w3.heap.size = B4 at *
      go_loopg [3] n (fun m u wr => ∃ (i : Nat) (v' : ExV), i ≤ n ∧ m = i ∧ u = .int .i64 i ∧ wr.heap[B4]? = some (.cells v'.cells.toArray 28 (0, 0)) ∧ (∀ M : List Nat, (∀ y ∈ M, y < w.heap.size) → IsEx (mask wr (B4 :: w.heap.size :: M)) (notN (n - i) x) v'.val) ∧ MovesR toks ta tn tc w0 w br k' er' bad' wr ∧ wr.heap[w.heap.size]? = some (.cells #[.int .i64 0, .string ⟨#[]⟩, .slice none 0 0, .int .i64 0, .int .i64 0, .slice none 0 0] 28 (0, 0)))
      case atStart => exact ⟨n, v, Nat.le_refl _, rfl, rfl, HV4.out, by rw [Nat.sub_self]; exact HX4.out, ⟨HR4.out, HC4.out⟩, HB4.out⟩
      case round =>
        obtain ⟨i, v', hi, hm, rfl, hbx, hex, hmv, hres⟩ := hrel
        have HMM := Lib.hid hm
        have HBX := Lib.hid hbx
        have HEX := Lib.hid hex
        have HMV2 := Lib.hid hmv
        have HRS := Lib.hid hres
        have hbz := blk_lt hbx
        have hrz := blk_lt hres
        unfold ExV.cells at hbx
        obtain ⟨x0, x1, x2, x3, x4, x5, xf⟩ := blk6 hbx
        obtain ⟨b0, b1, b2, b3, b4, b5, bf⟩ := blk6 hres
        clear hm hbx hex hmv hres
        by_cases hi0 : 0 < i
        · have td : decide (0 < i) = true := by simpa using hi0
          have td2 : decide ((0 : Int) < (i : Int)) = true := by simp; omega
          go_wp2_with fail
          go_roundg (i - 1)
          case measure => have := HMM.out; omega
          case rel =>
            have hp := fun (L : List Nat) (hL : B4 ∈ L) => put6_chg wr B4 (⟨6, ⟨#[]⟩, none, 0, 0, 0, 0, some ⟨wr.heap.size, 0, none⟩, 1, 1⟩ : ExV) (N := L) hL
            have hs := put6_size wr B4 (⟨6, ⟨#[]⟩, none, 0, 0, 0, 0, some ⟨wr.heap.size, 0, none⟩, 1, 1⟩ : ExV)
            have hbb := put6_blk HBX.out (⟨6, ⟨#[]⟩, none, 0, 0, 0, 0, some ⟨wr.heap.size, 0, none⟩, 1, 1⟩ : ExV)
            have hw0 := HMV2.out.1.hbr
            have hbig := (hp [B4] (by simp)).alloc (.cells v'.cells.toArray 28)
            refine ⟨i - 1, ⟨6, ⟨#[]⟩, none, 0, 0, 0, 0, some ⟨wr.heap.size, 0, none⟩, 1, 1⟩, by omega, rfl, by rw [Int.ofNat_sub (by omega)]; rfl, blk_alloc hbb, fun M hM => ?_, ⟨HMV2.out.1.chg hbig (by simp; omega) (by simp; omega), HMV2.out.2.trans hbig (by intro y hy; simp at hy; subst hy; exact Or.inr (by omega))⟩, hbig.blk HRS.out (by simp; omega)⟩
            rw [show n - (i - 1) = (n - i) + 1 by omega, notN]
            refine isEx_not (t := 28) (x := v') (alloc_at2 hs.symm) (fun h => ?_) ?_
            · simp only [List.mem_cons] at h
              rcases h with h | h | h
              · omega
              · omega
              · have := hM _ h; omega
            · exact (HEX.out M hM).mono ((hp (B4 :: w.heap.size :: M) (by simp)).alloc _).sub
        · have td : decide (0 < i) = false := by simpa using hi0
          have td2 : decide ((0 : Int) < (i : Int)) = false := by simp; omega
          have hi1 : i = 0 := by omega
          go_wp2_with fail
          refine bodyPost_ret (v := v'.val) (by simp [results, Tryz.results104, go_sem, ExV.val, exV, b0, b1, b2, b3, b4, b5]) rfl ?_
          obtain ⟨e2, g2, g3⟩ := neg_end n k HNO.out HA.out HG.out
          refine read_fin (W := wr) (B := w.heap.size) (v := v') (x := notN (n - i) x) HMV2.out (Nat.le_refl _) hltw (fun M hM => (HEX.out M hM).mono (mask_less _ (fun y hy => List.mem_cons_of_mem _ hy))) g2 (fun e => ?_) HZ1.out
          rw [hi1, Nat.sub_zero, (HZ0.out e).1, g3 e]
          exact ⟨rfl, (HZ0.out e).2⟩
    · rw [ha] at HI
      have HA := Lib.hid ha
      have hkk : k + n < tn := by have := acceptB_lt ha; have := HR.out.ht.1; omega
      clear ha
      go_wp2_with fail
      refine HI.out.mono ?_
      rintro r w1 ⟨rfl, hx1⟩
      have HR1 := Lib.hid (HR.out.ext hx1)
      have HC1 := Lib.hid (HC.out.then (hx1.chg _))
      have HB1 := Lib.hid (hx1.blk HB.out)
      clear c0 c1 c2 c3 cf hlt HR HC HB hx1 HI
      obtain ⟨c0, c1, c2, c3, cf⟩ := blk4 HR1.out.hb
      have hlt := blk_lt HR1.out.hb
      go_wp2_with fail
      go_roundg (tn - (k + (n + 1)))
      case measure => have := HM.out; omega
      case rel =>
        obtain ⟨hr2, hc2⟩ := HR1.out.next hkk
        refine ⟨n + 1, rfl, rfl, hr2, HC1.out.then hc2, hc2.blk HB1.out (by simp; omega), fun j hj => ?_⟩
        by_cases hj2 : j = n
        · subst hj2; exact HA.out
        · exact HNO.out j (by omega)
end
end Go.Proofs.YtaepiiediblleaaGreatDoor

namespace Go.Proofs.YtaepiiediblleaaGreatDoor
open Go.RowKit
section
variable {toks : List Tok} {ta : Option Addr} {tn tc : Nat} {w0 w : World} {br k : Nat} {bad : Int}

/-- The grammar goes forward. -/
theorem Gr.ge {lev : Lev} {k : Nat} {acc : List Ex} {e : Ex} {er : Int} {k1 : Nat} (h : Gr toks lev k acc e er k1) : k ≤ k1 := by
  induction h with
  | parenOk _ _ _ ih => omega
  | parenErr _ _ _ ih => omega
  | parenNo _ _ _ ih => omega
  | operand _ => exact operandF_ge0 _ _
  | notOk _ _ ih => omega
  | notErr _ _ _ ih => omega
  | negAtom _ _ ih => exact ih
  | andStep _ _ _ ih1 ih2 => omega
  | andStop _ _ ih => exact ih
  | andErr _ _ ih => exact ih
  | orStep _ _ _ ih1 ih2 => omega
  | orStop _ _ ih => exact ih
  | orErr _ _ ih => exact ih

/-- The arguments of an and (an or) that have been read: the last one is x, read at kp. -/
def ManyI (lev1 lev2 : Lev) (toks : List Tok) (ta : Option Addr) (tn tc : Nat) (w0 w : World) (br k : Nat) (m : Nat) (v : Value) (wr : World) : Prop :=
  ∃ (acc : List Ex) (x e1 : Ex) (xs : List ExV) (kp kc k1 : Nat) (er bad : Int) (g cap : Nat), m = (if er = 0 then tn - kc else 0) ∧ acc.length ≤ kp ∧ k ≤ kp ∧ kp ≤ tn ∧ v = .slice (some ⟨g, 0, none⟩) (acc.length + 1) cap ∧
    MovesR toks ta tn tc w0 w br kc er bad wr ∧ wr.ownsRow (w.heap.size + 1) 28 6 (.slice (some ⟨g, 0, none⟩) (acc.length + 1) cap) (acc.length + 1) (xs.flatMap ExV.cells) ∧
    (∀ M : List Nat, (∀ y ∈ M, y < w.heap.size) → ExsR (mask wr (g :: w.heap.size :: M)) (acc ++ [x]) xs) ∧
    wr.heap[w.heap.size]? = some (.cells #[.int .i64 0, .string ⟨#[]⟩, .slice none 0 0, .int .i64 0, .int .i64 0, .slice none 0 0] 28 (0, 0)) ∧
    Gr toks lev1 kp [] e1 er k1 ∧ (er = 0 → x = e1 ∧ kc = k1) ∧ (er ≠ 0 → bad = (k1 : Int)) ∧ (∀ e2 er2 k2, Gr toks lev2 kp acc e2 er2 k2 → Gr toks lev2 k [] e2 er2 k2)
theorem owns_cells {W : World} {base g n cap : Nat} {e : TypeId} {size : Nat} {xs : List Value} (h : W.ownsRow base e size (.slice (some ⟨g, 0, none⟩) n cap) n xs) : ∀ j (hj : j < xs.length), W.cell? ⟨g, j, none⟩ = some xs[j] := fun j hj => by
  rw [h.cellAt _ (by rw [← h.1]; exact hj), List.getElem?_eq_getElem hj]
theorem owns_one {W : World} {base g : Nat} {x : ExV} (hg : W.heap[g]? = some (.cells x.cells.toArray 28 (0, 0))) (hb : base ≤ g) : W.ownsRow base 28 6 (.slice (some ⟨g, 0, none⟩) 1 1) 1 (([x] : List ExV).flatMap ExV.cells) :=
  ⟨rfl, Or.inr ⟨g, 1, x.cells.toArray, rfl, hb, hg, by omega, by unfold maxLen; omega, rfl, rfl⟩⟩
end
end Go.Proofs.YtaepiiediblleaaGreatDoor

namespace Go.Proofs.YtaepiiediblleaaGreatDoor
open Go.RowKit
section
variable {toks : List Tok} {ta : Option Addr} {tn tc : Nat} {w0 w : World} {br k : Nat} {bad : Int}

set_option maxRecDepth 100000 in
set_option maxHeartbeats 4000000 in
theorem rboth_calls (h : RC toks ta tn tc w0 w br k 0 bad)
    (hat : ∀ (W : World) (k' : Nat) (b2 : Int), k ≤ k' → RC toks ta tn tc w0 W br k' 0 b2 → Calls Tryz.prog 104 #[.pointer (some ⟨br, 0, none⟩)] W (ReadQ .neg toks ta tn tc w0 W br k')) :
    Calls Tryz.prog 82 #[.pointer (some ⟨br, 0, none⟩)] w (ReadQ .ands toks ta tn tc w0 w br k) := by
  have hltw := blk_lt h.hb
  have htn := h.htn
  have hkn := h.hk
  have hbr0 := h.hbr
  have hea : Ext w (w.alloc (.cells exV0.cells.toArray 28)) := (Ext.refl w).alloc _
  have HR := Lib.hid (h.ext hea)
  have HC := Lib.hid (hea.chg [br])
  have HB := Lib.hid (alloc_new w (.cells exV0.cells.toArray 28))
  have hsz : (w.alloc (.cells exV0.cells.toArray 28)).heap.size = w.heap.size + 1 := by simp
  have HAT := Lib.hid hat
  clear h hea hat
  unfold exV0 ExV.cells at *
  go_enter Tryz.func82, Tryz.ntmps82
  go_upto_region 1 with fail
  generalize w.alloc (.cells #[.int .i64 0, .string ⟨#[]⟩, .slice none 0 0, .int .i64 0, .int .i64 0, .slice none 0 0] 28) = wa at *
  go_wp2_with fail
  refine (HAT.out _ _ _ (Nat.le_refl _) HR.out).mono ?_
  rintro r w1 ⟨v, x, e1, k', k1, er', bad', rfl, hx, hm, hg, h0, h1⟩
  have HX := Lib.hid hx
  have HM := Lib.hid hm
  have HG := Lib.hid hg
  have HZ0 := Lib.hid h0
  have HZ1 := Lib.hid h1
  have HC1 := Lib.hid (HC.out.then hm.2)
  have HB1 := Lib.hid (hm.2.blk HB.out (by simp; omega))
  have hz1 := blk_lt HB1.out
  clear hx hm hg h0 h1 HR HC HB
  unfold ExV.val exV
  go_upto_region 2 with fail
  have hx2 : Ext w1 (w1.alloc (.cells v.cells.toArray 28)) := (Ext.refl w1).alloc _
  have HB2 := Lib.hid (hx2.blk HB1.out)
  have HV2 := Lib.hid (alloc_new w1 (.cells v.cells.toArray 28))
  have HR2 := Lib.hid (HM.out.1.ext hx2)
  have HC2 := Lib.hid (HC1.out.then (hx2.chg _))
  have HX2 := Lib.hid (fun (M : List Nat) (hM : ∀ y ∈ M, y < w.heap.size) => (HX.out (w.heap.size :: M) (by
    intro y hy
    simp only [List.mem_cons] at hy
    rcases hy with rfl | hy
    · omega
    · have := hM y hy; omega)).mono (mask_sub_mask (M' := w1.heap.size :: w.heap.size :: M) (w' := w1.alloc (.cells v.cells.toArray 28)) fun y hy hn => ⟨fun hm => by rcases List.mem_cons.1 hm with rfl | hm; exact Nat.lt_irrefl _ hy; exact hn hm, hx2.block y hy⟩))
  unfold ExV.cells at HB2 HV2 HR2 HC2 HX2
  generalize w1.alloc (.cells _ 28) = w2 at *
  clear hx2 HX HM HC1 HB1
  have HOW := Lib.hid (owns_one (base := w.heap.size + 1) (x := v) HV2.out (by omega))
  clear HV2
  go_loopg [3] (if er' = 0 then tn - k' else 0) (ManyI .neg .ands toks ta tn tc w0 w br k)
  case atStart => exact ⟨[], x, e1, [v], k, k', k1, er', bad', w1.heap.size, 1, rfl, by simp, Nat.le_refl _, hkn, rfl, ⟨HR2.out, HC2.out⟩, HOW.out, fun M hM => ExsR.snoc (ExsR.nil _) (HX2.out M hM), HB2.out, HG.out, HZ0.out, HZ1.out, fun e2 er2 k2 h => h⟩
  case round =>
    clear HOW HX2 HC2 HR2 HB2 HG HZ0 HZ1
    obtain ⟨acc, x, e1, xs, kp, kc, k1, er, bad, g, cap, hm, hacc, hkp, hkpn, rfl, hmv, hown, hex, hbox, hg, h0, h1, hcont⟩ := hrel
    have HMM := Lib.hid hm
    have HMV := Lib.hid hmv
    have HOW := Lib.hid hown
    have HEX := Lib.hid hex
    have HBX := Lib.hid hbox
    have HG := Lib.hid hg
    have HZ0 := Lib.hid h0
    have HZ1 := Lib.hid h1
    have HCT := Lib.hid hcont
    have hkc := hmv.1.hk
    have hgl : w.heap.size + 1 ≤ g ∧ g < wr.heap.size := hown.lt g rfl
    have hlen : xs.length = acc.length + 1 := by have := (hex [] (by simp)).1; simpa using this.symm
    obtain ⟨c0, c1, c2, c3, cf⟩ := blk4 hmv.1.hb
    have hlt := blk_lt hmv.1.hb
    clear hm hmv hown hex hbox hg h0 h1 hcont
    have hstop : (∀ er0 : Int, er = er0 → er0 ≠ 0 ∨ acceptB toks kc 1 wAnd = false) → ∃ e2 kk, Gr toks .ands k [] e2 er kk ∧ (er = 0 → joinE 7 (acc ++ [x]) = e2 ∧ kc = kk) ∧ (er ≠ 0 → bad = (kk : Int)) := by
      intro hh
      by_cases he : er = 0
      · subst he
        obtain ⟨rfl, rfl⟩ := HZ0.out rfl
        rcases hh 0 rfl with h | h
        · exact absurd rfl h
        · exact ⟨_, _, HCT.out _ _ _ (Gr.andStop HG.out h), fun _ => ⟨rfl, rfl⟩, fun h => absurd rfl h⟩
      · exact ⟨_, _, HCT.out _ _ _ (Gr.andErr HG.out he), fun h => absurd h he, HZ1.out⟩
    have HSTOP := Lib.hid hstop
    clear hstop
    by_cases hgo : er = 0 ∧ acceptB toks kc 1 wAnd = true
    · obtain ⟨he, ha⟩ := hgo
      subst he
      have hkk : kc < tn := by have := acceptB_lt ha; have := HMV.out.1.ht.1; omega
      have HM0 := Lib.hid (HMM.out.trans (if_pos rfl))
      have HI := Lib.hid (is_calls HMV.out.1 1 wAnd)
      rw [ha] at HI
      have HA := Lib.hid ha
      have HZ00 := Lib.hid (HZ0.out rfl)
      have hkge : kp ≤ kc := by have := HG.out.ge; have := HZ00.out.2; omega
      clear HZ0
      clear ha HSTOP HMM
      go_wp2_with fail
      refine HI.out.mono ?_
      rintro r w3 ⟨rfl, hx3⟩
      have HR3 := Lib.hid (HMV.out.1.ext hx3)
      have HC3 := Lib.hid (HMV.out.2.then (hx3.chg _))
      have HW3 := Lib.hid (hx3.chg (br :: []))
      clear c0 c1 c2 c3 cf hlt HI hx3
      obtain ⟨c0, c1, c2, c3, cf⟩ := blk4 HR3.out.hb
      have hlt := blk_lt HR3.out.hb
      go_upto_region 4 with fail
      obtain ⟨hr4, hc4⟩ := HR3.out.next hkk
      have HR4 := Lib.hid hr4
      have HC4 := Lib.hid (HC3.out.then hc4)
      have HW4 := Lib.hid (HW3.out.then hc4)
      generalize w3.setCell ⟨br, 1, none⟩ (.int .i64 ((kc : Int) + 1)) = w4 at *
      clear hr4 hc4 c0 c1 c2 c3 cf hlt HR3 HC3 HW3
      have hz4 := HW4.out.size
      go_wp2_with fail
      refine (HAT.out _ _ _ (by omega) HR4.out).mono ?_
      rintro r w5 ⟨v, x', e1', k', k1', er', bad', rfl, hx, hm, hg, h0, h1⟩
      have HX5 := Lib.hid hx
      have HM5 := Lib.hid hm
      have HG5 := Lib.hid hg
      have HZ05 := Lib.hid h0
      have HZ15 := Lib.hid h1
      have HW5 := Lib.hid (HW4.out.then hm.2)
      have HC5 := Lib.hid (HC4.out.then hm.2)
      have hz5 := hm.2.size
      have HO5 := Lib.hid (owns_chg HOW.out HW5.out (fun y hy h => by
        have h2 : y = br := List.mem_singleton.1 h
        have := (HOW.out.lt y hy).1
        omega))
      clear hx hm hg h0 h1
      unfold ExV.val exV
      go_wp2_with (at_builtin; refine wpList_append2 elemEx rfl _ _ rfl (w.heap.size + 1) _ _ _ rfl HO5.out _ 1 1 rfl ?c0 rfl ?c1 (by omega) ?c2 (by omega) ?c4 ?_)
      case c0 => simp
      case c1 => simp [Value.oneCell']
      case c2 => omega
      case c4 => omega
      intro g6 cap6 w6 ho6 hg6 hl6 hlt6
      have HO6 := Lib.hid ho6
      have HGR := Lib.hid hg6
      have HL6 := Lib.hid hl6
      clear ho6 hg6 hl6
      go_wp2_with fail
      go_roundg (if er' = 0 then tn - k' else 0)
      case measure =>
        have := HM0.out
        have := HG5.out.ge
        have := HM5.out.1.hk
        by_cases he : er' = 0
        · rw [if_pos he]
          have := (HZ05.out he).2
          omega
        · rw [if_neg he]; omega
      case rel =>
        have hcg : Chg [g] w5 w6 := by
          have h1 := grown_chg (v := .slice (some ⟨g, 0, none⟩) (acc.length + 1) cap) HGR.out
          exact (((Ext.refl w5).alloc _).chg _).then h1
        refine ⟨acc ++ [x], x', e1', xs ++ [v], kc + 1, k', k1', er', bad', g6, cap6, rfl, by simp; omega, by omega, by omega, by simp, ⟨HM5.out.1.chg hcg (fun h => ?_) (fun y hy => ?_), HC5.out.trans hcg (fun y hy => ?_)⟩, ?_, fun M hM => ?_, ?_, HG5.out, HZ05.out, HZ15.out, fun e2 er2 k2 h => HCT.out _ _ _ (Gr.andStep HG.out ?_ ?_)⟩
        · have h2 : br = g := List.mem_singleton.1 h
          omega
        · have h2 : y = g := List.mem_singleton.1 hy
          omega
        · have h2 : y = g := List.mem_singleton.1 hy
          exact Or.inr (by omega)
        · rw [List.flatMap_append]
          simpa [ExV.cells] using HO6.out
        · refine ExsR.snoc ((HEX.out (br :: M) (fun y hy => ?_)).mono (mask_sub_mask fun y hy hn => ⟨fun h => ?_, ?_⟩)) ((HX5.out (g :: w.heap.size :: M) (fun y hy => ?_)).mono (mask_sub_mask fun y hy hn => ⟨fun h => ?_, ?_⟩))
          · rcases List.mem_cons.1 hy with rfl | hy
            · exact hltw
            · exact hM y hy
          · rcases List.mem_cons.1 h with h | h
            · rcases HL6.out with h3 | h3
              · have h4 : g = g6 := by simpa [Value.ownBlock] using h3
                exact hn (by simp [h, h4])
              · omega
            · rcases List.mem_cons.1 h with h | h
              · exact hn (by simp [h])
              · exact hn (by simp [h])
          · rw [hcg.block y (by omega) (fun h => hn (by have h2 : y = g := List.mem_singleton.1 h; simp [h2]))]
            exact HW5.out.block y hy (fun h => hn (by have h2 : y = br := List.mem_singleton.1 h; simp [h2]))
          · simp only [List.mem_cons] at hy
            rcases hy with rfl | rfl | hy
            · omega
            · omega
            · have := hM y hy; omega
          · rcases List.mem_cons.1 h with h | h
            · rcases HL6.out with h3 | h3
              · have h4 : g = g6 := by simpa [Value.ownBlock] using h3
                exact hn (by simp [h, h4])
              · omega
            · exact hn (List.mem_cons_of_mem _ h)
          · exact hcg.block y hy (fun h => hn (by have h2 : y = g := List.mem_singleton.1 h; simp [h2]))
        · exact hcg.blk (HW5.out.blk HBX.out (by simp; omega)) (by simp; omega)
        · rw [← HZ00.out.2]; exact HA.out
        · rw [← HZ00.out.2, ← HZ00.out.1]; exact h
    · obtain ⟨e2, kk, g2, g3, g4⟩ := HSTOP.out (fun er0 he => by
        by_cases h0 : er0 = 0
        · refine Or.inr ?_
          cases ha : acceptB toks kc 1 wAnd
          · rfl
          · exact absurd ⟨by omega, ha⟩ hgo
        · exact Or.inl h0)
      have HG2 := Lib.hid g2
      have HG3 := Lib.hid g3
      have HG4 := Lib.hid g4
      clear g2 g3 g4 HSTOP HCT HG HZ0 HZ1 HMM HAT
      by_cases he : er = 0
      case' pos =>
        have ha : acceptB toks kc 1 wAnd = false := by
          cases ha : acceptB toks kc 1 wAnd
          · rfl
          · exact absurd ⟨he, ha⟩ hgo
        have t1 : (er == 0) = true := by simp [he]
        have HI := Lib.hid (is_calls HMV.out.1 1 wAnd)
        rw [ha] at HI
        clear ha hgo he
        go_wp2_with fail
        refine HI.out.mono ?_
        rintro r w3 ⟨rfl, hx3⟩
        have HR3 := Lib.hid (HMV.out.1.ext hx3)
        have HC3 := Lib.hid (HMV.out.2.then (hx3.chg _))
        have HO3 := Lib.hid (owns_ext HOW.out hx3)
        have HX3 := Lib.hid (fun (M : List Nat) (hM : ∀ y ∈ M, y < w.heap.size) => (HEX.out M hM).mono (mask_ext _ hx3))
        have HB3 := Lib.hid (hx3.blk HBX.out)
        clear c0 c1 c2 c3 cf hlt HI hx3 HMV HOW HEX HBX
        go_upto_region 5 with fail
      case' neg =>
        have t1 : (er == 0) = false := by simp [he]
        have HR3 := Lib.hid HMV.out.1
        have HC3 := Lib.hid HMV.out.2
        have HO3 := HOW
        have HX3 := HEX
        have HB3 := HBX
        clear hgo he HMV HOW HEX HBX
        go_upto_region 5 with fail
        clear c0 c1 c2 c3 cf hlt
        generalize wr = w3 at *
      all_goals
        have hz3 := blk_lt HB3.out
        have hg3 := (HO3.out.lt g rfl).2
        obtain ⟨b0, b1, b2, b3, b4, b5, bf⟩ := blk6 HB3.out
        by_cases hn : acc = []
        · subst hn
          obtain ⟨xv, rfl⟩ : ∃ xv, xs = [xv] := by
            match xs, hlen with
            | [xv], _ => exact ⟨xv, rfl⟩
          have q := owns_cells HO3.out
          have q0 : w3.cell? ⟨g, 0, none⟩ = some (.int .i64 xv.op) := q 0 (by simp [ExV.cells])
          have q1 : w3.cell? ⟨g, 1, none⟩ = some (.string xv.name) := q 1 (by simp [ExV.cells])
          have q2 : w3.cell? ⟨g, 2, none⟩ = some (.slice xv.aw xv.nw xv.cw) := q 2 (by simp [ExV.cells])
          have q3 : w3.cell? ⟨g, 3, none⟩ = some (.int .i64 xv.lo) := q 3 (by simp [ExV.cells])
          have q4 : w3.cell? ⟨g, 4, none⟩ = some (.int .i64 xv.hi) := q 4 (by simp [ExV.cells])
          have q5 : w3.cell? ⟨g, 5, none⟩ = some (.slice xv.aa xv.na xv.ca) := q 5 (by simp [ExV.cells])
          clear q
          go_wp2_with fail
          refine bodyPost_ret (v := xv.val) (by simp [results, Tryz.results82, go_sem, ExV.val, exV, b0, b1, b2, b3, b4, b5]) rfl ?_
          refine read_fin (W := w3) (B := w.heap.size) (v := xv) (x := x) ⟨HR3.out, HC3.out⟩ (Nat.le_refl _) hltw (fun M hM => ?_) HG2.out (fun e => HG3.out e) HG4.out
          have hh := (HX3.out M hM).2 0 (by simp) (by simp)
          exact hh.mono (mask_less _ (fun y hy => List.mem_cons_of_mem _ hy))
        · have hl2 : 1 ≤ acc.length := by
            cases acc with
            | nil => exact absurd rfl hn
            | cons a r => simp
          have t5 : (((acc.length + 1 : Nat) : Int) == 1) = false := by simp; omega
          have t6 : ((acc.length : Int) + 1 == 1) = false := by simp; omega
          have HJ := Lib.hid (show joinE 7 (acc ++ [x]) = .mk 7 ⟨#[]⟩ [] 0 0 (acc ++ [x]) by
            match acc, hl2 with
            | [a], _ => rfl
            | a :: b :: r, _ => rfl)
          have HLL := Lib.hid (show (acc ++ [x]).length = acc.length + 1 by simp)
          go_wp2_with fail
          refine bodyPost_ret (v := (ExV.mk 7 ⟨#[]⟩ none 0 0 0 0 (some ⟨g, 0, none⟩) (acc.length + 1) cap).val) (by simp [results, Tryz.results82, go_sem, ExV.val, exV, b0, b1, b2, b3, b4, b5]) rfl ?_
          refine read_fin (W := w3) (B := w.heap.size) (v := ⟨7, ⟨#[]⟩, none, 0, 0, 0, 0, some ⟨g, 0, none⟩, acc.length + 1, cap⟩) (x := .mk 7 ⟨#[]⟩ [] 0 0 (acc ++ [x])) ⟨HR3.out, HC3.out⟩ (Nat.le_refl _) hltw (fun M hM => ?_) HG2.out (fun e => by rw [← HJ.out]; exact HG3.out e) HG4.out
          have hO : w3.ownsRow (w.heap.size + 1) 28 6 (.slice (some ⟨g, 0, none⟩) (acc ++ [x]).length cap) (acc ++ [x]).length (xs.flatMap ExV.cells) := by rw [HLL.out]; exact HO3.out
          obtain ⟨sa, sc, hv, hq1, hq2, hq3⟩ := exs_owns (M := w.heap.size :: M) hO (fun q hq h => by
            have h1 := (hO.lt q hq).1
            rcases List.mem_cons.1 h with h | h
            · omega
            · have := hM q h; omega) ((HX3.out M hM).mono (mask_less _ (fun q hq => List.mem_cons_of_mem _ hq)))
          simp only [Value.slice.injEq] at hv
          obtain ⟨rfl, -, rfl⟩ := hv
          rw [HLL.out] at hq1
          exact IsEx.mk ⟨rfl, Nat.le_refl 0, Or.inl ⟨rfl, rfl⟩, fun i hi => by simp at hi⟩ HLL.out.symm hq1 hq2 hq3
end
end Go.Proofs.YtaepiiediblleaaGreatDoor

namespace Go.Proofs.YtaepiiediblleaaGreatDoor
open Go.RowKit
section
variable {toks : List Tok} {ta : Option Addr} {tn tc : Nat} {w0 w : World} {br k : Nat} {bad : Int}

set_option maxRecDepth 100000 in
set_option maxHeartbeats 4000000 in
theorem reither_calls (h : RC toks ta tn tc w0 w br k 0 bad)
    (hat : ∀ (W : World) (k' : Nat) (b2 : Int), k ≤ k' → RC toks ta tn tc w0 W br k' 0 b2 → Calls Tryz.prog 82 #[.pointer (some ⟨br, 0, none⟩)] W (ReadQ .ands toks ta tn tc w0 W br k')) :
    Calls Tryz.prog 44 #[.pointer (some ⟨br, 0, none⟩)] w (ReadQ .ors toks ta tn tc w0 w br k) := by
  have hltw := blk_lt h.hb
  have htn := h.htn
  have hkn := h.hk
  have hbr0 := h.hbr
  have hea : Ext w (w.alloc (.cells exV0.cells.toArray 28)) := (Ext.refl w).alloc _
  have HR := Lib.hid (h.ext hea)
  have HC := Lib.hid (hea.chg [br])
  have HB := Lib.hid (alloc_new w (.cells exV0.cells.toArray 28))
  have hsz : (w.alloc (.cells exV0.cells.toArray 28)).heap.size = w.heap.size + 1 := by simp
  have HAT := Lib.hid hat
  clear h hea hat
  unfold exV0 ExV.cells at *
  go_enter Tryz.func44, Tryz.ntmps44
  go_upto_region 1 with fail
  generalize w.alloc (.cells #[.int .i64 0, .string ⟨#[]⟩, .slice none 0 0, .int .i64 0, .int .i64 0, .slice none 0 0] 28) = wa at *
  go_wp2_with fail
  refine (HAT.out _ _ _ (Nat.le_refl _) HR.out).mono ?_
  rintro r w1 ⟨v, x, e1, k', k1, er', bad', rfl, hx, hm, hg, h0, h1⟩
  have HX := Lib.hid hx
  have HM := Lib.hid hm
  have HG := Lib.hid hg
  have HZ0 := Lib.hid h0
  have HZ1 := Lib.hid h1
  have HC1 := Lib.hid (HC.out.then hm.2)
  have HB1 := Lib.hid (hm.2.blk HB.out (by simp; omega))
  have hz1 := blk_lt HB1.out
  clear hx hm hg h0 h1 HR HC HB
  unfold ExV.val exV
  go_upto_region 2 with fail
  have hx2 : Ext w1 (w1.alloc (.cells v.cells.toArray 28)) := (Ext.refl w1).alloc _
  have HB2 := Lib.hid (hx2.blk HB1.out)
  have HV2 := Lib.hid (alloc_new w1 (.cells v.cells.toArray 28))
  have HR2 := Lib.hid (HM.out.1.ext hx2)
  have HC2 := Lib.hid (HC1.out.then (hx2.chg _))
  have HX2 := Lib.hid (fun (M : List Nat) (hM : ∀ y ∈ M, y < w.heap.size) => (HX.out (w.heap.size :: M) (by
    intro y hy
    simp only [List.mem_cons] at hy
    rcases hy with rfl | hy
    · omega
    · have := hM y hy; omega)).mono (mask_sub_mask (M' := w1.heap.size :: w.heap.size :: M) (w' := w1.alloc (.cells v.cells.toArray 28)) fun y hy hn => ⟨fun hm => by rcases List.mem_cons.1 hm with rfl | hm; exact Nat.lt_irrefl _ hy; exact hn hm, hx2.block y hy⟩))
  unfold ExV.cells at HB2 HV2 HR2 HC2 HX2
  generalize w1.alloc (.cells _ 28) = w2 at *
  clear hx2 HX HM HC1 HB1
  have HOW := Lib.hid (owns_one (base := w.heap.size + 1) (x := v) HV2.out (by omega))
  clear HV2
  go_loopg [3] (if er' = 0 then tn - k' else 0) (ManyI .ands .ors toks ta tn tc w0 w br k)
  case atStart => exact ⟨[], x, e1, [v], k, k', k1, er', bad', w1.heap.size, 1, rfl, by simp, Nat.le_refl _, hkn, rfl, ⟨HR2.out, HC2.out⟩, HOW.out, fun M hM => ExsR.snoc (ExsR.nil _) (HX2.out M hM), HB2.out, HG.out, HZ0.out, HZ1.out, fun e2 er2 k2 h => h⟩
  case round =>
    clear HOW HX2 HC2 HR2 HB2 HG HZ0 HZ1
    obtain ⟨acc, x, e1, xs, kp, kc, k1, er, bad, g, cap, hm, hacc, hkp, hkpn, rfl, hmv, hown, hex, hbox, hg, h0, h1, hcont⟩ := hrel
    have HMM := Lib.hid hm
    have HMV := Lib.hid hmv
    have HOW := Lib.hid hown
    have HEX := Lib.hid hex
    have HBX := Lib.hid hbox
    have HG := Lib.hid hg
    have HZ0 := Lib.hid h0
    have HZ1 := Lib.hid h1
    have HCT := Lib.hid hcont
    have hkc := hmv.1.hk
    have hgl : w.heap.size + 1 ≤ g ∧ g < wr.heap.size := hown.lt g rfl
    have hlen : xs.length = acc.length + 1 := by have := (hex [] (by simp)).1; simpa using this.symm
    obtain ⟨c0, c1, c2, c3, cf⟩ := blk4 hmv.1.hb
    have hlt := blk_lt hmv.1.hb
    clear hm hmv hown hex hbox hg h0 h1 hcont
    have hstop : (∀ er0 : Int, er = er0 → er0 ≠ 0 ∨ acceptB toks kc 1 wOr = false) → ∃ e2 kk, Gr toks .ors k [] e2 er kk ∧ (er = 0 → joinE 8 (acc ++ [x]) = e2 ∧ kc = kk) ∧ (er ≠ 0 → bad = (kk : Int)) := by
      intro hh
      by_cases he : er = 0
      · subst he
        obtain ⟨rfl, rfl⟩ := HZ0.out rfl
        rcases hh 0 rfl with h | h
        · exact absurd rfl h
        · exact ⟨_, _, HCT.out _ _ _ (Gr.orStop HG.out h), fun _ => ⟨rfl, rfl⟩, fun h => absurd rfl h⟩
      · exact ⟨_, _, HCT.out _ _ _ (Gr.orErr HG.out he), fun h => absurd h he, HZ1.out⟩
    have HSTOP := Lib.hid hstop
    clear hstop
    by_cases hgo : er = 0 ∧ acceptB toks kc 1 wOr = true
    · obtain ⟨he, ha⟩ := hgo
      subst he
      have hkk : kc < tn := by have := acceptB_lt ha; have := HMV.out.1.ht.1; omega
      have HM0 := Lib.hid (HMM.out.trans (if_pos rfl))
      have HI := Lib.hid (is_calls HMV.out.1 1 wOr)
      rw [ha] at HI
      have HA := Lib.hid ha
      have HZ00 := Lib.hid (HZ0.out rfl)
      have hkge : kp ≤ kc := by have := HG.out.ge; have := HZ00.out.2; omega
      clear HZ0
      clear ha HSTOP HMM
      go_wp2_with fail
      refine HI.out.mono ?_
      rintro r w3 ⟨rfl, hx3⟩
      have HR3 := Lib.hid (HMV.out.1.ext hx3)
      have HC3 := Lib.hid (HMV.out.2.then (hx3.chg _))
      have HW3 := Lib.hid (hx3.chg (br :: []))
      clear c0 c1 c2 c3 cf hlt HI hx3
      obtain ⟨c0, c1, c2, c3, cf⟩ := blk4 HR3.out.hb
      have hlt := blk_lt HR3.out.hb
      go_upto_region 4 with fail
      obtain ⟨hr4, hc4⟩ := HR3.out.next hkk
      have HR4 := Lib.hid hr4
      have HC4 := Lib.hid (HC3.out.then hc4)
      have HW4 := Lib.hid (HW3.out.then hc4)
      generalize w3.setCell ⟨br, 1, none⟩ (.int .i64 ((kc : Int) + 1)) = w4 at *
      clear hr4 hc4 c0 c1 c2 c3 cf hlt HR3 HC3 HW3
      have hz4 := HW4.out.size
      go_wp2_with fail
      refine (HAT.out _ _ _ (by omega) HR4.out).mono ?_
      rintro r w5 ⟨v, x', e1', k', k1', er', bad', rfl, hx, hm, hg, h0, h1⟩
      have HX5 := Lib.hid hx
      have HM5 := Lib.hid hm
      have HG5 := Lib.hid hg
      have HZ05 := Lib.hid h0
      have HZ15 := Lib.hid h1
      have HW5 := Lib.hid (HW4.out.then hm.2)
      have HC5 := Lib.hid (HC4.out.then hm.2)
      have hz5 := hm.2.size
      have HO5 := Lib.hid (owns_chg HOW.out HW5.out (fun y hy h => by
        have h2 : y = br := List.mem_singleton.1 h
        have := (HOW.out.lt y hy).1
        omega))
      clear hx hm hg h0 h1
      unfold ExV.val exV
      go_wp2_with (at_builtin; refine wpList_append2 elemEx rfl _ _ rfl (w.heap.size + 1) _ _ _ rfl HO5.out _ 1 1 rfl ?c0 rfl ?c1 (by omega) ?c2 (by omega) ?c4 ?_)
      case c0 => simp
      case c1 => simp [Value.oneCell']
      case c2 => omega
      case c4 => omega
      intro g6 cap6 w6 ho6 hg6 hl6 hlt6
      have HO6 := Lib.hid ho6
      have HGR := Lib.hid hg6
      have HL6 := Lib.hid hl6
      clear ho6 hg6 hl6
      go_wp2_with fail
      go_roundg (if er' = 0 then tn - k' else 0)
      case measure =>
        have := HM0.out
        have := HG5.out.ge
        have := HM5.out.1.hk
        by_cases he : er' = 0
        · rw [if_pos he]
          have := (HZ05.out he).2
          omega
        · rw [if_neg he]; omega
      case rel =>
        have hcg : Chg [g] w5 w6 := by
          have h1 := grown_chg (v := .slice (some ⟨g, 0, none⟩) (acc.length + 1) cap) HGR.out
          exact (((Ext.refl w5).alloc _).chg _).then h1
        refine ⟨acc ++ [x], x', e1', xs ++ [v], kc + 1, k', k1', er', bad', g6, cap6, rfl, by simp; omega, by omega, by omega, by simp, ⟨HM5.out.1.chg hcg (fun h => ?_) (fun y hy => ?_), HC5.out.trans hcg (fun y hy => ?_)⟩, ?_, fun M hM => ?_, ?_, HG5.out, HZ05.out, HZ15.out, fun e2 er2 k2 h => HCT.out _ _ _ (Gr.orStep HG.out ?_ ?_)⟩
        · have h2 : br = g := List.mem_singleton.1 h
          omega
        · have h2 : y = g := List.mem_singleton.1 hy
          omega
        · have h2 : y = g := List.mem_singleton.1 hy
          exact Or.inr (by omega)
        · rw [List.flatMap_append]
          simpa [ExV.cells] using HO6.out
        · refine ExsR.snoc ((HEX.out (br :: M) (fun y hy => ?_)).mono (mask_sub_mask fun y hy hn => ⟨fun h => ?_, ?_⟩)) ((HX5.out (g :: w.heap.size :: M) (fun y hy => ?_)).mono (mask_sub_mask fun y hy hn => ⟨fun h => ?_, ?_⟩))
          · rcases List.mem_cons.1 hy with rfl | hy
            · exact hltw
            · exact hM y hy
          · rcases List.mem_cons.1 h with h | h
            · rcases HL6.out with h3 | h3
              · have h4 : g = g6 := by simpa [Value.ownBlock] using h3
                exact hn (by simp [h, h4])
              · omega
            · rcases List.mem_cons.1 h with h | h
              · exact hn (by simp [h])
              · exact hn (by simp [h])
          · rw [hcg.block y (by omega) (fun h => hn (by have h2 : y = g := List.mem_singleton.1 h; simp [h2]))]
            exact HW5.out.block y hy (fun h => hn (by have h2 : y = br := List.mem_singleton.1 h; simp [h2]))
          · simp only [List.mem_cons] at hy
            rcases hy with rfl | rfl | hy
            · omega
            · omega
            · have := hM y hy; omega
          · rcases List.mem_cons.1 h with h | h
            · rcases HL6.out with h3 | h3
              · have h4 : g = g6 := by simpa [Value.ownBlock] using h3
                exact hn (by simp [h, h4])
              · omega
            · exact hn (List.mem_cons_of_mem _ h)
          · exact hcg.block y hy (fun h => hn (by have h2 : y = g := List.mem_singleton.1 h; simp [h2]))
        · exact hcg.blk (HW5.out.blk HBX.out (by simp; omega)) (by simp; omega)
        · rw [← HZ00.out.2]; exact HA.out
        · rw [← HZ00.out.2, ← HZ00.out.1]; exact h
    · obtain ⟨e2, kk, g2, g3, g4⟩ := HSTOP.out (fun er0 he => by
        by_cases h0 : er0 = 0
        · refine Or.inr ?_
          cases ha : acceptB toks kc 1 wOr
          · rfl
          · exact absurd ⟨by omega, ha⟩ hgo
        · exact Or.inl h0)
      have HG2 := Lib.hid g2
      have HG3 := Lib.hid g3
      have HG4 := Lib.hid g4
      clear g2 g3 g4 HSTOP HCT HG HZ0 HZ1 HMM HAT
      by_cases he : er = 0
      case' pos =>
        have ha : acceptB toks kc 1 wOr = false := by
          cases ha : acceptB toks kc 1 wOr
          · rfl
          · exact absurd ⟨he, ha⟩ hgo
        have t1 : (er == 0) = true := by simp [he]
        have HI := Lib.hid (is_calls HMV.out.1 1 wOr)
        rw [ha] at HI
        clear ha hgo he
        go_wp2_with fail
        refine HI.out.mono ?_
        rintro r w3 ⟨rfl, hx3⟩
        have HR3 := Lib.hid (HMV.out.1.ext hx3)
        have HC3 := Lib.hid (HMV.out.2.then (hx3.chg _))
        have HO3 := Lib.hid (owns_ext HOW.out hx3)
        have HX3 := Lib.hid (fun (M : List Nat) (hM : ∀ y ∈ M, y < w.heap.size) => (HEX.out M hM).mono (mask_ext _ hx3))
        have HB3 := Lib.hid (hx3.blk HBX.out)
        clear c0 c1 c2 c3 cf hlt HI hx3 HMV HOW HEX HBX
        go_upto_region 5 with fail
      case' neg =>
        have t1 : (er == 0) = false := by simp [he]
        have HR3 := Lib.hid HMV.out.1
        have HC3 := Lib.hid HMV.out.2
        have HO3 := HOW
        have HX3 := HEX
        have HB3 := HBX
        clear hgo he HMV HOW HEX HBX
        go_upto_region 5 with fail
        clear c0 c1 c2 c3 cf hlt
        generalize wr = w3 at *
      all_goals
        have hz3 := blk_lt HB3.out
        have hg3 := (HO3.out.lt g rfl).2
        obtain ⟨b0, b1, b2, b3, b4, b5, bf⟩ := blk6 HB3.out
        by_cases hn : acc = []
        · subst hn
          obtain ⟨xv, rfl⟩ : ∃ xv, xs = [xv] := by
            match xs, hlen with
            | [xv], _ => exact ⟨xv, rfl⟩
          have q := owns_cells HO3.out
          have q0 : w3.cell? ⟨g, 0, none⟩ = some (.int .i64 xv.op) := q 0 (by simp [ExV.cells])
          have q1 : w3.cell? ⟨g, 1, none⟩ = some (.string xv.name) := q 1 (by simp [ExV.cells])
          have q2 : w3.cell? ⟨g, 2, none⟩ = some (.slice xv.aw xv.nw xv.cw) := q 2 (by simp [ExV.cells])
          have q3 : w3.cell? ⟨g, 3, none⟩ = some (.int .i64 xv.lo) := q 3 (by simp [ExV.cells])
          have q4 : w3.cell? ⟨g, 4, none⟩ = some (.int .i64 xv.hi) := q 4 (by simp [ExV.cells])
          have q5 : w3.cell? ⟨g, 5, none⟩ = some (.slice xv.aa xv.na xv.ca) := q 5 (by simp [ExV.cells])
          clear q
          go_wp2_with fail
          refine bodyPost_ret (v := xv.val) (by simp [results, Tryz.results44, go_sem, ExV.val, exV, b0, b1, b2, b3, b4, b5]) rfl ?_
          refine read_fin (W := w3) (B := w.heap.size) (v := xv) (x := x) ⟨HR3.out, HC3.out⟩ (Nat.le_refl _) hltw (fun M hM => ?_) HG2.out (fun e => HG3.out e) HG4.out
          have hh := (HX3.out M hM).2 0 (by simp) (by simp)
          exact hh.mono (mask_less _ (fun y hy => List.mem_cons_of_mem _ hy))
        · have hl2 : 1 ≤ acc.length := by
            cases acc with
            | nil => exact absurd rfl hn
            | cons a r => simp
          have t5 : (((acc.length + 1 : Nat) : Int) == 1) = false := by simp; omega
          have t6 : ((acc.length : Int) + 1 == 1) = false := by simp; omega
          have HJ := Lib.hid (show joinE 8 (acc ++ [x]) = .mk 8 ⟨#[]⟩ [] 0 0 (acc ++ [x]) by
            match acc, hl2 with
            | [a], _ => rfl
            | a :: b :: r, _ => rfl)
          have HLL := Lib.hid (show (acc ++ [x]).length = acc.length + 1 by simp)
          go_wp2_with fail
          refine bodyPost_ret (v := (ExV.mk 8 ⟨#[]⟩ none 0 0 0 0 (some ⟨g, 0, none⟩) (acc.length + 1) cap).val) (by simp [results, Tryz.results44, go_sem, ExV.val, exV, b0, b1, b2, b3, b4, b5]) rfl ?_
          refine read_fin (W := w3) (B := w.heap.size) (v := ⟨8, ⟨#[]⟩, none, 0, 0, 0, 0, some ⟨g, 0, none⟩, acc.length + 1, cap⟩) (x := .mk 8 ⟨#[]⟩ [] 0 0 (acc ++ [x])) ⟨HR3.out, HC3.out⟩ (Nat.le_refl _) hltw (fun M hM => ?_) HG2.out (fun e => by rw [← HJ.out]; exact HG3.out e) HG4.out
          have hO : w3.ownsRow (w.heap.size + 1) 28 6 (.slice (some ⟨g, 0, none⟩) (acc ++ [x]).length cap) (acc ++ [x]).length (xs.flatMap ExV.cells) := by rw [HLL.out]; exact HO3.out
          obtain ⟨sa, sc, hv, hq1, hq2, hq3⟩ := exs_owns (M := w.heap.size :: M) hO (fun q hq h => by
            have h1 := (hO.lt q hq).1
            rcases List.mem_cons.1 h with h | h
            · omega
            · have := hM q h; omega) ((HX3.out M hM).mono (mask_less _ (fun q hq => List.mem_cons_of_mem _ hq)))
          simp only [Value.slice.injEq] at hv
          obtain ⟨rfl, -, rfl⟩ := hv
          rw [HLL.out] at hq1
          exact IsEx.mk ⟨rfl, Nat.le_refl 0, Or.inl ⟨rfl, rfl⟩, fun i hi => by simp at hi⟩ HLL.out.symm hq1 hq2 hq3
end
end Go.Proofs.YtaepiiediblleaaGreatDoor

namespace Go.Proofs.YtaepiiediblleaaGreatDoor
open Go.RowKit
section
variable {toks : List Tok}

theorem sizes_append2 (l m : List Ex) : sizes (l ++ m) = sizes l + sizes m := by
  induction l with
  | nil => simp [sizes]
  | cons a r ih => simp only [List.cons_append, sizes, ih]; omega
theorem joinE_size (op : Int) (acc : List Ex) (e : Ex) : (joinE op (acc ++ [e])).size ≤ sizes acc + acc.length + e.size := by
  match acc with
  | [] => simp [joinE, sizes]
  | [a] => simp [joinE, sizes, Ex.size]; omega
  | a :: b :: r => simp only [joinE, List.cons_append, Ex.size, sizes, sizes_append2, List.length_cons]; omega
theorem operandF_args (toks : List Tok) (k : Nat) : (operandF toks k).1.ex.args = [] := by
  unfold operandF
  (repeat' split) <;> rfl
/-- What was read has no more nodes than tokens. -/
theorem Gr.size {lev : Lev} {k : Nat} {acc : List Ex} {e : Ex} {er : Int} {k1 : Nat} (h : Gr toks lev k acc e er k1) : er = 0 → e.size ≤ sizes acc + acc.length + (k1 - k) := by
  have hge := fun {lev : Lev} {k : Nat} {acc : List Ex} {e : Ex} {er : Int} {k1 : Nat} (h : Gr toks lev k acc e er k1) => h.ge
  induction h with
  | parenOk _ h _ ih => intro _; have := ih rfl; have := h.ge; omega
  | parenErr _ _ h2 ih => intro h; exact absurd h h2
  | parenNo _ _ _ ih => intro h; exact absurd h (by decide)
  | @operand k _ =>
    intro h
    have h1 := (operandF_ok toks k h).2.2
    have h2 := Ex.size_eq (operandF toks k).1.ex
    rw [operandF_args] at h2
    simp only [sizes] at h2 ⊢
    omega
  | notOk _ h ih => intro _; have := ih rfl; have := h.ge; simp only [Ex.size, sizes, List.length_nil] at *; omega
  | notErr _ _ h2 ih => intro h; exact absurd h h2
  | negAtom _ _ ih => exact ih
  | andStep h1 _ h2 ih1 ih2 =>
    intro h
    have a1 := ih1 rfl; have a2 := ih2 h; have := h1.ge; have := h2.ge
    rw [sizes_append2] at a2
    simp only [sizes, List.length_append, List.length_cons, List.length_nil] at *
    omega
  | @andStop k acc e k1 h1 _ ih =>
    intro _
    have a1 := ih rfl
    have := joinE_size 7 acc e
    simp only [sizes, List.length_nil] at *
    omega
  | andErr _ h2 ih => intro h; exact absurd h h2
  | orStep h1 _ h2 ih1 ih2 =>
    intro h
    have a1 := ih1 rfl; have a2 := ih2 h; have := h1.ge; have := h2.ge
    rw [sizes_append2] at a2
    simp only [sizes, List.length_append, List.length_cons, List.length_nil] at *
    omega
  | @orStop k acc e k1 h1 _ ih =>
    intro _
    have a1 := ih rfl
    have := joinE_size 8 acc e
    simp only [sizes, List.length_nil] at *
    omega
  | orErr _ h2 ih => intro h; exact absurd h h2

theorem listLoop_few (toks : List Tok) : ∀ (f k : Nat) (acc : List ByteArray), acc.length ≤ 12 → (listLoop toks f k acc).1.length ≤ 12
  | 0, k, acc, _ => by simp [listLoop]
  | f + 1, k, acc, h => by
    rw [listLoop]
    split
    · simp
    · split
      · simp
      · split
        · simp
        · split
          · exact listLoop_few toks f (k + 2) _ (by simp; omega)
          · split
            · simp; omega
            · simp
theorem fewAll_of : (l : List Ex) → (∀ x ∈ l, x.few) → fewAll l
  | [], _ => by unfold fewAll; trivial
  | a :: r, h => by unfold fewAll; exact ⟨h a (by simp), fewAll_of r (fun x hx => h x (List.mem_cons_of_mem _ hx))⟩
theorem few_ex0 : ex0.few := by unfold ex0 Ex.few; exact ⟨by simp, by unfold fewAll; trivial⟩
theorem operandF_few (toks : List Tok) (k : Nat) : (operandF toks k).1.ex.few := by
  have h1 : (listF toks (k + 2)).1.length ≤ 12 := by
    unfold listF
    split
    · exact listLoop_few toks _ _ _ (by simp)
    · simp
  unfold operandF
  (repeat' split) <;> first | exact few_ex0 | (unfold Ex.few; exact ⟨by simp, by unfold fewAll; trivial⟩) | (unfold Ex.few; exact ⟨by omega, by unfold fewAll; trivial⟩)
theorem joinE_few (op : Int) (l : List Ex) (h : ∀ x ∈ l, x.few) : (joinE op l).few := by
  match l with
  | [] => unfold joinE Ex.few; exact ⟨by simp, by unfold fewAll; trivial⟩
  | [e] => exact h e (by simp)
  | a :: b :: r => unfold joinE Ex.few; exact ⟨by simp, fewAll_of _ h⟩
theorem few_snoc {acc : List Ex} {e : Ex} (h : ∀ x ∈ acc, x.few) (he : e.few) : ∀ x ∈ acc ++ [e], x.few := fun x hx => by
  rcases List.mem_append.1 hx with hx | hx
  · exact h x hx
  · rw [List.mem_singleton.1 hx]; exact he
theorem Gr.few {lev : Lev} {k : Nat} {acc : List Ex} {e : Ex} {er : Int} {k1 : Nat} (h : Gr toks lev k acc e er k1) : (∀ x ∈ acc, x.few) → e.few := by
  induction h with
  | parenOk _ _ _ ih => exact ih
  | parenErr _ _ _ ih => intro _; exact few_ex0
  | parenNo _ _ _ ih => intro _; exact few_ex0
  | operand _ => intro _; exact operandF_few _ _
  | notOk _ _ ih => intro _; unfold Ex.few; exact ⟨by simp, fewAll_of _ (fun x hx => by rw [List.mem_singleton.1 hx]; exact ih (by simp))⟩
  | notErr _ _ _ ih => intro _; exact few_ex0
  | negAtom _ _ ih => exact ih
  | andStep _ _ _ ih1 ih2 => intro h; exact ih2 (few_snoc h (ih1 (by simp)))
  | andStop _ _ ih => intro h; exact joinE_few _ _ (few_snoc h (ih (by simp)))
  | andErr _ _ ih => intro _; exact few_ex0
  | orStep _ _ _ ih1 ih2 => intro h; exact ih2 (few_snoc h (ih1 (by simp)))
  | orStop _ _ ih => intro h; exact joinE_few _ _ (few_snoc h (ih (by simp)))
  | orErr _ _ ih => intro _; exact few_ex0
end
end Go.Proofs.YtaepiiediblleaaGreatDoor

namespace Go.Proofs.YtaepiiediblleaaGreatDoor
open Go.RowKit
section
variable {toks : List Tok} {ta : Option Addr} {tn tc : Nat} {w0 w : World} {br k : Nat} {bad : Int}

/-- The reference's either follows the grammar. -/
theorem either_all : ∀ (m k : Nat), tn - k ≤ m → ∀ (W : World) (b2 : Int), RC toks ta tn tc w0 W br k 0 b2 → Calls Tryz.prog 44 #[.pointer (some ⟨br, 0, none⟩)] W (ReadQ .ors toks ta tn tc w0 W br k) := by
  intro m
  induction m with
  | zero =>
    intro k hk W b2 h
    refine reither_calls h (fun W1 k1 b1 hk1 h1 => rboth_calls h1 (fun W2 k2 b2 hk2 h2 => rneg_calls h2 (fun W3 n b3 h3 => ratom_calls h3 (fun hp W4 b4 h4 => ?_))))
    have := acceptB_lt hp
    have := h3.ht.1
    omega
  | succ m ih =>
    intro k hk W b2 h
    refine reither_calls h (fun W1 k1 b1 hk1 h1 => rboth_calls h1 (fun W2 k2 b2 hk2 h2 => rneg_calls h2 (fun W3 n b3 h3 => ratom_calls h3 (fun hp W4 b4 h4 => ?_))))
    have := acceptB_lt hp
    have := h3.ht.1
    exact ih (k2 + n + 1) (by omega) W4 b4 h4

/-- What Read leaves, begun without an error. -/
def ReadLQ (toks : List Tok) (ta : Option Addr) (tn tc : Nat) (w0 w : World) (br k : Nat) (e : Ending) (w' : World) : Prop :=
  ∃ (v : ExV) (x e1 : Ex) (k' k1 : Nat) (er er' bad' : Int), e = .returned v.val ∧ (∀ M : List Nat, (∀ y ∈ M, y < w.heap.size) → IsEx (mask w' M) x v.val) ∧ MovesR toks ta tn tc w0 w br k' er' bad' w' ∧ Gr toks .ors k [] e1 er k1 ∧ (er = 0 → x = e1 ∧ k' = k1 ∧ (if 300 < e1.size ∨ 16 < e1.depth then er' = 4 ∧ bad' = (k : Int) else er' = 0)) ∧ (er ≠ 0 → er' = er ∧ bad' = (k1 : Int))
theorem readL_fin {W : World} {B : Nat} {v : ExV} {x e1 : Ex} {k' k1 : Nat} {er er' bad' : Int} (hm : MovesR toks ta tn tc w0 w br k' er' bad' W) (hB : w.heap.size ≤ B) (hbr : br < w.heap.size) (hx : ∀ M : List Nat, (∀ y ∈ M, y < w.heap.size) → IsEx (mask W (B :: M)) x v.val) (hg : Gr toks .ors k [] e1 er k1) (h0 : er = 0 → x = e1 ∧ k' = k1 ∧ (if 300 < e1.size ∨ 16 < e1.depth then er' = 4 ∧ bad' = (k : Int) else er' = 0)) (h1 : er ≠ 0 → er' = er ∧ bad' = (k1 : Int)) : ReadLQ toks ta tn tc w0 w br k (.returned v.val) (put6 W B v) := by
  refine ⟨v, x, e1, k', k1, er, er', bad', rfl, fun M hM => ?_, ⟨?_, ?_⟩, hg, h0, h1⟩
  · exact (hx M hM).mono ((put6_chg W B v (N := B :: M) (by simp)).sub.trans (mask_less _ (fun y hy => List.mem_cons_of_mem _ hy)))
  · have := hm.1.hbr
    exact hm.1.chg (put6_chg W B v (N := [B]) (by simp)) (by simp; omega) (by simp; omega)
  · exact hm.2.trans (put6_chg W B v (N := [B]) (by simp)) (by intro y hy; simp at hy; subst hy; exact Or.inr hB)

set_option maxRecDepth 100000 in
set_option maxHeartbeats 4000000 in
theorem rread_calls (h : RC toks ta tn tc w0 w br k 0 bad) : Calls Tryz.prog 22 #[.pointer (some ⟨br, 0, none⟩)] w (ReadLQ toks ta tn tc w0 w br k) := by
  have hltw := blk_lt h.hb
  have htn := h.htn
  have hea : Ext w (w.alloc (.cells exV0.cells.toArray 28)) := (Ext.refl w).alloc _
  have HR := Lib.hid (h.ext hea)
  have HC := Lib.hid (hea.chg [br])
  have HB := Lib.hid (alloc_new w (.cells exV0.cells.toArray 28))
  have hsz : (w.alloc (.cells exV0.cells.toArray 28)).heap.size = w.heap.size + 1 := by simp
  clear h hea
  unfold exV0 ExV.cells at *
  go_enter Tryz.func22, Tryz.ntmps22
  go_upto_region 1 with fail
  generalize w.alloc (.cells #[.int .i64 0, .string ⟨#[]⟩, .slice none 0 0, .int .i64 0, .int .i64 0, .slice none 0 0] 28) = wa at *
  obtain ⟨c0, c1, c2, c3, cf⟩ := blk4 HR.out.hb
  have hlt := blk_lt HR.out.hb
  go_wp2_with fail
  refine (either_all _ k (Nat.le_refl _) _ _ HR.out).mono ?_
  rintro r w1 ⟨v, x, e1, k', k1, er, bad', rfl, hx, hm, hg, h0, h1⟩
  have HX := Lib.hid hx
  have HM := Lib.hid hm
  have HG := Lib.hid hg
  have HZ0 := Lib.hid h0
  have HZ1 := Lib.hid h1
  have HC1 := Lib.hid (HC.out.then hm.2)
  have HB1 := Lib.hid (hm.2.blk HB.out (by simp; omega))
  have hz1 := blk_lt HB1.out
  clear hx hm hg h0 h1 HR HC HB c0 c1 c2 c3 cf hlt
  unfold ExV.val exV
  go_upto_region 5 with fail
  have hx2 : Ext w1 (w1.alloc (.cells v.cells.toArray 28)) := (Ext.refl w1).alloc _
  have HB2 := Lib.hid (hx2.blk HB1.out)
  have HV2 := Lib.hid (alloc_new w1 (.cells v.cells.toArray 28))
  have HR2 := Lib.hid (HM.out.1.ext hx2)
  have HC2 := Lib.hid (HC1.out.then (hx2.chg _))
  have HX2 := Lib.hid (fun (M : List Nat) (hM : ∀ y ∈ M, y < w.heap.size) => (HX.out (w.heap.size :: M) (by
    intro y hy
    simp only [List.mem_cons] at hy
    rcases hy with rfl | hy
    · omega
    · have := hM y hy; omega)).mono (mask_sub_mask (M' := w.heap.size :: M) (w' := w1.alloc (.cells v.cells.toArray 28)) fun y hy hn => ⟨hn, hx2.block y hy⟩))
  unfold ExV.cells at HB2 HV2 HR2 HC2 HX2
  clear hx2
  generalize w1.alloc (.cells #[.int .i64 v.op, .string v.name, .slice v.aw v.nw v.cw, .int .i64 v.lo, .int .i64 v.hi, .slice v.aa v.na v.ca] 28) = w2 at *
  clear HX HM HC1 HB1
  obtain ⟨c0, c1, c2, c3, cf⟩ := blk4 HR2.out.hb
  have hlt := blk_lt HR2.out.hb
  have hB2 := blk_lt HB2.out
  have hV2 := blk_lt HV2.out
  obtain ⟨b0, b1, b2, b3, b4, b5, bf⟩ := blk6 HB2.out
  obtain ⟨v0, v1, v2, v3, v4, v5, vf⟩ := blk6 HV2.out
  by_cases he : er = 0
  · subst he
    obtain ⟨hxe, hk1⟩ := HZ0.out rfl
    have HK1 := Lib.hid hk1
    subst hxe
    have hsz1 : x.size ≤ tn := by
      have := HG.out.size rfl
      have := HR2.out.hk
      simp only [sizes, List.length_nil] at *
      omega
    have HEX := Lib.hid (show IsEx w2 x v.val from (HX2.out [] (by simp)).mono (mask_sub _ _))
    have HSZ := Lib.hid (fun W (hW : Ext w2 W) => rsize_calls tn x _ W hsz1 (HEX.out.ext hW))
    have HDP := Lib.hid (fun W (hW : Ext w2 W) => deeper_calls tn x _ W 16 hsz1 (by omega) (by omega) (HEX.out.ext hW))
    unfold ExV.val exV at HSZ HDP
    clear hk1
    by_cases hbig : 300 < x.size
    · have HF := Lib.hid (show 300 < x.size ∨ 16 < x.depth from Or.inl hbig)
      have t1 : decide (300 < (refSize x : Int)) = true := decide_eq_true (by unfold refSize; omega)
      have t2 : decide (300 < refSize x) = true := decide_eq_true (by unfold refSize; omega)
      generalize refSize x = rs at *
      clear hbig
      go_wp2_with fail
      refine (HSZ.out _ (Ext.refl _)).mono ?_
      rintro r w3 ⟨rfl, hx3⟩
      have HR3 := Lib.hid (HR2.out.ext hx3)
      have HC3 := Lib.hid (HC2.out.then (hx3.chg _))
      have HB3 := Lib.hid (hx3.blk HB2.out)
      have HV3 := Lib.hid (hx3.blk HV2.out)
      have HX3 := Lib.hid (fun (M : List Nat) (hM : ∀ y ∈ M, y < w.heap.size) => (HX2.out M hM).mono (mask_ext _ hx3))
      clear c0 c1 c2 c3 cf hlt b0 b1 b2 b3 b4 b5 bf v0 v1 v2 v3 v4 v5 vf hB2 hV2 HR2 HC2 HB2 HV2 HX2 hx3 HSZ HDP
      go_wp2_with fail
      refine (fail_calls HR3.out 4 (k : Int)).mono ?_
      rintro r w4 ⟨rfl, hm4⟩
      have HR4 := Lib.hid hm4.1
      have HC4 := Lib.hid (HC3.out.then hm4.2)
      have HB4 := Lib.hid (hm4.2.blk HB3.out (by simp; omega))
      have HV4 := Lib.hid (hm4.2.blk HV3.out (by simp; omega))
      have HX4 := Lib.hid (fun (M : List Nat) (hM : ∀ y ∈ M, y < w.heap.size) => (HX3.out (br :: M) (by
        intro y hy
        rcases List.mem_cons.1 hy with rfl | hy
        · exact hltw
        · exact hM y hy)).mono (mask_sub_mask (M' := w.heap.size :: M) (w' := w4) fun y hy hn => ⟨fun h => hn (by rcases List.mem_cons.1 h with rfl | h; simp; simp [h]), hm4.2.block y hy (fun h => hn (by have h2 : y = br := List.mem_singleton.1 h; simp [h2]))⟩))
      clear hm4
      have hB4 := blk_lt HB4.out
      have hV4 := blk_lt HV4.out
      obtain ⟨b0, b1, b2, b3, b4, b5, bf⟩ := blk6 HB4.out
      obtain ⟨v0, v1, v2, v3, v4, v5, vf⟩ := blk6 HV4.out
      go_wp2_with fail
      refine bodyPost_ret (v := v.val) (by simp [results, Tryz.results22, go_sem, ExV.val, exV, b0, b1, b2, b3, b4, b5]) rfl ?_
      exact readL_fin (W := w4) (B := w.heap.size) (v := v) (x := x) ⟨HR4.out, HC4.out⟩ (Nat.le_refl _) hltw HX4.out HG.out (fun _ => ⟨rfl, HK1.out, by rw [if_pos HF.out]; exact ⟨rfl, rfl⟩⟩) (fun h => absurd rfl h)
    · have t1 : decide (300 < (refSize x : Int)) = false := decide_eq_false (by unfold refSize; omega)
      have t2 : decide (300 < refSize x) = false := decide_eq_false (by unfold refSize; omega)
      have HNB := Lib.hid hbig
      generalize refSize x = rs at *
      clear hbig
      go_wp2_with fail
      refine (HSZ.out _ (Ext.refl _)).mono ?_
      rintro r w3 ⟨rfl, hx3⟩
      have HR3 := Lib.hid (HR2.out.ext hx3)
      have HC3 := Lib.hid (HC2.out.then (hx3.chg _))
      have HB3 := Lib.hid (hx3.blk HB2.out)
      have HV3 := Lib.hid (hx3.blk HV2.out)
      have HX3 := Lib.hid (fun (M : List Nat) (hM : ∀ y ∈ M, y < w.heap.size) => (HX2.out M hM).mono (mask_ext _ hx3))
      have HD3 := Lib.hid (HDP.out _ hx3)
      clear c0 c1 c2 c3 cf hlt b0 b1 b2 b3 b4 b5 bf v0 v1 v2 v3 v4 v5 vf hB2 hV2 HR2 HC2 HB2 HV2 HX2 hx3 HSZ HDP
      have hV3 := blk_lt HV3.out
      obtain ⟨v0, v1, v2, v3, v4, v5, vf⟩ := blk6 HV3.out
      by_cases hdp : 16 < x.depth
      · have td : decide (16 < x.depth) = true := by simpa using hdp
        have HF := Lib.hid (show 300 < x.size ∨ 16 < x.depth from Or.inr hdp)
        rw [td] at HD3
        clear hdp td
        go_wp2_with fail
        refine HD3.out.mono ?_
        rintro r w5 ⟨rfl, hx5⟩
        have HR5 := Lib.hid (HR3.out.ext hx5)
        have HC5 := Lib.hid (HC3.out.then (hx5.chg _))
        have HB5 := Lib.hid (hx5.blk HB3.out)
        have HV5 := Lib.hid (hx5.blk HV3.out)
        have HX5 := Lib.hid (fun (M : List Nat) (hM : ∀ y ∈ M, y < w.heap.size) => (HX3.out M hM).mono (mask_ext _ hx5))
        clear v0 v1 v2 v3 v4 v5 vf hV3 HR3 HC3 HB3 HV3 HX3 hx5 HD3
        go_wp2_with fail
        refine (fail_calls HR5.out 4 (k : Int)).mono ?_
        rintro r w4 ⟨rfl, hm4⟩
        have HR4 := Lib.hid hm4.1
        have HC4 := Lib.hid (HC5.out.then hm4.2)
        have HB4 := Lib.hid (hm4.2.blk HB5.out (by simp; omega))
        have HV4 := Lib.hid (hm4.2.blk HV5.out (by simp; omega))
        have HX4 := Lib.hid (fun (M : List Nat) (hM : ∀ y ∈ M, y < w.heap.size) => (HX5.out (br :: M) (by
          intro y hy
          rcases List.mem_cons.1 hy with rfl | hy
          · exact hltw
          · exact hM y hy)).mono (mask_sub_mask (M' := w.heap.size :: M) (w' := w4) fun y hy hn => ⟨fun h => hn (by rcases List.mem_cons.1 h with rfl | h; simp; simp [h]), hm4.2.block y hy (fun h => hn (by have h2 : y = br := List.mem_singleton.1 h; simp [h2]))⟩))
        clear hm4
        have hB4 := blk_lt HB4.out
        have hV4 := blk_lt HV4.out
        obtain ⟨b0, b1, b2, b3, b4, b5, bf⟩ := blk6 HB4.out
        obtain ⟨v0, v1, v2, v3, v4, v5, vf⟩ := blk6 HV4.out
        go_wp2_with fail
        refine bodyPost_ret (v := v.val) (by simp [results, Tryz.results22, go_sem, ExV.val, exV, b0, b1, b2, b3, b4, b5]) rfl ?_
        exact readL_fin (W := w4) (B := w.heap.size) (v := v) (x := x) ⟨HR4.out, HC4.out⟩ (Nat.le_refl _) hltw HX4.out HG.out (fun _ => ⟨rfl, HK1.out, by rw [if_pos HF.out]; exact ⟨rfl, rfl⟩⟩) (fun h => absurd rfl h)
      · have td : decide (16 < x.depth) = false := by simpa using hdp
        have HF := Lib.hid (show ¬ (300 < x.size ∨ 16 < x.depth) from fun h => h.elim HNB.out hdp)
        rw [td] at HD3
        clear hdp td
        go_wp2_with fail
        refine HD3.out.mono ?_
        rintro r w5 ⟨rfl, hx5⟩
        have HR5 := Lib.hid (HR3.out.ext hx5)
        have HC5 := Lib.hid (HC3.out.then (hx5.chg _))
        have HB5 := Lib.hid (hx5.blk HB3.out)
        have HV5 := Lib.hid (hx5.blk HV3.out)
        have HX5 := Lib.hid (fun (M : List Nat) (hM : ∀ y ∈ M, y < w.heap.size) => (HX3.out M hM).mono (mask_ext _ hx5))
        clear v0 v1 v2 v3 v4 v5 vf hV3 HR3 HC3 HB3 HV3 HX3 hx5 HD3
        have hB4 := blk_lt HB5.out
        have hV4 := blk_lt HV5.out
        obtain ⟨b0, b1, b2, b3, b4, b5, bf⟩ := blk6 HB5.out
        obtain ⟨v0, v1, v2, v3, v4, v5, vf⟩ := blk6 HV5.out
        go_wp2_with fail
        refine bodyPost_ret (v := v.val) (by simp [results, Tryz.results22, go_sem, ExV.val, exV, b0, b1, b2, b3, b4, b5]) rfl ?_
        exact readL_fin (W := w5) (B := w.heap.size) (v := v) (x := x) ⟨HR5.out, HC5.out⟩ (Nat.le_refl _) hltw HX5.out HG.out (fun _ => ⟨rfl, HK1.out, by rw [if_neg HF.out]⟩) (fun h => absurd rfl h)
  · have te : (er == 0) = false := by simpa using he
    have HE := Lib.hid he
    clear he
    go_wp2_with fail
    refine bodyPost_ret (v := v.val) (by simp [results, Tryz.results22, go_sem, ExV.val, exV, b0, b1, b2, b3, b4, b5]) rfl ?_
    exact readL_fin (W := w2) (B := w.heap.size) (v := v) (x := x) ⟨HR2.out, HC2.out⟩ (Nat.le_refl _) hltw HX2.out HG.out (fun h => absurd h HE.out) (fun h => ⟨rfl, HZ1.out h⟩)
end
end Go.Proofs.YtaepiiediblleaaGreatDoor
