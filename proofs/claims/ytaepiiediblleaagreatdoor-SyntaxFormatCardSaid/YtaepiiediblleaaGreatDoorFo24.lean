/-
  Texts of the claim, joined: App4, App5, Plain1, OkTree, Binds1, Format.
-/
import Derived.Test.YtaepiiediblleaaGreatDoorFo21
import Derived.Test.YtaepiiediblleaaGreatDoorFo23
import Derived.Deep.LoopGhost
import Derived.Test.YtaepiiediblleaaGreatDoorFo11
import Derived.Test.YtaepiiediblleaaGreatDoorFo20
import Derived.Test.YtaepiiediblleaaGreatDoorFo14
namespace Go.Proofs.YtaepiiediblleaaGreatDoor
open Go.RowKit

/-- What appendExpr does for expressions of at most a size. -/
def AppDo (w0 : World) (m : Nat) : Prop := ∀ (e : Ex) (l : List Tok) (v : Value) (base : Nat) (w : World) (ev : Value), e.size ≤ m → okTree e → Ext w0 w → w0.heap.size ≤ base → IsEx (mask w (rowOf v)) e ev → OwnT w base l v → base ≤ w.heap.size → l.length + (tokE e).length ≤ 10000 → Calls Tryz.prog 35 #[v, ev] w (TokQ base (l ++ tokE e) v w)
def ArgDo (w0 : World) (m : Nat) : Prop := ∀ (k : Nat) (e : Ex) (l : List Tok) (v : Value) (base : Nat) (w : World) (ev : Value), 6 ≤ k → k ≤ 8 → e.size ≤ m → okTree e → Ext w0 w → w0.heap.size ≤ base → IsEx (mask w (rowOf v)) e ev → OwnT w base l v → base ≤ w.heap.size → l.length + (argT k e).length ≤ 10000 → Calls Tryz.prog 71 #[v, .int .i64 k, ev] w (TokQ base (l ++ argT k e) v w)
theorem okTree_op {e : Ex} (h : okTree e) : 1 ≤ e.op ∧ e.op ≤ 8 := by
  obtain ⟨hn, _⟩ := okTree_parts h
  unfold okNode at hn
  omega
def fParA (u : Value) (ev : Value) (l tk : List Tok) : Nat → What
  | 0 => .val u
  | 1 => .val (tokV (markT 40))
  | 2 => .blk [markT 40]
  | 3 => .own (l ++ [markT 40])
  | 4 => .val ev
  | 5 => .own (l ++ [markT 40] ++ tk)
  | _ => .val undef
theorem paren_binds (k k2 : Nat) (h1 : 6 ≤ k) (h2 : k ≤ 8) (h3 : k2 = 7 ∨ k2 = 8) : decide (opBinds k2 ≤ opBinds k) = paren k k2 := by
  have : k = 6 ∨ k = 7 ∨ k = 8 := by omega
  rcases this with rfl | rfl | rfl <;> rcases h3 with rfl | rfl <;> decide

set_option maxRecDepth 100000 in
set_option maxHeartbeats 4000000 in
theorem arg_calls {w0 : World} (h0 : HasOps w0) (m : Nat) (ih : AppDo w0 m) : ArgDo w0 m := by
  intro k e l v base w ev hk6 hk8 hm hok hx0 hb0 he ho hb hl
  obtain ⟨aw, nw, cw, aa, na, ca, rfl, -, -, -, -, -⟩ := he.parts
  have hop := okTree_op hok
  have HIH := Lib.hid (fun l v base w ev => ih e l v base w ev hm hok)
  have HEX := Lib.hid he
  clear ih hok hm
  have HA1 := Lib.hid (fun (h : paren k e.op = true) => show argT k e = [markT 40] ++ tokE e ++ [markT 41] by rw [argT, if_pos h])
  have HA0 := Lib.hid (fun (h : paren k e.op = false) => show argT k e = tokE e by rw [argT, if_neg (by simp [h])])
  generalize argT k e = AT at *
  generalize tokE e = TK at *
  obtain ⟨op, name, words, lo, hi, args⟩ := e
  simp only [Ex.op, Ex.name, Ex.lo, Ex.hi] at *
  obtain ⟨k2, rfl⟩ : ∃ k : Nat, op = (k : Int) := ⟨op.toNat, by omega⟩
  have hk9 : k < 9 := by omega
  have hk29 : k2 < 9 := by omega
  have HX := Lib.hid ((Ext.refl w).alloc (.cells #[.int .i64 k2, .string name, .slice aw nw cw, .int .i64 lo, .int .i64 hi, .slice aa na ca] 28))
  obtain ⟨-, -, -, -, o4⟩ := (h0.ext (hx0.trans HX.out)) k (by omega)
  obtain ⟨-, -, -, -, q4⟩ := (h0.ext (hx0.trans HX.out)) k2 (by omega)
  have hbk := block_lt o4
  simp only at hbk
  have HO := Lib.hid (ho.ext HX.out)
  have HXE := Lib.hid (hx0.trans HX.out)
  have HEX2 := Lib.hid (HEX.out.mono (HX.out.grew v).sub)
  have HBX := Lib.hid (alloc_new w (.cells #[.int .i64 k2, .string name, .slice aw nw cw, .int .i64 lo, .int .i64 hi, .slice aa na ca] 28))
  have HNR := Lib.hid (show w.heap.size ∉ rowOf v from fun h => by have := (ho.lt h).2; omega)
  have HPB := Lib.hid (paren_binds k k2 hk6 hk8)
  generalize opBinds k = ob, opBinds k2 = ob2 at *
  clear he hx0 ho HEX h0
  unfold exV at *
  cases hp : paren k k2 with
  | true =>
    have hAT := HA1.out hp
    subst hAT
    have hl2 : l.length + 2 + TK.length ≤ 10000 := by simp at hl; omega
    have h78 : k2 = 7 ∨ k2 = 8 := by simp [paren] at hp; omega
    have tB : decide (ob2 ≤ ob) = true := by rw [HPB.out h78, hp]
    have tt : (((k2 : Int) == 7) = true ∨ (((k2 : Int) == 7) = false ∧ ((k2 : Int) == 8) = true)) := by
      rcases h78 with h | h
      · exact Or.inl (by simp [h])
      · exact Or.inr ⟨by simp [h], by simp [h]⟩
    clear hp h78 HPB hl HA1 HA0
    rcases tt with t7 | ⟨t7, t8⟩
    all_goals
      go_enter Tryz.func71, Tryz.ntmps71
      go_wp2_with fail
      generalize w.alloc (.cells #[.int .i64 k2, .string name, .slice aw nw cw, .int .i64 lo, .int .i64 hi, .slice aa na ca] 28) = wb at *
      obtain ⟨x0, x1, x2, x3, x4, x5, xf⟩ := blk6 HBX.out
      have hlx := blk_lt HBX.out
      have hz0 := HX.out.size
      go_quiet (fail)
      have hdr : Ext wb (wb.drewN nq) := Ext.drewN (Ext.refl wb) nq
      have HO := Lib.hid (HO.out.ext hdr)
      have HXE := Lib.hid (HXE.out.trans hdr)
      have HX := Lib.hid (HX.out.trans hdr)
      have HEX2 := Lib.hid (HEX2.out.mono (hdr.grew v).sub)
      have HBX := Lib.hid (hdr.blk HBX.out)
      have hz1 := hdr.size
      clear hdr x0 x1 x2 x3 x4 x5 xf hlx o4 q4 hbk
      go_wp2_with fail
      generalize wb.drewN nq = wd at *
      refine wp_region_growL (m := 6) [5] (TokG [3, 5] wd v) (TokE [3, 5]) (TokR base wd v (fParA v (.agg #[.int .i64 k2, .string name, .slice aw nw cw, .int .i64 lo, .int .i64 hi, .slice aa na ca]) l TK)) (by kernel_rfl) (by kernel_rfl) ⟨(Chg.refl _ _).drew, fun _ => (Ext.refl wd).drew⟩ (tokR_keeps (by kernel_rfl)) ?_ ?_
      · intro i o hi ho L vs W hiL hnc hG hd ρ hρ
        have hi' : i = 0 ∨ i = 1 ∨ i = 2 ∨ i = 3 ∨ i = 4 ∨ i = 5 := by omega
        clear hi
        have o0 : ρ (.tmp 0) = v := hρ.out 0 rfl
        have o5 : ρ (.tmp 5) = .pointer (some ⟨w.heap.size, 0, none⟩) := hρ.out 5 rfl
        have i0 := hρ.ins 0 27 (by omega) rfl (Nat.le_of_ble_eq_true rfl)
        have i1 := hρ.ins 1 28 (by omega) rfl (Nat.le_of_ble_eq_true rfl)
        have i2 := hρ.ins 2 29 (by omega) rfl (Nat.le_of_ble_eq_true rfl)
        have i3 := hρ.ins 3 30 (by omega) rfl (Nat.le_of_ble_eq_true rfl)
        have i4 := hρ.ins 4 31 (by omega) rfl (Nat.le_of_ble_eq_true rfl)
        have i5 := hρ.ins 5 32 (by omega) rfl (Nat.le_of_ble_eq_true rfl)
        have hcs := hρ.const
        have hfn := hρ.func
        clear hρ
        have hbW := hG.1.blk HBX.out HNR.out
        obtain ⟨b0, b1, b2, b3, b4, b5, bf⟩ := blk6 hbW
        clear hbW
        have hwz := hG.1.size
        have HG := Lib.hid hG
        clear hG
        rcases hi' with rfl | rfl | rfl | rfl | rfl | rfl
        · cases ho
          unfold GivesOp
          go_simp
          exact ⟨Or.inr (Ext.refl _), HG.out.ext (Ext.refl _) _, rfl⟩
        · cases ho
          unfold GivesOp
          go_simp
          refine (smark_calls _ _).mono ?_
          rintro q W' ⟨rfl, hx⟩
          exact ⟨_, rfl, Or.inr hx, HG.out.ext hx _, rfl⟩
        · cases ho
          have h1 : vs 1 = _ := hd ⟨1, .data⟩ (by simp) rfl
          rw [h1] at i1
          unfold tokV markT at i1
          unfold GivesOp
          go_simp
          exact ⟨Or.inr ((Ext.refl _).alloc _), HG.out.ext ((Ext.refl _).alloc _) _, W.heap.size, rfl, alloc_new W _⟩
        · cases ho
          have h0 : vs 0 = _ := hd ⟨0, .data⟩ (by simp) rfl
          rw [h0] at i0
          obtain ⟨x0, hb2, hx0⟩ := hd ⟨2, .data⟩ (by simp) rfl
          rw [hb2] at i2
          have hxW := HG.out.2 (tok_before (by decide +kernel) hiL hnc)
          refine gives_append_tok _ _ base v l _ i0 (HO.out.ext hxW) x0 i2 hx0 (by simp) (by simp; omega) (by omega) ?_
          intro u' w' ho' hg'
          exact ⟨Or.inl (by simp), TokG.grow (hxW.grew v) hg' (by simp), ho', (hxW.grew v).trans hg'⟩
        · cases ho
          unfold GivesOp
          go_simp
          exact ⟨Or.inr (Ext.refl _), HG.out.ext (Ext.refl _) _, rfl⟩
        · cases ho
          have h4 : vs 4 = _ := hd ⟨4, .data⟩ (by simp) rfl
          rw [h4] at i4
          obtain ⟨ho7, hg7⟩ := hd ⟨3, .data⟩ (by simp) rfl
          have HO7 := Lib.hid ho7
          have HG7 := Lib.hid hg7
          clear ho7 hg7
          generalize vs 3 = u7 at *
          unfold GivesOp
          go_simp
          refine (HIH.out _ u7 base W _ ((HXE.out.trans (Ext.refl wd)) |> fun h => HG7.out.1.ext h (fun q hq => by have := (HO.out.lt hq).1; omega)) hb0 (HEX2.out.mono HG7.out.sub) HO7.out (by omega) (by simp; omega)).mono ?_
          rintro q W' ⟨u', rfl, ho', hg'⟩
          exact ⟨_, rfl, Or.inl (by simp), TokG.grow HG7.out hg' (by simp), ho', HG7.out.trans hg'⟩
      · intro L vs W _ hG hR
        rw [if_neg (by decide +kernel)]
        obtain ⟨ho', hg'⟩ := hR 5 (by simp) (by omega)
        have HO2 := Lib.hid ho'
        have HG2 := Lib.hid hg'
        clear hG hR ho' hg'
        unfold wpOp
        simp only [acts, dstAt, List.range, List.range.loop, List.foldl_cons, List.foldl_nil]
        go_simp
        refine Or.inl ?_
        generalize vs 5 = u2 at *
        have hzW := HG2.out.1.size
        obtain ⟨L2, hL2⟩ : ∃ L2, L2 = l ++ [markT 40] ++ TK := ⟨_, rfl⟩
        rw [← hL2] at HO2
        have hLL : L2.length ≤ 10000 := by rw [hL2]; simp; omega
        have HL2 := Lib.hid hL2
        clear hL2
        go_wp2_with fail
        refine (smark_calls 41 _).mono ?_
        rintro r w3 ⟨rfl, hx3⟩
        have HOW := Lib.hid (HO2.out.ext hx3)
        have HGW := Lib.hid (HG2.out.trans (hx3.grew _))
        have hz3 := hx3.size
        simp only [tokV, markT]
        clear hx3
        go_wp2_with (at_builtin; refine wpList_append_tok rfl _ _ rfl base _ _ [markT 41] rfl HOW.out _ 1 1 rfl ?c0 ?c1 rfl ?c2 ?c3 ?c4 ?_)
        case c0 => rfl
        case c1 => rfl
        case c2 => omega
        case c3 => omega
        case c4 => omega
        intro v4 w4 hown4 hgrow4
        have HO4 := Lib.hid hown4
        have HG4 := Lib.hid (HGW.out.trans hgrow4)
        clear hown4 hgrow4 HOW HGW
        go_wp2_with fail
        go_ret
        exact ⟨_, rfl, by have := HO4.out; rw [HL2.out] at this; simpa using this, (HX.out.grew v).trans HG4.out⟩
  | false =>
    have hAT := HA0.out hp
    subst hAT
    have tt : (((k2 : Int) == 7) = false ∧ ((k2 : Int) == 8) = false) ∨ (((k2 : Int) == 7) = true ∧ decide (ob2 ≤ ob) = false) := by
      by_cases h7 : k2 = 7
      · exact Or.inr ⟨by simp [h7], by rw [HPB.out (Or.inl h7), hp]⟩
      · refine Or.inl ⟨by simp; omega, ?_⟩
        by_cases h8 : k2 = 8
        · subst h8; simp [paren] at hp
        · simp; omega
    clear hp HPB HA1 HA0
    rcases tt with ⟨t7, t8⟩ | ⟨t7, tB⟩
    all_goals
      go_enter Tryz.func71, Tryz.ntmps71
      go_wp2_with fail
      generalize w.alloc (.cells #[.int .i64 k2, .string name, .slice aw nw cw, .int .i64 lo, .int .i64 hi, .slice aa na ca] 28) = wb at *
      obtain ⟨x0, x1, x2, x3, x4, x5, xf⟩ := blk6 HBX.out
      have hlx := blk_lt HBX.out
      have hz0 := HX.out.size
      go_quiet (fail)
      have hdr : Ext wb (wb.drewN nq) := Ext.drewN (Ext.refl wb) nq
      have HO := Lib.hid (HO.out.ext hdr)
      have HXE := Lib.hid (HXE.out.trans hdr)
      have HX := Lib.hid (HX.out.trans hdr)
      have HEX2 := Lib.hid (HEX2.out.mono (hdr.grew v).sub)
      have HBX := Lib.hid (hdr.blk HBX.out)
      have hz1 := hdr.size
      clear hdr x0 x1 x2 x3 x4 x5 xf hlx o4 q4 hbk
      obtain ⟨x0, x1, x2, x3, x4, x5, xf⟩ := blk6 HBX.out
      have hlx := blk_lt HBX.out
      go_wp2_with fail
      refine (HIH.out l v base _ _ HXE.out hb0 HEX2.out HO.out (by omega) hl).mono ?_
      rintro r w3 ⟨u', rfl, ho', hg'⟩
      have HO4 := Lib.hid ho'
      have HG4 := Lib.hid hg'
      clear ho' hg'
      go_wp2_with fail
      go_ret
      exact ⟨_, rfl, HO4.out, (HX.out.grew v).trans HG4.out⟩
end Go.Proofs.YtaepiiediblleaaGreatDoor

namespace Go.Proofs.YtaepiiediblleaaGreatDoor
open Go.RowKit

def fNotA (v : Value) (be : Nat) (l : List Tok) (ow : ByteArray) (k : Nat) (b off ca : Nat) (av : Value) (at2 : List Tok) : Nat → What
  | 0 => .val v
  | 1 => .val (.pointer (some ⟨be + 1, 0, none⟩))
  | 2 => .val (.string ow)
  | 3 => .val (tokV (nameT ow))
  | 4 => .blk [nameT ow]
  | 5 => .own (l ++ [nameT ow])
  | 6 => .val (.pointer (some ⟨be, 0, none⟩))
  | 7 => .val (.int .i64 k)
  | 8 => .val (.pointer (some ⟨be, 5, none⟩))
  | 9 => .val (.slice (some ⟨b, off, none⟩) 1 ca)
  | 10 => .val (.pointer (some ⟨b, off, none⟩))
  | 11 => .val av
  | 12 => .own (l ++ [nameT ow] ++ at2)
  | _ => .val undef
theorem okTrees_one {a : Ex} (h : okTrees [a]) : okTree a := by unfold okTrees at h; exact h.1

set_option maxRecDepth 100000 in
set_option maxHeartbeats 4000000 in
theorem app_not {w0 : World} (h0 : HasOps w0) {m : Nat} (E : Ex) (ih : ArgDo w0 m) (hMM : ∀ x ∈ E.args, x.size ≤ m) (hok : ∀ x ∈ E.args, okTree x) (hone : E.args.length = 1) (l : List Tok) (v : Value) (base : Nat) (w : World) (ev : Value) (hx0 : Ext w0 w) (hb0 : w0.heap.size ≤ base) (he : IsEx (mask w (rowOf v)) E ev) (ho : OwnT w base l v) (hb : base ≤ w.heap.size) (hl : l.length + (tokE E).length ≤ 10000) (hop : E.op = 6) :
    Calls Tryz.prog 35 #[v, ev] w (TokQ base (l ++ tokE E) v w) := by
  obtain ⟨aw, nw, cw, aa, na, ca, rfl, hw, hna, hca, ha, hx⟩ := he.parts
  clear he hca ha
  obtain ⟨op, name, words, lo, hi, args⟩ := E
  simp only [Ex.op, Ex.name, Ex.words, Ex.lo, Ex.hi, Ex.args] at *
  obtain ⟨k, rfl⟩ : ∃ k : Nat, op = (k : Int) := ⟨op.toNat, by omega⟩
  have hk : k = 6 := by omega
  obtain ⟨o0, o1, o2, o3, o4⟩ := (h0.ext hx0) k (by omega)
  have hbk := block_lt o0
  simp only at hbk
  have hk9 : k < 9 := by omega
  have HWD := Lib.hid (show opWord k = wNot by rw [hk]; rfl)
  generalize opLeast k = ol, opMost k = om, opNamed k = on, opWord k = ow, opBinds k = ob at *
  have HX := Lib.hid (((Ext.refl w).alloc (.cells #[.int .i64 k, .string name, .slice aw nw cw, .int .i64 lo, .int .i64 hi, .slice aa na ca] 28)).alloc (.cells #[.string ow, .bool on, .int .i64 ol, .int .i64 om, .int .i64 ob] 114))
  have HO := Lib.hid (ho.ext HX.out)
  have HBX := Lib.hid (blk_alloc (o' := .cells #[.string ow, .bool on, .int .i64 ol, .int .i64 om, .int .i64 ob] 114) (alloc_new w (.cells #[.int .i64 k, .string name, .slice aw nw cw, .int .i64 lo, .int .i64 hi, .slice aa na ca] 28)))
  have HBO := Lib.hid (alloc_at (w := w.alloc (.cells #[.int .i64 k, .string name, .slice aw nw cw, .int .i64 lo, .int .i64 hi, .slice aa na ca] 28)) (o := .cells #[.string ow, .bool on, .int .i64 ol, .int .i64 om, .int .i64 ob] 114) (n := w.heap.size + 1) (by simp))
  have HNR := Lib.hid (show w.heap.size ∉ rowOf v from fun h => by have := (ho.lt h).2; omega)
  have HNO := Lib.hid (show w.heap.size + 1 ∉ rowOf v from fun h => by have := (ho.lt h).2; omega)
  obtain ⟨a, rfl⟩ : ∃ a, args = [a] := by
    match args, hone with
    | [a], _ => exact ⟨a, rfl⟩
  have HE := Lib.hid (show tokE (.mk k name words lo hi [a]) = [nameT ow] ++ argT k a by
    rw [HWD.out, hk]
    simp only [tokE, tokArgs, tokMore, argT]
    simp)
  have hl1 : l.length + 1 + (argT k a).length ≤ 10000 := by rw [HE.out] at hl; simp at hl; omega
  have HARG := Lib.hid (fun l v base w ev => ih k a l v base w ev (by omega) (by omega) (hMM a (by simp)) (hok a (by simp)))
  obtain ⟨b, off, rfl, aw1, nw1, cw1, aa1, na1, ca1, c0, c1, c2, c3, c4, c5, c6⟩ := ExsD.at [a] _ (ExsD.mono (HX.out.grew v).sub _ _ hx) 0 (by simp)
  simp only [Nat.zero_mul, Nat.add_zero, List.getElem_cons_zero] at c0 c1 c2 c3 c4 c5 c6
  have HC6 := Lib.hid c6
  obtain ⟨n0, hbn⟩ := mask_at c0
  obtain ⟨n1, -⟩ := mask_at c1
  obtain ⟨n2, -⟩ := mask_at c2
  obtain ⟨n3, -⟩ := mask_at c3
  obtain ⟨n4, -⟩ := mask_at c4
  obtain ⟨n5, -⟩ := mask_at c5
  have HBN := Lib.hid hbn
  obtain rfl : na = 1 := by simpa using hna
  have HXE := Lib.hid (hx0.trans HX.out)
  generalize argT k a = AT at *
  have t1 : ((k : Int) == 1) = false := by simp [hk]
  have t2 : ((k : Int) == 2) = false := by simp [hk]
  have t3 : ((k : Int) == 3) = false := by simp [hk]
  have t4 : ((k : Int) == 4) = false := by simp [hk]
  have t5 : ((k : Int) == 5) = false := by simp [hk]
  have t6 : ((k : Int) == 6) = true := by simp [hk]
  clear hw hna hx ho hl hop hk h0 hx0 c0 c1 c2 c3 c4 c5 c6 hbn ih hMM hok hone
  unfold exV
  go_enter Tryz.func35, Tryz.ntmps35
  go_upto_region 21 with fail
  generalize (w.alloc (.cells #[.int .i64 k, .string name, .slice aw nw cw, .int .i64 lo, .int .i64 hi, .slice (some ⟨b, off, none⟩) 1 ca] 28)).alloc (.cells #[.string ow, .bool on, .int .i64 ol, .int .i64 om, .int .i64 ob] 114) = wb at *
  have hz0 := HX.out.size
  clear o0 o1 o2 o3 o4 hbk
  refine wp_region_growL (m := 13) [12] (TokG [5, 12] wb v) (TokE [5, 12]) (TokR base wb v (fNotA v w.heap.size l ow k b off ca (.agg #[.int .i64 a.op, .string a.name, .slice aw1 nw1 cw1, .int .i64 a.lo, .int .i64 a.hi, .slice aa1 na1 ca1]) AT)) (by kernel_rfl) (by kernel_rfl) ⟨(Chg.refl _ _).drew, fun _ => (Ext.refl wb).drew⟩ (tokR_keeps (by kernel_rfl)) ?_ ?_
  · intro i o hi ho L vs W hiL hnc hG hd ρ hρ
    have hi' : i = 0 ∨ i = 1 ∨ i = 2 ∨ i = 3 ∨ i = 4 ∨ i = 5 ∨ i = 6 ∨ i = 7 ∨ i = 8 ∨ i = 9 ∨ i = 10 ∨ i = 11 ∨ i = 12 := by omega
    clear hi
    have o0 : ρ (.tmp 0) = v := hρ.out 0 rfl
    have o3 : ρ (.tmp 3) = .pointer (some ⟨w.heap.size, 0, none⟩) := hρ.out 3 rfl
    have o5 : ρ (.tmp 5) = .pointer (some ⟨w.heap.size + 1, 0, none⟩) := hρ.out 5 rfl
    have i0 := hρ.ins 0 89 (by omega) rfl (Nat.le_of_ble_eq_true rfl)
    have i1 := hρ.ins 1 90 (by omega) rfl (Nat.le_of_ble_eq_true rfl)
    have i2 := hρ.ins 2 91 (by omega) rfl (Nat.le_of_ble_eq_true rfl)
    have i3 := hρ.ins 3 92 (by omega) rfl (Nat.le_of_ble_eq_true rfl)
    have i4 := hρ.ins 4 93 (by omega) rfl (Nat.le_of_ble_eq_true rfl)
    have i5 := hρ.ins 5 94 (by omega) rfl (Nat.le_of_ble_eq_true rfl)
    have i6 := hρ.ins 6 95 (by omega) rfl (Nat.le_of_ble_eq_true rfl)
    have i7 := hρ.ins 7 96 (by omega) rfl (Nat.le_of_ble_eq_true rfl)
    have i8 := hρ.ins 8 97 (by omega) rfl (Nat.le_of_ble_eq_true rfl)
    have i9 := hρ.ins 9 98 (by omega) rfl (Nat.le_of_ble_eq_true rfl)
    have i10 := hρ.ins 10 99 (by omega) rfl (Nat.le_of_ble_eq_true rfl)
    have i11 := hρ.ins 11 100 (by omega) rfl (Nat.le_of_ble_eq_true rfl)
    have i12 := hρ.ins 12 101 (by omega) rfl (Nat.le_of_ble_eq_true rfl)
    have hcs := hρ.const
    have hfn := hρ.func
    clear hρ
    have hbW := hG.1.blk HBX.out HNR.out
    have hbO := hG.1.blk HBO.out HNO.out
    obtain ⟨b0, b1, b2, b3, b4, b5, bf⟩ := blk6 hbW
    obtain ⟨p0, p1, p2, p3, p4, pf⟩ := blk5a hbO
    clear hbW hbO
    have e0 := hG.1.cell n0 HBN.out
    have e1 := hG.1.cell n1 HBN.out
    have e2 := hG.1.cell n2 HBN.out
    have e3 := hG.1.cell n3 HBN.out
    have e4 := hG.1.cell n4 HBN.out
    have e5 := hG.1.cell n5 HBN.out
    have heb := block_lt e0
    simp only at heb
    have hwz := hG.1.size
    have HG := Lib.hid hG
    clear hG
    rcases hi' with rfl | rfl | rfl | rfl | rfl | rfl | rfl | rfl | rfl | rfl | rfl | rfl | rfl
    · cases ho
      unfold GivesOp
      go_simp
      exact ⟨Or.inr (Ext.refl _), HG.out.ext (Ext.refl _) _, rfl⟩
    · cases ho
      unfold GivesOp
      go_simp
      exact ⟨Or.inr (Ext.refl _), HG.out.ext (Ext.refl _) _, rfl⟩
    · cases ho
      have h1 : vs 1 = _ := hd ⟨1, .data⟩ (by simp) rfl
      rw [h1] at i1
      unfold GivesOp
      go_simp
      exact ⟨Or.inr (Ext.refl _), HG.out.ext (Ext.refl _) _, rfl⟩
    · cases ho
      have h2 : vs 2 = _ := hd ⟨2, .data⟩ (by simp) rfl
      rw [h2] at i2
      unfold GivesOp
      go_simp
      refine (sname_calls _ _).mono ?_
      rintro q W' ⟨rfl, hx⟩
      exact ⟨_, rfl, Or.inr hx, HG.out.ext hx _, rfl⟩
    · cases ho
      have h3 : vs 3 = _ := hd ⟨3, .data⟩ (by simp) rfl
      rw [h3] at i3
      unfold tokV nameT at i3
      unfold GivesOp
      go_simp
      exact ⟨Or.inr ((Ext.refl _).alloc _), HG.out.ext ((Ext.refl _).alloc _) _, W.heap.size, rfl, alloc_new W _⟩
    · cases ho
      have h0 : vs 0 = _ := hd ⟨0, .data⟩ (by simp) rfl
      rw [h0] at i0
      obtain ⟨x0, hb4, hx0⟩ := hd ⟨4, .data⟩ (by simp) rfl
      rw [hb4] at i4
      have hxW := HG.out.2 (tok_before (by decide +kernel) hiL hnc)
      refine gives_append_tok _ _ base v l _ i0 (HO.out.ext hxW) x0 i4 hx0 (by simp) (by simp; omega) (by omega) ?_
      intro u' w' ho' hg'
      exact ⟨Or.inl (by simp), TokG.grow (hxW.grew v) hg' (by simp), ho', (hxW.grew v).trans hg'⟩
    · cases ho
      unfold GivesOp
      go_simp
      exact ⟨Or.inr (Ext.refl _), HG.out.ext (Ext.refl _) _, rfl⟩
    · cases ho
      have h6 : vs 6 = _ := hd ⟨6, .data⟩ (by simp) rfl
      rw [h6] at i6
      unfold GivesOp
      go_simp
      exact ⟨Or.inr (Ext.refl _), HG.out.ext (Ext.refl _) _, rfl⟩
    · cases ho
      unfold GivesOp
      go_simp
      exact ⟨Or.inr (Ext.refl _), HG.out.ext (Ext.refl _) _, rfl⟩
    · cases ho
      have h8 : vs 8 = _ := hd ⟨8, .data⟩ (by simp) rfl
      rw [h8] at i8
      unfold GivesOp
      go_simp
      exact ⟨Or.inr (Ext.refl _), HG.out.ext (Ext.refl _) _, rfl⟩
    · cases ho
      have h9 : vs 9 = _ := hd ⟨9, .data⟩ (by simp) rfl
      rw [h9] at i9
      unfold GivesOp
      go_simp
      exact ⟨Or.inr (Ext.refl _), HG.out.ext (Ext.refl _) _, rfl⟩
    · cases ho
      have h10 : vs 10 = _ := hd ⟨10, .data⟩ (by simp) rfl
      rw [h10] at i10
      unfold GivesOp
      go_simp
      exact ⟨Or.inr (Ext.refl _), HG.out.ext (Ext.refl _) _, rfl⟩
    · cases ho
      have h7 : vs 7 = _ := hd ⟨7, .data⟩ (by simp) rfl
      rw [h7] at i7
      have h11 : vs 11 = _ := hd ⟨11, .data⟩ (by simp) rfl
      rw [h11] at i11
      obtain ⟨ho7, hg7⟩ := hd ⟨5, .data⟩ (by simp) rfl
      have HO7 := Lib.hid ho7
      have HG7 := Lib.hid hg7
      clear ho7 hg7
      generalize vs 5 = u7 at *
      unfold GivesOp
      go_simp
      refine (HARG.out _ u7 base W _ (HG7.out.1.ext HXE.out (fun q hq => by have := (HO.out.lt hq).1; omega)) hb0 (HC6.out.mono HG7.out.sub) HO7.out (by omega) (by simp; omega)).mono ?_
      rintro q W' ⟨u', rfl, ho', hg'⟩
      exact ⟨_, rfl, Or.inl (by simp), TokG.grow HG7.out hg' (by simp), ho', HG7.out.trans hg'⟩
  · intro L vs W _ hG hR
    rw [if_neg (by decide +kernel)]
    obtain ⟨ho', hg'⟩ := hR 12 (by simp) (by omega)
    have HO2 := Lib.hid ho'
    have HG2 := Lib.hid hg'
    clear hG hR ho' hg'
    unfold wpOp
    simp only [acts, dstAt, List.range, List.range.loop, List.foldl_cons, List.foldl_nil]
    go_simp
    refine Or.inl ?_
    go_wp2_with fail
    go_ret
    exact ⟨_, rfl, by rw [HE.out]; simpa using HO2.out, (HX.out.grew v).trans HG2.out⟩

set_option maxRecDepth 100000 in
set_option maxHeartbeats 4000000 in
theorem app_args {w0 : World} (h0 : HasOps w0) {m : Nat} (E : Ex) (ih : ArgDo w0 m) (hMM : ∀ x ∈ E.args, x.size ≤ m) (hok : ∀ x ∈ E.args, okTree x) (hfew : E.args.length ≤ 1000000000) (l : List Tok) (v : Value) (base : Nat) (w : World) (ev : Value) (hx0 : Ext w0 w) (hb0 : w0.heap.size ≤ base) (he : IsEx (mask w (rowOf v)) E ev) (ho : OwnT w base l v) (hb : base ≤ w.heap.size) (hl : l.length + (tokE E).length ≤ 10000) (hop : E.op = 7 ∨ E.op = 8) :
    Calls Tryz.prog 35 #[v, ev] w (TokQ base (l ++ tokE E) v w) := by
  obtain ⟨aw, nw, cw, aa, na, ca, rfl, hw, hna, hca, ha, hx⟩ := he.parts
  clear he hca ha
  obtain ⟨op, name, words, lo, hi, args⟩ := E
  simp only [Ex.op, Ex.name, Ex.words, Ex.lo, Ex.hi, Ex.args] at *
  obtain ⟨k, rfl⟩ : ∃ k : Nat, op = (k : Int) := ⟨op.toNat, by omega⟩
  have hk : k = 7 ∨ k = 8 := by omega
  obtain ⟨o0, o1, o2, o3, o4⟩ := (h0.ext hx0) k (by omega)
  have hbk := block_lt o0
  simp only at hbk
  have hk9 : k < 9 := by omega
  have HWD := Lib.hid (show opWord k = if (k : Int) = 7 then wAnd else wOr by rcases hk with hk | hk <;> (rw [hk]; rfl))
  generalize opLeast k = ol, opMost k = om, opNamed k = on, opWord k = ow, opBinds k = ob at *
  have HX := Lib.hid (((Ext.refl w).alloc (.cells #[.int .i64 k, .string name, .slice aw nw cw, .int .i64 lo, .int .i64 hi, .slice aa na ca] 28)).alloc (.cells #[.string ow, .bool on, .int .i64 ol, .int .i64 om, .int .i64 ob] 114))
  have HO := Lib.hid (ho.ext HX.out)
  have HBX := Lib.hid (blk_alloc (o' := .cells #[.string ow, .bool on, .int .i64 ol, .int .i64 om, .int .i64 ob] 114) (alloc_new w (.cells #[.int .i64 k, .string name, .slice aw nw cw, .int .i64 lo, .int .i64 hi, .slice aa na ca] 28)))
  have HBO := Lib.hid (alloc_at (w := w.alloc (.cells #[.int .i64 k, .string name, .slice aw nw cw, .int .i64 lo, .int .i64 hi, .slice aa na ca] 28)) (o := .cells #[.string ow, .bool on, .int .i64 ol, .int .i64 om, .int .i64 ob] 114) (n := w.heap.size + 1) (by simp))
  have HNR := Lib.hid (show w.heap.size ∉ rowOf v from fun h => by have := (ho.lt h).2; omega)
  have HNO := Lib.hid (show w.heap.size + 1 ∉ rowOf v from fun h => by have := (ho.lt h).2; omega)
  have HE := Lib.hid (show tokE (.mk k name words lo hi args) = tokArgs k args by
    rcases hk with hk | hk <;> (rw [hk]; simp [tokE]))
  have HLL := Lib.hid (show l.length + (tokArgs k args).length ≤ 10000 by rw [HE.out] at hl; exact hl)
  have hl1 : l.length ≤ 10000 := by omega
  have HARG := Lib.hid (fun a (ha : a ∈ args) l v base w ev => ih k a l v base w ev (by omega) (by omega) (hMM a ha) (hok a ha))
  have HXS := Lib.hid (ExsD.mono (HX.out.grew v).sub args aa hx)
  have HXE := Lib.hid (hx0.trans HX.out)
  have HNA := Lib.hid hna
  have hna2 : na ≤ 1000000000 := by omega
  have t1 : ((k : Int) == 1) = false := by simp; omega
  have t2 : ((k : Int) == 2) = false := by simp; omega
  have t3 : ((k : Int) == 3) = false := by simp; omega
  have t4 : ((k : Int) == 4) = false := by simp; omega
  have t5 : ((k : Int) == 5) = false := by simp; omega
  have t6 : ((k : Int) == 6) = false := by simp; omega
  clear hw hna hx ho hl hop hk h0 hx0 ih hMM hok hfew
  unfold exV
  go_enter Tryz.func35, Tryz.ntmps35
  go_upto_region 22 with fail
  generalize (w.alloc (.cells #[.int .i64 k, .string name, .slice aw nw cw, .int .i64 lo, .int .i64 hi, .slice aa na ca] 28)).alloc (.cells #[.string ow, .bool on, .int .i64 ol, .int .i64 om, .int .i64 ob] 114) = wb at *
  have hz0 := HX.out.size
  obtain ⟨b0, b1, b2, b3, b4, b5, bf⟩ := blk6 HBX.out
  have hlx := blk_lt HBX.out
  clear o0 o1 o2 o3 o4 hbk
  go_wp2_with fail
  clear b0 b1 b2 b3 b4 b5 bf hlx
  go_loopg [0, 105] na (fun g u i wr => ∃ j : Nat, j ≤ na ∧ g = na - j ∧ i = .int .i64 j ∧ OwnT wr base (l ++ tokArgs k (args.take j)) u ∧ Grew wb v wr u)
  case atStart => exact ⟨0, by omega, rfl, rfl, by simpa [tokArgs] using HO.out, Grew.refl _ _⟩
  case round =>
    obtain ⟨j, hj, hgj, rfl, ho, hg⟩ := hrel
    have HGN := Lib.hid hgj
    have HOk := Lib.hid ho
    have HGk := Lib.hid hg
    have hzr := hg.1.size
    clear ho hg hgj
    by_cases hlt : j < na
    · have hlt' : j < args.length := by have := HNA.out; omega
      have td : decide ((j : Int) < (na : Int)) = true := by simp; omega
      obtain ⟨b, off, rfl, aw1, nw1, cw1, aa1, na1, ca1, c0, c1, c2, c3, c4, c5, c6⟩ := ExsD.at args _ (ExsD.mono HGk.out.sub _ _ HXS.out) j hlt'
      have HC6 := Lib.hid c6
      replace c0 := mask_in c0
      replace c1 := mask_in c1
      replace c2 := mask_in c2
      replace c3 := mask_in c3
      replace c4 := mask_in c4
      replace c5 := mask_in c5
      have HMEM := Lib.hid (List.getElem_mem hlt')
      have HSN := Lib.hid (show tokArgs k (args.take (j + 1)) = tokArgs k (args.take j) ++ ((if j = 0 then [] else [nameT ow]) ++ argT k args[j]) by
        have e1 : args.take (j + 1) = args.take j ++ [args[j]] := by simp
        rw [e1, tokArgs_snoc, List.length_take, Nat.min_eq_left (by omega), HWD.out])
      have HLEN := Lib.hid (show (l ++ tokArgs k (args.take j)).length + (if j = 0 then 0 else 1) + (argT k args[j]).length ≤ 10000 by
        have a1 := tokArgs_take (k : Int) args (j + 1)
        have a2 := HLL.out
        rw [HSN.out] at a1
        simp only [List.length_append] at a1 ⊢
        by_cases hk0 : j = 0
        · rw [if_pos hk0] at a1 ⊢; simp only [List.length_nil] at a1; omega
        · rw [if_neg hk0] at a1 ⊢; simp only [List.length_cons, List.length_nil] at a1; omega)
      clear c6
      generalize args[j] = a at *
      go_upto_region 25 with fail
      have HXA := Lib.hid ((Ext.refl wr).alloc (.cells #[.int .i64 a.op, .string a.name, .slice aw1 nw1 cw1, .int .i64 a.lo, .int .i64 a.hi, .slice aa1 na1 ca1] 28))
      have HBA := Lib.hid (alloc_new wr (.cells #[.int .i64 a.op, .string a.name, .slice aw1 nw1 cw1, .int .i64 a.lo, .int .i64 a.hi, .slice aa1 na1 ca1] 28))
      have HZA := Lib.hid (show (wr.alloc (.cells #[.int .i64 a.op, .string a.name, .slice aw1 nw1 cw1, .int .i64 a.lo, .int .i64 a.hi, .slice aa1 na1 ca1] 28)).heap.size = wr.heap.size + 1 by simp)
      clear c0 c1 c2 c3 c4 c5
      generalize wr.alloc (.cells #[.int .i64 a.op, .string a.name, .slice aw1 nw1 cw1, .int .i64 a.lo, .int .i64 a.hi, .slice aa1 na1 ca1] 28) = wa at *
      have HOA := Lib.hid (HOk.out.ext HXA.out)
      have HGA := Lib.hid (HGk.out.trans (HXA.out.grew _))
      have H6A := Lib.hid (HC6.out.mono (HXA.out.grew _).sub)
      have HNRA := Lib.hid (show wr.heap.size ∉ rowOf u0 from fun h => by have := (HOk.out.lt h).2; omega)
      have hza : wa.heap.size = wr.heap.size + 1 := HZA.out
      have hbO := HGA.out.1.blk HBO.out HNO.out
      have hlO := blk_lt hbO
      obtain ⟨p0, p1, p2, p3, p4, pf⟩ := blk5a hbO
      clear hbO HC6
      obtain ⟨L, hL⟩ : ∃ L, L = l ++ tokArgs k (args.take j) := ⟨_, rfl⟩
      rw [← hL] at HOA HLEN
      have HL := Lib.hid hL
      clear hL
      by_cases hk0 : j = 0
      case' pos =>
        have HJ := Lib.hid (show tokArgs k (args.take (j + 1)) = tokArgs k (args.take j) ++ argT k a by rw [HSN.out, if_pos hk0]; simp)
        have hLL : L.length + (argT k a).length ≤ 10000 := by have := HLEN.out; rw [if_pos hk0] at this; omega
        have tz2 : decide (0 < (j : Int)) = false := by simp; omega
        have tz3 : decide (0 < j) = false := by simp; omega
        have HO3 := Lib.hid HOA.out
        have HG3 := Lib.hid (Grew.refl wa u0)
        have HJL := Lib.hid (show L ++ argT k a = l ++ tokArgs k (args.take (j + 1)) by rw [HJ.out, HL.out, List.append_assoc])
        clear hk0 HSN HLEN HJ HL
        go_upto_region 27 with fail
        clear p0 p1 p2 p3 p4 pf hlO
      case' neg =>
        have HJ := Lib.hid (show tokArgs k (args.take (j + 1)) = tokArgs k (args.take j) ++ ([nameT ow] ++ argT k a) by rw [HSN.out, if_neg hk0])
        have hLL0 : L.length + 1 + (argT k a).length ≤ 10000 := by have := HLEN.out; rw [if_neg hk0] at this; omega
        have tz2 : decide (0 < (j : Int)) = true := by simp; omega
        have tz3 : decide (0 < j) = true := by simp; omega
        clear hk0 HSN HLEN
        go_wp2_with fail
        refine (sname_calls _ _).mono ?_
        rintro r w1 ⟨rfl, hx1⟩
        have HOW := Lib.hid (HOA.out.ext hx1)
        have HGW := Lib.hid (hx1.grew u0)
        have hz := hx1.size
        simp only [tokV, nameT]
        clear hx1 p0 p1 p2 p3 p4 pf hlO
        go_wp2_with (at_builtin; refine wpList_append_tok rfl _ _ rfl base _ _ [nameT ow] rfl HOW.out _ 1 1 rfl ?c0 ?c1 rfl ?c2 ?c3 ?c4 ?_)
        case c0 => rfl
        case c1 => rfl
        case c2 => omega
        case c3 => omega
        case c4 => omega
        intro v2 wc hown2 hgrow2
        have HO3 := Lib.hid hown2
        have HG3 := Lib.hid (HGW.out.trans hgrow2)
        have hLL : (L ++ [nameT ow]).length + (argT k a).length ≤ 10000 := by simp; omega
        have HJL := Lib.hid (show L ++ [nameT ow] ++ argT k a = l ++ tokArgs k (args.take (j + 1)) by rw [HJ.out, HL.out]; simp)
        clear hown2 hgrow2 HOW HGW HJ HL hLL0
        generalize L ++ [nameT ow] = L at *
        go_upto_region 27 with fail
      all_goals
        have hbC := HG3.out.1.blk HBA.out HNRA.out
        have hlC := blk_lt hbC
        have hbE := (HGA.out.trans HG3.out).1.blk HBX.out HNR.out
        have hlE := blk_lt hbE
        obtain ⟨a0, a1, a2, a3, a4, a5, af⟩ := blk6 hbC
        obtain ⟨b0, b1, b2, b3, b4, b5, bf⟩ := blk6 hbE
        have HEC := Lib.hid (H6A.out.mono HG3.out.sub)
        have HXC := Lib.hid ((HGA.out.trans HG3.out).1.ext HXE.out (fun q hq => by have := (HO.out.lt hq).1; omega))
        have hzc := HG3.out.1.size
        clear hbC hbE
        go_wp2_with fail
        refine (HARG.out a HMEM.out _ _ base _ _ HXC.out hb0 HEC.out HO3.out (by omega) hLL).mono ?_
        rintro r w1 ⟨u', rfl, ho', hg'⟩
        have HO5 := Lib.hid ho'
        have HG5 := Lib.hid ((HGA.out.trans HG3.out).trans hg')
        clear ho' hg' a0 a1 a2 a3 a4 a5 af b0 b1 b2 b3 b4 b5 bf
        go_wp2_with fail
        go_roundg (na - (j + 1))
        case measure => have := HGN.out; omega
        case rel => exact ⟨j + 1, by omega, rfl, by go_num, by rw [← HJL.out]; exact HO5.out, HG5.out⟩
    · have HE2 := Lib.hid (show args.take j = args from List.take_of_length_le (by have := HNA.out; omega))
      have td : decide ((j : Int) < (na : Int)) = false := by simp; omega
      rw [HE2.out] at HOk
      go_wp2_with fail
      go_ret
      exact ⟨_, rfl, by rw [HE.out]; exact HOk.out, (HX.out.grew v).trans HGk.out⟩

/-- appendExpr appends the tokens of an expression. -/
theorem app_calls {w0 : World} (h0 : HasOps w0) : ∀ m, m ≤ 1000000000 → AppDo w0 m := by
  intro m
  induction m with
  | zero => intro _ e l v base w ev h; have := size_pos e; omega
  | succ m ih =>
    intro hm e l v base w ev hs hok hx0 hb0 he ho hb hl
    obtain ⟨hn, ha⟩ := okTree_parts hok
    have hS : e.size = 1 + sizes e.args := e.size_eq
    have hla := length_le_sizes e.args
    have hsm : ∀ x ∈ e.args, x.size ≤ m := fun x hx => by have := sizes_mem hx; omega
    have hA := arg_calls h0 m (ih (by omega))
    unfold okNode at hn
    rcases hn with hn | hn | hn | hn | hn | hn | hn
    · exact app_true h0 e l v base w ev hx0 hb0 he ho hb hl hn.1
    · exact app_false h0 e l v base w ev hx0 hb0 he ho hb hl hn.1
    · exact app_name h0 e l v base w ev hx0 hb0 he ho hb hl hn.1
    · exact app_in h0 e l v base w ev hx0 hb0 he ho hb hl hn.1
    · exact app_btw h0 e l v base w ev hx0 hb0 he ho hb hl hn.1
    · exact app_not h0 e hA hsm ha hn.2.2.2.2.2 l v base w ev hx0 hb0 he ho hb hl hn.1
    · exact app_args h0 e hA hsm ha (by omega) l v base w ev hx0 hb0 he ho hb hl hn.1
end Go.Proofs.YtaepiiediblleaaGreatDoor

namespace Go.Proofs.YtaepiiediblleaaGreatDoor

mutual
def pNodes : Ex → Bool
  | .mk op name words lo hi args => nodeB (.mk op name words lo hi args) && pNodesAll args
def pNodesAll : List Ex → Bool
  | [] => true
  | e :: r => pNodes e && pNodesAll r
end
mutual
theorem validF_spec : (e : Ex) → (d n : Int) → n ≤ 300 → d ≤ 17 → ((validF e d n).1 = true ↔ (d + e.depth ≤ 17 ∧ n + e.size ≤ 300 ∧ pNodes e = true)) ∧ ((validF e d n).1 = true → (validF e d n).2 = n + e.size)
  | .mk op name words lo hi args, d, n, hn, hd => by
    have hs : (Ex.mk op name words lo hi args).size = 1 + sizes args := by simp [Ex.size]
    have hp : (Ex.mk op name words lo hi args).depth = depths args + 1 := by simp [Ex.depth]
    rw [validF, hs, hp, pNodes]
    by_cases hc : 300 < n + 1 ∨ 16 < d ∨ nodeB (.mk op name words lo hi args) = false
    · rw [if_pos hc]
      refine ⟨⟨fun h => by simp at h, fun ⟨h1, h2, h3⟩ => ?_⟩, fun h => by simp at h⟩
      rcases hc with hc | hc | hc
      · omega
      · omega
      · rw [hc] at h3; simp at h3
    · rw [if_neg hc]
      have hnb : nodeB (.mk op name words lo hi args) = true := by
        cases hh : nodeB (.mk op name words lo hi args)
        · exact absurd (Or.inr (Or.inr hh)) hc
        · rfl
      obtain ⟨h1, h2⟩ := validsF_spec args (d + 1) (n + 1) (by omega) (by omega)
      rw [hnb, Bool.true_and]
      refine ⟨h1.trans ⟨fun ⟨a, b, c⟩ => ⟨by omega, by omega, c⟩, fun ⟨a, b, c⟩ => ⟨by omega, by omega, c⟩⟩, fun h => by have := h2 h; omega⟩
theorem validsF_spec : (l : List Ex) → (d n : Int) → n ≤ 300 → d ≤ 17 → ((validsF l d n).1 = true ↔ (d + depths l ≤ 17 ∧ n + sizes l ≤ 300 ∧ pNodesAll l = true)) ∧ ((validsF l d n).1 = true → (validsF l d n).2 = n + sizes l)
  | [], d, n, hn, hd => by simp [validsF, depths, sizes, pNodesAll]; omega
  | e :: r, d, n, hn, hd => by
    obtain ⟨h1, h2⟩ := validF_spec e d n hn hd
    rw [validsF, depths, sizes, pNodesAll]
    by_cases hv : (validF e d n).1 = true
    · rw [if_pos hv]
      have e2 := h2 hv
      obtain ⟨a1, a2, a3⟩ := h1.1 hv
      obtain ⟨h3, h4⟩ := validsF_spec r d (validF e d n).2 (by omega) hd
      refine ⟨h3.trans ⟨fun ⟨a, b, c⟩ => ⟨by omega, by omega, by rw [a3, c]; rfl⟩, fun ⟨a, b, c⟩ => ⟨by omega, by omega, by rw [a3] at c; simpa using c⟩⟩, fun h => by have := h4 h; omega⟩
    · rw [if_neg hv]
      refine ⟨⟨fun h => by simp at h, fun ⟨a, b, c⟩ => absurd (h1.2 ⟨by omega, by omega, ?_⟩) hv⟩, fun h => by simp at h⟩
      rw [Bool.and_eq_true] at c; exact c.1
end

theorem nodeB_ref (e : Ex) (h : e.args.length ≤ 300) : nodeB e = refNodeB e := by
  obtain ⟨op, name, words, lo, hi, args⟩ := e
  simp only [nodeB, refNodeB, refNode, Ex.op, Ex.name, Ex.words, Ex.lo, Ex.hi, Ex.args, wordsB] at *
  by_cases h1 : 1 ≤ op ∧ op ≤ 8
  · have hk : op = 1 ∨ op = 2 ∨ op = 3 ∨ op = 4 ∨ op = 5 ∨ op = 6 ∨ op = 7 ∨ op = 8 := by omega
    have hw : words.isEmpty = decide (words.length = 0) := by cases words <;> simp
    have hw2 : (words.length != 0) = decide (1 ≤ words.length) := by cases words <;> simp
    rw [hw, hw2]
    rcases hk with rfl | rfl | rfl | rfl | rfl | rfl | rfl | rfl
    all_goals
      simp only [show ((1 : Int).toNat) = 1 from rfl, show ((2 : Int).toNat) = 2 from rfl, show ((3 : Int).toNat) = 3 from rfl, show ((4 : Int).toNat) = 4 from rfl, show ((5 : Int).toNat) = 5 from rfl, show ((6 : Int).toNat) = 6 from rfl, show ((7 : Int).toNat) = 7 from rfl, show ((8 : Int).toNat) = 8 from rfl, opLeast, opMost, opNamed]
      rw [Bool.eq_iff_iff]
      simp
      try grind
  · simp [h1]
mutual
theorem pNodes_ref : (e : Ex) → e.size ≤ 300 → pNodes e = nodesB e
  | .mk op name words lo hi args, h => by
    have hs : (Ex.mk op name words lo hi args).size = 1 + sizes args := by simp [Ex.size]
    have hl := length_le_sizes args
    rw [pNodes, nodesB, nodeB_ref _ (by simp only [Ex.args]; omega), pNodesAll_ref args (by omega)]
theorem pNodesAll_ref : (l : List Ex) → sizes l ≤ 300 → pNodesAll l = nodesAll l
  | [], _ => by simp [pNodesAll, nodesAll]
  | e :: r, h => by
    rw [sizes] at h
    rw [pNodesAll, nodesAll, pNodes_ref e (by omega), pNodesAll_ref r (by omega)]
end
/-- The program's Valid and the reference's are one. -/
theorem validB_ref (e : Ex) : validB e = refExprB e := by
  unfold validB refExprB
  have h := (validF_spec e 1 0 (by omega) (by omega)).1
  have e1 : refSize e ≤ 300 ↔ e.size ≤ 300 := by unfold refSize; omega
  rw [Bool.eq_iff_iff, h, Bool.and_eq_true, Bool.and_eq_true]
  constructor
  · rintro ⟨a, b, c⟩
    refine ⟨⟨?_, ?_⟩, by rw [← pNodes_ref e (by omega)]; exact c⟩
    · rw [decide_eq_false (by omega)]; rfl
    · rw [decide_eq_true_eq, e1]; omega
  · rintro ⟨⟨a, b⟩, c⟩
    have a2 : ¬ 16 < e.depth := fun h => by rw [decide_eq_true h] at a; cases a
    have b2 := e1.1 (of_decide_eq_true b)
    exact ⟨by omega, by omega, by rw [pNodes_ref e (by omega)]; exact c⟩
end Go.Proofs.YtaepiiediblleaaGreatDoor

namespace Go.Proofs.YtaepiiediblleaaGreatDoor

/-- What the reference asks of a node is what okNode says. -/
theorem refNode_ok (e : Ex) : refNodeB e = true ↔ okNode e := by
  obtain ⟨op, name, words, lo, hi, args⟩ := e
  have hw : words = [] ↔ words.length = 0 := by cases words <;> simp
  have ha : args = [] ↔ args.length = 0 := by cases args <;> simp
  have hnm : name = ⟨#[]⟩ ↔ name.toList.isEmpty = true := by
    rw [List.isEmpty_iff, ByteArray.toList_eq]
    constructor
    · rintro rfl; rfl
    · intro h
      apply ByteArray.ext
      simpa using h
  simp only [refNodeB, refNode, okNode, Ex.op, Ex.name, Ex.words, Ex.lo, Ex.hi, Ex.args, wordsB, hw, ha, hnm]
  by_cases h1 : 1 ≤ op ∧ op ≤ 8
  · have hk : op = 1 ∨ op = 2 ∨ op = 3 ∨ op = 4 ∨ op = 5 ∨ op = 6 ∨ op = 7 ∨ op = 8 := by omega
    rcases hk with rfl | rfl | rfl | rfl | rfl | rfl | rfl | rfl
    all_goals
      simp
      try grind
  · simp [h1]
    omega
mutual
theorem nodes_ok : (e : Ex) → (nodesB e = true ↔ okTree e)
  | .mk op name words lo hi args => by
    rw [nodesB, okTree, Bool.and_eq_true, refNode_ok, nodesAll_ok args]
theorem nodesAll_ok : (l : List Ex) → (nodesAll l = true ↔ okTrees l)
  | [] => by simp [nodesAll, okTrees]
  | e :: r => by rw [nodesAll, okTrees, Bool.and_eq_true, nodes_ok e, nodesAll_ok r]
end
theorem valid_ok (e : Ex) : validB e = true ↔ (okTree e ∧ e.depth ≤ 16 ∧ e.size ≤ 300) := by
  rw [validB_ref, refExprB, Bool.and_eq_true, Bool.and_eq_true, nodes_ok]
  have e1 : refSize e ≤ 300 ↔ e.size ≤ 300 := by unfold refSize; omega
  simp only [Bool.not_eq_true', decide_eq_false_iff_not, decide_eq_true_eq, e1]
  constructor
  · rintro ⟨⟨a, b⟩, c⟩; exact ⟨c, by omega, b⟩
  · rintro ⟨a, b, c⟩; exact ⟨⟨by omega, c⟩, a⟩
end Go.Proofs.YtaepiiediblleaaGreatDoor

namespace Go.Proofs.YtaepiiediblleaaGreatDoor

theorem accept_end {toks : List Tok} {k : Nat} (h : toks.length ≤ k) (kind : Int) (text : ByteArray) : acceptB toks k kind text = false := by rw [acceptB, List.getElem?_eq_none h]
theorem tokensF_ok {toks : List Tok} {e : Ex} (h : Gr toks .ors 0 [] e 0 toks.length) (h1 : e.size ≤ 300) (h2 : e.depth ≤ 16) : tokensF toks 0 = (e, (toks.length : Int), 0, 0) := by
  have hr := h.run
  rw [if_neg (by simp)] at hr
  unfold tokensF
  rw [show (0 : Int).toNat = 0 from rfl, hr, if_neg (by omega), if_neg (by simp), partOf_size, partOf_depth, if_neg (by omega), partOf_ex h1 h2]
theorem tokensF_limit {toks : List Tok} {e : Ex} (h : Gr toks .ors 0 [] e 0 toks.length) (h1 : 300 < e.size) : tokensF toks 0 = (ex0, 0, 0, 4) := by
  have hr := h.run
  rw [if_neg (by simp)] at hr
  unfold tokensF
  rw [show (0 : Int).toNat = 0 from rfl, hr, if_neg (by omega), if_neg (by simp), partOf_size, partOf_depth, if_pos (by omega)]
/-- The tokens of an expression in parentheses. -/
def parT (a : Ex) : List Tok := [markT 40] ++ tokE a ++ [markT 41]
def parPc (a : Ex) : List Pc := [.tk (markT 40)] ++ fmtPc a ++ [.tk (markT 41)]
theorem toksOf_fmtPc (a : Ex) : toksOf (fmtPc a) = tokE a := toksOf_joinPc _ _
theorem toksOf_parPc (a : Ex) : toksOf (parPc a) = parT a := by rw [parPc, toksOf_append, toksOf_append, toksOf_fmtPc]; rfl
theorem gr_par {toks : List Tok} {e : Ex} (hok : okTree e) {k : Nat} (ha : AtT toks k (parT e)) : Gr toks .neg k [] e 0 (k + (parT e).length) := (reads_ok toks e.size e (Nat.le_refl _) hok).parens ha
theorem parT_len (a : Ex) : (parT a).length = (tokE a).length + 2 := by simp [parT]

def notE (b : Ex) : Ex := .mk 6 ⟨#[]⟩ [] 0 0 [b]
def wantE (a b c : Ex) : Ex := .mk 8 ⟨#[]⟩ [] 0 0 [a, .mk 7 ⟨#[]⟩ [] 0 0 [notE b, c]]
def bindPc (a b c : Ex) : List Pc := parPc a ++ ([.sp, .tk (nameT wOr), .sp, .tk (nameT wNot), .sp] ++ (parPc b ++ ([.sp, .tk (nameT wAnd), .sp] ++ parPc c)))
def bindT (a b c : Ex) : List Tok := parT a ++ ([nameT wOr, nameT wNot] ++ (parT b ++ ([nameT wAnd] ++ parT c)))
theorem toksOf_bindPc (a b c : Ex) : toksOf (bindPc a b c) = bindT a b c := by
  simp only [bindPc, toksOf_append, toksOf_parPc, bindT, toksOf]
theorem binds_gr {toks : List Tok} {a b c : Ex} (ha : okTree a) (hb : okTree b) (hc : okTree c) (h : AtT toks 0 (bindT a b c)) (hl : toks.length = (bindT a b c).length) : Gr toks .ors 0 [] (wantE a b c) 0 toks.length := by
  unfold bindT at h
  rw [AtT.append, AtT.append, AtT.append, AtT.append] at h
  obtain ⟨h1, ⟨h2, h3, _⟩, h4, ⟨h5, _⟩, h6⟩ := h
  have ga := gr_par ha h1
  have gb := gr_par hb h4
  have gc := gr_par hc h6
  simp only [Nat.zero_add, List.length_cons, List.length_nil] at *
  have hend : (parT a).length + 2 + (parT b).length + 1 + (parT c).length = toks.length := by rw [hl]; simp [bindT]; omega
  rw [hend] at gc
  refine Gr.orStep (acc := []) (Gr.andStop (acc := []) ga (by rw [accept_at h2]; simp [nameT, wAnd_ne.2.2.2.2.1])) (by rw [accept_at h2]; simp [nameT]) ?_
  refine Gr.orStop (acc := [a]) (Gr.andStep (acc := []) (Gr.notOk (by rw [accept_at h3]; simp [nameT]) gb) (by rw [accept_at h5]; simp [nameT]) (Gr.andStop (acc := [notE b]) gc (accept_end (by omega) _ _))) (accept_end (by omega) _ _)
theorem sepA_par {a : Ex} (h : okTree a) (p : Bool) (r : List Pc) : sepA p (parPc a ++ r) = sepA false r := by
  have h1 : sepA false (fmtPc a) = true := sepA_joinPc (tokE a) true false (good_tokE a.size a (Nat.le_refl _) h) (by simp)
  unfold parPc
  rw [sepA_append, sepA_append, sepA_append]
  have e1 : endA p [.tk (markT 40)] = false := rfl
  have e2 : ∀ q, endA q [.tk (markT 41)] = false := fun _ => rfl
  have e3 : sepA p [.tk (markT 40)] = true := by simp [sepA, markT]
  have e4 : ∀ q, sepA q [.tk (markT 41)] = true := fun q => by simp [sepA, markT]
  have e5 : endA p ([.tk (markT 40)] ++ fmtPc a ++ [.tk (markT 41)]) = false := by
    have : ∀ (l m : List Pc) (q : Bool), endA q (l ++ m) = endA (endA q l) m := by
      intro l
      induction l with
      | nil => intro m q; rfl
      | cons x r ih => intro m q; cases x <;> simp [endA, ih]
    rw [this]; exact e2 _
  rw [e1, h1, e3, e4, e5]; rfl
theorem good_par {a : Ex} (h : okTree a) : ∀ t ∈ parT a, goodT t := by
  intro t ht
  simp only [parT, List.mem_append, List.mem_singleton] at ht
  rcases ht with (rfl | ht) | rfl
  · exact goodT_mark (by decide)
  · exact good_tokE a.size a (Nat.le_refl _) h t ht
  · exact goodT_mark (by decide)
theorem parPc_len {d : Nat} {a : Ex} (h : Fine d a) : (pcsB (parPc a)).length ≤ boundB d + 2 := by
  have h1 := pcsB_joinPc_le (tokE a) true
  have h2 := h.wt
  have e : (pcsB (parPc a)).length = 1 + (pcsB (fmtPc a)).length + 1 := by
    rw [parPc, pcsB_append, pcsB_append, List.length_append, List.length_append]; rfl
  unfold fmtPc at e
  omega
theorem bound4 : boundT 4 = 1211 ∧ boundB 4 = 4445 ∧ boundS 4 = 121 ∧ boundT 3 = 401 ∧ boundB 3 = 1475 ∧ boundS 3 = 40 := by decide
theorem binds_scan {a b c : Ex} (ha : Fine 4 a) (hb : Fine 4 b) (hc : Fine 4 c) : ∃ ts, scanAll ⟨(pcsB (bindPc a b c)).toArray⟩ = (ts, 0, 0) ∧ Gr ts .ors 0 [] (wantE a b c) 0 ts.length ∧ ts.length ≤ 4000 ∧ (∀ t ∈ ts, t.text.size ≤ 1000000000000000) ∧ (pcsB (bindPc a b c)).length ≤ 16384 ∧ 1 ≤ ts.length ∧ (∀ t ∈ toksOf (bindPc a b c), goodT t) := by
  have bd4 := bound4
  have l1 := ha.len; have l2 := hb.len; have l3 := hc.len
  have b1 := parPc_len ha; have b2 := parPc_len hb; have b3 := parPc_len hc
  have hgood : ∀ t ∈ toksOf (bindPc a b c), goodT t := by
    intro t ht
    rw [toksOf_bindPc, bindT] at ht
    simp only [List.mem_append, List.mem_cons, List.not_mem_nil, or_false] at ht
    rcases ht with ht | (rfl | rfl) | ht | rfl | ht
    · exact good_par ha.ok t ht
    · exact goodT_name words_ok.2.2.2.2.2.2.2
    · exact goodT_name words_ok.2.2.2.2.2.1
    · exact good_par hb.ok t ht
    · exact goodT_name words_ok.2.2.2.2.2.2.1
    · exact good_par hc.ok t ht
  have hlen : (pcsB (bindPc a b c)).length ≤ 16384 := by
    unfold bindPc
    rw [pcsB_append, pcsB_append, pcsB_append, pcsB_append]
    simp only [List.length_append]
    have q1 : (pcsB [.sp, .tk (nameT wOr), .sp, .tk (nameT wNot), .sp]).length = 8 := rfl
    have q2 : (pcsB [.sp, .tk (nameT wAnd), .sp]).length = 5 := rfl
    omega
  have hT : (bindT a b c).length ≤ 4000 := by
    simp only [bindT, List.length_append, parT_len, List.length_cons, List.length_nil]; omega
  have hsep : sepA false (bindPc a b c) = true := by
    unfold bindPc
    rw [sepA_par ha.ok]
    simp only [List.cons_append, List.nil_append, sepA, Bool.not_false, Bool.true_or, Bool.true_and]
    rw [sepA_par hb.ok]
    simp only [sepA, Bool.not_false, Bool.true_or, Bool.true_and]
    rw [show parPc c = parPc c ++ [] by simp, sepA_par hc.ok]; rfl
  obtain ⟨ts, h1, h2⟩ := scanAll_pcs hsep hgood (by rw [toksOf_bindPc]; exact hT) hlen
  rw [toksOf_bindPc] at h2
  obtain ⟨h3, h4⟩ := atT_all h2
  refine ⟨ts, h1, binds_gr ha.ok hb.ok hc.ok h3 h4, by omega, fun t ht => ?_, hlen, ?_, hgood⟩
  · have hz : zp t ∈ bindT a b c := by rw [← h2]; exact List.mem_map_of_mem ht
    have := hgood (zp t) (by rw [toksOf_bindPc]; exact hz)
    obtain ⟨_, ⟨_, h5, _⟩ | ⟨_, h5, _⟩ | ⟨_, _, c, h5, _⟩⟩ := this
    · simp only [wordB, Bool.and_eq_true, decide_eq_true_eq] at h5
      have : (zp t).text.size ≤ 16 := h5.1.1.1.2
      have e : (zp t).text = t.text := rfl
      rw [e] at this; omega
    · have e : (zp t).text = t.text := rfl
      rw [← e, h5]; decide
    · have e : (zp t).text = t.text := rfl
      rw [← e, h5]; exact (by simp [ByteArray.size] : (⟨#[c]⟩ : ByteArray).size ≤ 1000000000000000)
  · rw [h4]; simp only [bindT, List.length_append, parT_len]; omega
end Go.Proofs.YtaepiiediblleaaGreatDoor

namespace Go.Proofs.YtaepiiediblleaaGreatDoor
open Go.RowKit

theorem empty_isEmpty {s : ByteArray} (h : s = ⟨#[]⟩) : s.toList.isEmpty = true := isEmpty_true (by subst h; rfl)
theorem okNode_ref {e : Ex} (h : okNode e) : refNodeB e = true := by
  unfold refNodeB refNode
  rcases h with ⟨h1, h2, h3, h4, h5, h6⟩ | ⟨h1, h2, h3, h4, h5, h6⟩ | ⟨h1, h2, h3, h4, h5, h6⟩ | ⟨h1, h2, h3, h4, h5, h6⟩ | ⟨h1, h2, h3, h4, h5, h6, h7⟩ | ⟨h1, h2, h3, h4, h5, h6⟩ | ⟨h1, h2, h3, h4, h5, h6⟩
  · simp [h1, h2, h3, h4, h5, h6]
  · simp [h1, h2, h3, h4, h5, h6]
  · simp [h1, h2, h3, h4, h5, h6]
  · simp only [wordsB, Bool.and_eq_true, bne_iff_ne, decide_eq_true_eq] at h3
    have h7 : 1 ≤ e.words.length := by have := h3.1.1.1; omega
    simp [h1, h2, h4, h5, h6, h7, h3.1.1.2, h3.2]
    simpa using h3.1.2
  · simp [h1, h2, h3, h4, h5, h6, h7]
  · simp [h1, h2, h3, h4, h5, h6]
  · rcases h1 with h1 | h1 <;> simp [h1, h2, h3, h4, h5, h6]
theorem okTree_nodes (m : Nat) : ∀ e : Ex, e.size ≤ m → okTree e → nodesB e = true := by
  induction m with
  | zero => intro e h; have := e.size_eq; omega
  | succ m ih =>
    intro e hm hok
    obtain ⟨hn, ha⟩ := okTree_parts hok
    rw [nodesB_eq, okNode_ref hn, Bool.true_and, nodesAll_iff]
    intro j hj
    exact ih _ (by have := sizes_mem (List.getElem_mem hj); have := e.size_eq; omega) (ha _ (List.getElem_mem hj))
theorem nameB_size {s : ByteArray} (h : nameB s = true) : s.size ≤ 16 := by
  have := nameB_wordB h
  simp only [wordB, Bool.and_eq_true, decide_eq_true_eq] at this
  exact this.1.1.1.2
theorem okNode_fits {e : Ex} (h : okNode e) : e.name.size ≤ 1000000000000000 ∧ (∀ x ∈ e.words, x.size ≤ 1000000000000000) ∧ e.words.length ≤ 1000000000000000 := by
  have key : ∀ {s : ByteArray}, nameB s = true → s.size ≤ 1000000000000000 := fun h => by have := nameB_size h; omega
  have k0 : ∀ {s : ByteArray}, s = ⟨#[]⟩ → s.size ≤ 1000000000000000 := fun h => by subst h; decide
  have kw : ∀ {l : List ByteArray}, l = [] → (∀ x ∈ l, x.size ≤ 1000000000000000) ∧ l.length ≤ 1000000000000000 := fun h => by subst h; simp
  rcases h with ⟨h1, h2, h3, _⟩ | ⟨h1, h2, h3, _⟩ | ⟨h1, h2, h3, _⟩ | ⟨h1, h2, h3, _⟩ | ⟨h1, h2, h3, _⟩ | ⟨h1, h2, h3, _⟩ | ⟨h1, h2, h3, _⟩
  · exact ⟨k0 h2, kw h3⟩
  · exact ⟨k0 h2, kw h3⟩
  · exact ⟨key h2, kw h3⟩
  · simp only [wordsB, Bool.and_eq_true, decide_eq_true_eq, List.all_eq_true] at h3
    exact ⟨key h2, fun x hx => key (h3.1.2 x hx), by have := h3.1.1.2; omega⟩
  · exact ⟨key h2, kw h3⟩
  · exact ⟨k0 h2, kw h3⟩
  · exact ⟨k0 h2, kw h3⟩
theorem fits_mk {e : Ex} (h1 : e.name.size ≤ 1000000000000000) (h2 : ∀ x ∈ e.words, x.size ≤ 1000000000000000) (h3 : ∀ x ∈ e.args, x.fits) : e.fits := by
  cases e with
  | mk op name words lo hi args =>
    unfold Ex.fits
    refine ⟨h1, h2, ?_⟩
    simp only [Ex.args] at h3
    clear h1 h2
    induction args with
    | nil => unfold fitsAll; trivial
    | cons a r ih => unfold fitsAll; exact ⟨h3 a (by simp), ih (fun x hx => h3 x (List.mem_cons_of_mem _ hx))⟩
theorem few_mk {e : Ex} (h2 : e.words.length ≤ 1000000000000000) (h3 : ∀ x ∈ e.args, x.few) : e.few := by
  cases e with
  | mk op name words lo hi args =>
    unfold Ex.few
    refine ⟨h2, ?_⟩
    simp only [Ex.args] at h3
    clear h2
    induction args with
    | nil => unfold fewAll; trivial
    | cons a r ih => unfold fewAll; exact ⟨h3 a (by simp), ih (fun x hx => h3 x (List.mem_cons_of_mem _ hx))⟩
theorem okTree_fits (m : Nat) : ∀ e : Ex, e.size ≤ m → okTree e → e.fits ∧ e.few := by
  induction m with
  | zero => intro e h; have := e.size_eq; omega
  | succ m ih =>
    intro e hm hok
    obtain ⟨hn, ha⟩ := okTree_parts hok
    obtain ⟨h1, h2, h3⟩ := okNode_fits hn
    have hs : ∀ x ∈ e.args, x.fits ∧ x.few := fun x hx => ih x (by have := sizes_mem hx; have := e.size_eq; omega) (ha x hx)
    exact ⟨fits_mk h1 h2 (fun x hx => (hs x hx).1), few_mk h3 (fun x hx => (hs x hx).2)⟩
theorem okTree_ref {e : Ex} (h : okTree e) (h1 : e.size ≤ 300) (h2 : e.depth ≤ 16) : refExprB e = true := by
  unfold refExprB refSize
  rw [okTree_nodes e.size e (Nat.le_refl _) h]
  simp; omega

theorem sub_mask_nil (w : World) : Sub w (mask w []) := fun p v h => by rw [mask_cell, if_neg (by simp)]; exact h

set_option maxRecDepth 100000 in
theorem format_calls (e : Ex) (ev : Value) (w : World) (he : IsEx w e ev) (hok : okTree e) (h1 : e.size ≤ 300) (h2 : e.depth ≤ 16) (h3 : (tokE e).length ≤ 4000) (h4 : (fmtB e).length ≤ 16384) : Calls Tryz.prog 10 #[ev] w (JoinQ (fmtB e) 0 w) := by
  obtain ⟨aw, nw, cw, aa, na, ca, rfl, hw, hna, hca, ha, hx⟩ := he.parts
  have HX := Lib.hid ((Ext.refl w).alloc (.cells #[.int .i64 e.op, .string e.name, .slice aw nw cw, .int .i64 e.lo, .int .i64 e.hi, .slice aa na ca] 28))
  have HBX := Lib.hid (alloc_new w (.cells #[.int .i64 e.op, .string e.name, .slice aw nw cw, .int .i64 e.lo, .int .i64 e.hi, .slice aa na ca] 28))
  have HE := Lib.hid (he.ext HX.out)
  have HOK := Lib.hid (okTree_fits e.size e (Nat.le_refl _) hok)
  have HR := Lib.hid (okTree_ref hok h1 h2)
  have HGD := Lib.hid (good_tokE e.size e (Nat.le_refl _) hok)
  have HL4 := Lib.hid h4
  clear hw hna hca ha hx he hok h2 h4
  unfold exV at *
  go_enter Tryz.func10, Tryz.ntmps10
  go_wp2_with fail
  generalize w.alloc (.cells #[.int .i64 e.op, .string e.name, .slice aw nw cw, .int .i64 e.lo, .int .i64 e.hi, .slice aa na ca] 28) = wb at *
  refine (rexpr_calls e _ _ HE.out (by omega) HOK.out.1 HOK.out.2).mono ?_
  rintro r w1 ⟨rfl, hx1⟩
  rw [HR.out]
  have hb1 := hx1.blk HBX.out
  have hlt := blk_lt hb1
  obtain ⟨b0, b1, b2, b3, b4, b5, bf⟩ := blk6 hb1
  have HX1 := Lib.hid (HX.out.trans hx1)
  have HE1 := Lib.hid (HE.out.ext hx1)
  clear hx1 hb1
  go_wp2_with fail
  refine (tokens_calls 300 (by omega) e [] (.slice none 0 0) w1.heap.size w1 _ h1 (HE1.out.mono (sub_mask_nil w1)) (World.ownsRow_nil _ _ _ _) (by omega) (by simp; omega)).mono ?_
  rintro r w2 ⟨v', rfl, ho, hg⟩
  rw [List.nil_append] at ho
  obtain ⟨a, c, rfl, hrows⟩ := IsRows.of_owns (f := tokCells) (fun _ => rfl) ho
  have HX2 := Lib.hid (hg.1.ext HX1.out (by intro q hq; simp [rowOf, Value.ownBlock] at hq))
  have HRW := Lib.hid hrows
  clear ho hg hrows b0 b1 b2 b3 b4 b5 bf
  go_wp2_with fail
  refine (join_calls _ a _ c w2 HRW.out HGD.out h3 HL4.out).mono ?_
  rintro r w3 ⟨rfl, hx3⟩
  unfold bstr
  have HX3 := Lib.hid (HX2.out.trans hx3)
  clear hx3
  go_wp2_with fail
  refine bodyPost_ret (v := .tuple #[bstr (fmtB e), .int .i64 0]) (by simp [results, Tryz.results10, go_sem, bstr]; rfl) rfl ⟨rfl, HX3.out⟩
end Go.Proofs.YtaepiiediblleaaGreatDoor
