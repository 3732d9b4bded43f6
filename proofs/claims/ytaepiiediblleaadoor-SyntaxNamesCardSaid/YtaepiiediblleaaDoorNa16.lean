/-
  Texts of the claim, joined: RTok5, RTok6, RJoin1, RJoin2, Format, Fine.
-/
import Derived.Test.YtaepiiediblleaaDoorNa15
import Derived.Test.YtaepiiediblleaaDoorNa09
import Derived.Deep.DeepCutAuto
import Derived.Deep.LoopGhost
import Derived.Test.YtaepiiediblleaaDoorNa14
import Derived.Laws.IdiomStrings
namespace Go.Proofs.YtaepiiediblleaaDoor
open Go.RowKit

def btwT (name : ByteArray) (lo hi : Int) : List Tok := [nameT name, nameT wFrom, numT lo, nameT wTo, numT hi]
def fBtw (v : Value) (be : Nat) (l : List Tok) (name : ByteArray) (lo hi : Int) : Nat → What
  | 0 => .val v
  | 1 => .val (.pointer (some ⟨be, 1, none⟩))
  | 2 => .val (.string name)
  | 3 => .val (tokV (nameT name))
  | 4 => .val (tokV (nameT wFrom))
  | 5 => .val (.pointer (some ⟨be, 3, none⟩))
  | 6 => .val (.int .i64 lo)
  | 7 => .val (tokV (numT lo))
  | 8 => .val (tokV (nameT wTo))
  | 9 => .val (.pointer (some ⟨be, 4, none⟩))
  | 10 => .val (.int .i64 hi)
  | 11 => .val (tokV (numT hi))
  | 12 => .blk (btwT name lo hi)
  | 13 => .own (l ++ btwT name lo hi)
  | _ => .val undef

set_option maxRecDepth 100000 in
set_option maxHeartbeats 2000000 in
theorem tokens_btw (e : Ex) (l : List Tok) (v : Value) (base : Nat) (w : World) (ev : Value) (he : IsEx (mask w (rowOf v)) e ev) (ho : OwnT w base l v) (hb : base ≤ w.heap.size) (hl : l.length + (tokE e).length ≤ 10000) (hop : e.op = 5) :
    Calls Tryd.prog 31 #[v, ev] w (TokQ base (l ++ tokE e) v w) := by
  obtain ⟨aw, nw, cw, aa, na, ca, rfl, hw, hna, hca, ha, hx⟩ := he.parts
  have HE := Lib.hid (show tokE e = btwT e.name e.lo e.hi by cases e; simp only [Ex.op] at hop; subst hop; simp [tokE, btwT, Ex.name, Ex.lo, Ex.hi])
  have hl1 : l.length + 5 ≤ 10000 := by rw [HE.out] at hl; simp [btwT] at hl; omega
  have HX := Lib.hid ((Ext.refl w).alloc (.cells #[.int .i64 e.op, .string e.name, .slice aw nw cw, .int .i64 e.lo, .int .i64 e.hi, .slice aa na ca] 26))
  have HO := Lib.hid (ho.ext HX.out)
  have HBX := Lib.hid (alloc_new w (.cells #[.int .i64 e.op, .string e.name, .slice aw nw cw, .int .i64 e.lo, .int .i64 e.hi, .slice aa na ca] 26))
  have HNR := Lib.hid (show w.heap.size ∉ rowOf v from fun h => by have := (ho.lt h).2; omega)
  have t1 : (e.op == 1) = false := by simp [hop]
  have t2 : (e.op == 2) = false := by simp [hop]
  have t3 : (e.op == 3) = false := by simp [hop]
  have t4 : (e.op == 4) = false := by simp [hop]
  have t5 : (e.op == 5) = true := by simp [hop]
  clear hw hna hca ha hx he ho hl hop
  unfold exV
  go_enter Tryd.func31, Tryd.ntmps31
  go_wp2_with fail
  generalize w.alloc (.cells #[.int .i64 e.op, .string e.name, .slice aw nw cw, .int .i64 e.lo, .int .i64 e.hi, .slice aa na ca] 26) = wb at *
  have hz0 := HX.out.size
  refine wp_region_growL (m := 14) [13] (TokG [13] wb v) (TokE [13]) (TokR base wb v (fBtw v w.heap.size l e.name e.lo e.hi)) (by kernel_rfl) (by kernel_rfl) ⟨(Chg.refl _ _).drew, fun _ => (Ext.refl wb).drew⟩ (tokR_keeps (by kernel_rfl)) ?_ ?_
  · intro i o hi ho L vs W hiL hnc hG hd ρ hρ
    have hi' : i = 0 ∨ i = 1 ∨ i = 2 ∨ i = 3 ∨ i = 4 ∨ i = 5 ∨ i = 6 ∨ i = 7 ∨ i = 8 ∨ i = 9 ∨ i = 10 ∨ i = 11 ∨ i = 12 ∨ i = 13 := by omega
    clear hi
    have o0 : ρ (.tmp 0) = v := hρ.out 0 rfl
    have o3 : ρ (.tmp 3) = .pointer (some ⟨w.heap.size, 0, none⟩) := hρ.out 3 rfl
    have i0 := hρ.ins 0 48 (by omega) rfl (Nat.le_of_ble_eq_true rfl)
    have i1 := hρ.ins 1 49 (by omega) rfl (Nat.le_of_ble_eq_true rfl)
    have i2 := hρ.ins 2 50 (by omega) rfl (Nat.le_of_ble_eq_true rfl)
    have i3 := hρ.ins 3 51 (by omega) rfl (Nat.le_of_ble_eq_true rfl)
    have i4 := hρ.ins 4 52 (by omega) rfl (Nat.le_of_ble_eq_true rfl)
    have i5 := hρ.ins 5 53 (by omega) rfl (Nat.le_of_ble_eq_true rfl)
    have i6 := hρ.ins 6 54 (by omega) rfl (Nat.le_of_ble_eq_true rfl)
    have i7 := hρ.ins 7 55 (by omega) rfl (Nat.le_of_ble_eq_true rfl)
    have i8 := hρ.ins 8 56 (by omega) rfl (Nat.le_of_ble_eq_true rfl)
    have i9 := hρ.ins 9 57 (by omega) rfl (Nat.le_of_ble_eq_true rfl)
    have i10 := hρ.ins 10 58 (by omega) rfl (Nat.le_of_ble_eq_true rfl)
    have i11 := hρ.ins 11 59 (by omega) rfl (Nat.le_of_ble_eq_true rfl)
    have i12 := hρ.ins 12 60 (by omega) rfl (Nat.le_of_ble_eq_true rfl)
    have hcs := hρ.const
    have hfn := hρ.func
    clear hρ
    have hbW := hG.1.blk HBX.out HNR.out
    obtain ⟨b0, b1, b2, b3, b4, b5, bf⟩ := blk6 hbW
    have hwz := hG.1.size
    have HG := Lib.hid hG
    clear hG hbW
    rcases hi' with rfl | rfl | rfl | rfl | rfl | rfl | rfl | rfl | rfl | rfl | rfl | rfl | rfl | rfl
    · cases ho
      unfold GivesOp
      go_simp
      exact ⟨Or.inr (Ext.refl _), HG.out.ext (Ext.refl _) _, rfl⟩
    · cases ho
      unfold GivesOp
      go_simp
      exact ⟨Or.inr (Ext.refl _), HG.out.ext (Ext.refl _) _, rfl⟩
    · cases ho
      have h1 : vs 1 = _ := hd ⟨1, .data⟩ (by simp) rfl
      rw [h1] at i1
      unfold GivesOp
      go_simp
      exact ⟨Or.inr (Ext.refl _), HG.out.ext (Ext.refl _) _, rfl⟩
    · cases ho
      have h2 : vs 2 = _ := hd ⟨2, .data⟩ (by simp) rfl
      rw [h2] at i2
      unfold GivesOp
      go_simp
      refine (nameToken_calls _ _).mono ?_
      rintro q W' ⟨rfl, hx⟩
      exact ⟨_, rfl, Or.inr hx, HG.out.ext hx _, rfl⟩
    · cases ho
      unfold GivesOp
      go_simp
      refine (nameToken_calls _ _).mono ?_
      rintro q W' ⟨rfl, hx⟩
      exact ⟨_, rfl, Or.inr hx, HG.out.ext hx _, rfl⟩
    · cases ho
      unfold GivesOp
      go_simp
      exact ⟨Or.inr (Ext.refl _), HG.out.ext (Ext.refl _) _, rfl⟩
    · cases ho
      have h5 : vs 5 = _ := hd ⟨5, .data⟩ (by simp) rfl
      rw [h5] at i5
      unfold GivesOp
      go_simp
      exact ⟨Or.inr (Ext.refl _), HG.out.ext (Ext.refl _) _, rfl⟩
    · cases ho
      have h6 : vs 6 = _ := hd ⟨6, .data⟩ (by simp) rfl
      rw [h6] at i6
      unfold GivesOp
      go_simp
      refine (numberToken_calls _ _).mono ?_
      rintro q W' ⟨rfl, hx⟩
      exact ⟨_, rfl, Or.inr hx, HG.out.ext hx _, rfl⟩
    · cases ho
      unfold GivesOp
      go_simp
      refine (nameToken_calls _ _).mono ?_
      rintro q W' ⟨rfl, hx⟩
      exact ⟨_, rfl, Or.inr hx, HG.out.ext hx _, rfl⟩
    · cases ho
      unfold GivesOp
      go_simp
      exact ⟨Or.inr (Ext.refl _), HG.out.ext (Ext.refl _) _, rfl⟩
    · cases ho
      have h9 : vs 9 = _ := hd ⟨9, .data⟩ (by simp) rfl
      rw [h9] at i9
      unfold GivesOp
      go_simp
      exact ⟨Or.inr (Ext.refl _), HG.out.ext (Ext.refl _) _, rfl⟩
    · cases ho
      have h10 : vs 10 = _ := hd ⟨10, .data⟩ (by simp) rfl
      rw [h10] at i10
      unfold GivesOp
      go_simp
      refine (numberToken_calls _ _).mono ?_
      rintro q W' ⟨rfl, hx⟩
      exact ⟨_, rfl, Or.inr hx, HG.out.ext hx _, rfl⟩
    · cases ho
      have h3 : vs 3 = _ := hd ⟨3, .data⟩ (by simp) rfl
      rw [h3] at i3
      have h4 : vs 4 = _ := hd ⟨4, .data⟩ (by simp) rfl
      rw [h4] at i4
      have h7 : vs 7 = _ := hd ⟨7, .data⟩ (by simp) rfl
      rw [h7] at i7
      have h8 : vs 8 = _ := hd ⟨8, .data⟩ (by simp) rfl
      rw [h8] at i8
      have h11 : vs 11 = _ := hd ⟨11, .data⟩ (by simp) rfl
      rw [h11] at i11
      unfold tokV nameT at i3 i4 i8
      unfold tokV numT at i7 i11
      unfold GivesOp
      go_simp
      exact ⟨Or.inr ((Ext.refl _).alloc _), HG.out.ext ((Ext.refl _).alloc _) _, W.heap.size, rfl, alloc_new W _⟩
    · cases ho
      have h0 : vs 0 = _ := hd ⟨0, .data⟩ (by simp) rfl
      obtain ⟨x0, h6, hx0⟩ := hd ⟨12, .data⟩ (by simp) rfl
      rw [h0] at i0
      rw [h6] at i12
      have hxW := HG.out.2 (tok_before (by decide +kernel) hiL hnc)
      refine gives_append_tok _ _ base v l _ i0 (HO.out.ext hxW) x0 i12 hx0 (by simp [btwT]) (by simp [btwT]; omega) (by omega) ?_
      intro u' w' ho' hg'
      exact ⟨Or.inl (by simp), TokG.grow (hxW.grew v) hg' (by simp), ho', (hxW.grew v).trans hg'⟩
  · intro L vs W _ hG hR
    rw [if_neg (by decide +kernel)]
    obtain ⟨ho', hg'⟩ := hR 13 (by simp) (by omega)
    have HO2 := Lib.hid ho'
    have HG2 := Lib.hid hg'
    clear hG hR ho' hg'
    unfold wpOp
    simp only [acts, dstAt, List.range, List.range.loop, List.foldl_cons, List.foldl_nil]
    go_simp
    refine Or.inl ?_
    go_wp2_with fail
    go_ret
    exact ⟨_, rfl, by rw [HE.out]; simpa using HO2.out, (HX.out.grew v).trans HG2.out⟩
end Go.Proofs.YtaepiiediblleaaDoor

namespace Go.Proofs.YtaepiiediblleaaDoor
open Go.RowKit

theorem tokE_eq0 (e : Ex) : tokE e = if e.op = 1 then [nameT wTrue] else if e.op = 2 then [nameT wFalse] else if e.op = 3 then [nameT e.name] else
    if e.op = 4 then [nameT e.name, nameT wIn, markT 40] ++ listedT e.words ++ [markT 41] else
    if e.op = 5 then [nameT e.name, nameT wFrom, numT e.lo, nameT wTo, numT e.hi] else
    (if e.op = 6 then [nameT wNot] else []) ++ tokArgs e.op e.args := by cases e; rw [tokE]; rfl
def wordOf (op : Int) : ByteArray := if op = 7 then wAnd else wOr
def preT (op : Int) : List Tok := if op = 6 then [nameT wNot] else []
/-- What tokens does for expressions of at most a size. -/
def TokensDo (m : Nat) : Prop := ∀ (e : Ex) (l : List Tok) (v : Value) (base : Nat) (w : World) (ev : Value), e.size ≤ m → IsEx (mask w (rowOf v)) e ev → OwnT w base l v → base ≤ w.heap.size → l.length + (tokE e).length ≤ 10000 → Calls Tryd.prog 31 #[v, ev] w (TokQ base (l ++ tokE e) v w)
def fPar (u : Value) (ev : Value) (l : List Tok) (a : Ex) : Nat → What
  | 0 => .val u
  | 1 => .val (tokV (markT 40))
  | 2 => .blk [markT 40]
  | 3 => .own (l ++ [markT 40])
  | 4 => .val ev
  | 5 => .own (l ++ [markT 40] ++ tokE a)
  | 6 => .val (tokV (markT 41))
  | 7 => .blk [markT 41]
  | 8 => .own (l ++ [markT 40] ++ tokE a ++ [markT 41])
  | _ => .val undef
theorem Grew.notMem {w w' : World} {v v' : Value} (h : Grew w v w' v') {k : Nat} (hk : k < w.heap.size) (hn : k ∉ rowOf v) : k ∉ rowOf v' := fun hm => by
  rcases h.2 k (mem_rowOf.1 hm) with h1 | h1
  · exact hn (mem_rowOf.2 h1)
  · omega
theorem wordOf_len (op : Int) : (nameT (wordOf op)) = nameT (if op = 7 then wAnd else wOr) := rfl

set_option maxRecDepth 100000 in
set_option maxHeartbeats 4000000 in
theorem tokens_args (m : Nat) (ih : TokensDo m) (e : Ex) (l : List Tok) (v : Value) (base : Nat) (w : World) (ev : Value) (hm : e.size ≤ m + 1) (hMM : m ≤ 1000000000) (he : IsEx (mask w (rowOf v)) e ev) (ho : OwnT w base l v) (hb : base ≤ w.heap.size) (hl : l.length + (tokE e).length ≤ 10000) (hop : e.op ≠ 1 ∧ e.op ≠ 2 ∧ e.op ≠ 3 ∧ e.op ≠ 4 ∧ e.op ≠ 5) :
    Calls Tryd.prog 31 #[v, ev] w (TokQ base (l ++ tokE e) v w) := by
  obtain ⟨aw, nw, cw, aa, na, ca, rfl, hw, hna, hca, ha, hx⟩ := he.parts
  have HE := Lib.hid (show tokE e = preT e.op ++ tokArgs e.op e.args by rw [tokE_eq0, if_neg hop.1, if_neg hop.2.1, if_neg hop.2.2.1, if_neg hop.2.2.2.1, if_neg hop.2.2.2.2]; rfl)
  have HLL := Lib.hid (show l.length + ((preT e.op).length + (tokArgs e.op e.args).length) ≤ 10000 by rw [HE.out, List.length_append] at hl; exact hl)
  have hll1 : l.length ≤ 10000 := by omega
  have HX := Lib.hid ((Ext.refl w).alloc (.cells #[.int .i64 e.op, .string e.name, .slice aw nw cw, .int .i64 e.lo, .int .i64 e.hi, .slice aa na ca] 26))
  have HO := Lib.hid (ho.ext HX.out)
  have HXS := Lib.hid (ExsD.mono (HX.out.grew v).sub e.args aa hx)
  have HBX := Lib.hid (alloc_new w (.cells #[.int .i64 e.op, .string e.name, .slice aw nw cw, .int .i64 e.lo, .int .i64 e.hi, .slice aa na ca] 26))
  have HNR := Lib.hid (show w.heap.size ∉ rowOf v from fun h => by have := (ho.lt h).2; omega)
  have HNA := Lib.hid hna
  have IH := Lib.hid ih
  have hS : e.size = 1 + sizes e.args := e.size_eq
  have hb2 : sizes e.args ≤ m := by omega
  have hla := length_le_sizes e.args
  have hna2 : na ≤ 1000000000 := by omega
  have t1 : (e.op == 1) = false := by simp [hop.1]
  have t2 : (e.op == 2) = false := by simp [hop.2.1]
  have t3 : (e.op == 3) = false := by simp [hop.2.2.1]
  have t4 : (e.op == 4) = false := by simp [hop.2.2.2.1]
  have t5 : (e.op == 5) = false := by simp [hop.2.2.2.2]
  clear hw hna hca ha hx he ho hl hop hS hm hla ih
  unfold exV
  go_enter Tryd.func31, Tryd.ntmps31
  go_upto_if 64 with fail
  generalize w.alloc (.cells #[.int .i64 e.op, .string e.name, .slice aw nw cw, .int .i64 e.lo, .int .i64 e.hi, .slice aa na ca] 26) = wb at *
  obtain ⟨b0, b1, b2, b3, b4, b5, bf⟩ := blk6 HBX.out
  have hz0 := HX.out.size
  go_cut [5] (fun s5 wx => s5 = .string (wordOf e.op) ∧ wb = wx)
  case first =>
    by_cases h7 : e.op = 7
    · have t7 : (e.op == 7) = true := by simp [h7]
      have HWD := Lib.hid (show wordOf e.op = wAnd by rw [wordOf, if_pos h7])
      clear h7
      go_wp2_with fail
      go_meet
      case rel => exact ⟨by rw [HWD.out]; rfl, rfl⟩
    · have t7 : (e.op == 7) = false := by simp [h7]
      have HWD := Lib.hid (show wordOf e.op = wOr by rw [wordOf, if_neg h7])
      clear h7
      go_wp2_with fail
      go_meet
      case rel => exact ⟨by rw [HWD.out]; rfl, rfl⟩
  case rest =>
  obtain ⟨rfl, rfl⟩ := hcut
  go_upto_if 67 with fail
  go_cut [0] (fun s0 wx => OwnT wx base (l ++ preT e.op) s0 ∧ Grew wb v wx s0)
  case first =>
    by_cases h6 : e.op = 6
    · have t6 : (e.op == 6) = true := by simp [h6]
      have HPR := Lib.hid (show preT e.op = [nameT wNot] by rw [preT, if_pos h6])
      clear h6
      go_wp2_with fail
      refine (nameToken_calls _ _).mono ?_
      rintro r w1 ⟨rfl, hx1⟩
      have HOW := Lib.hid (HO.out.ext hx1)
      have HGW := Lib.hid (hx1.grew v)
      have hz1 := hx1.size
      clear hx1 b0 b1 b2 b3 b4 b5 bf
      simp only [tokV, nameT]
      go_wp2_with (at_builtin; refine wpList_append_tok rfl _ _ rfl base _ _ [nameT wNot] rfl HOW.out _ 1 1 rfl ?c0 ?c1 rfl ?c2 ?c3 ?c4 ?_)
      case c0 => rfl
      case c1 => rfl
      case c2 => omega
      case c3 => omega
      case c4 => omega
      intro v2 w2 hown2 hgrow2
      have HO1 := Lib.hid (show OwnT w2 base (l ++ preT e.op) v2 by rw [HPR.out]; exact hown2)
      have HG1 := Lib.hid (HGW.out.trans hgrow2)
      clear hown2 hgrow2 HOW HGW
      go_wp2_with fail
      go_meet
      case rel => exact ⟨HO1.out, HG1.out⟩
    · have t6 : (e.op == 6) = false := by simp [h6]
      have HPR := Lib.hid (show preT e.op = [] by rw [preT, if_neg h6])
      clear h6
      go_wp2_with fail
      go_meet
      case rel => exact ⟨by rw [HPR.out, List.append_nil]; exact HO.out, Grew.refl _ v⟩
  case rest =>
  obtain ⟨hcut1, hcut2⟩ := hcut
  have HO1 := Lib.hid hcut1
  have HG1 := Lib.hid hcut2
  clear hcut1 hcut2 b0 b1 b2 b3 b4 b5 bf
  have hz1 := HG1.out.1.size
  go_wp2_with fail
  go_loopg [0, 6] na (fun g u i wr => ∃ k : Nat, k ≤ na ∧ g = na - k ∧ i = .int .i64 k ∧ OwnT wr base (l ++ preT e.op ++ tokArgs e.op (e.args.take k)) u ∧ Grew wb v wr u)
  case atStart => exact ⟨0, by omega, rfl, rfl, by simpa [tokArgs] using HO1.out, HG1.out⟩
  case round =>
    clear HO1 HG1 t1 t2 t3 t4 t5 hz1
    obtain ⟨k, hk, hgk, rfl, ho, hg⟩ := hrel
    have HGN := Lib.hid hgk
    have HOk := Lib.hid ho
    have HGk := Lib.hid hg
    have hbx := hg.1.blk HBX.out HNR.out
    have hbl := blk_lt hbx
    have hbn := hg.notMem (blk_lt HBX.out) HNR.out
    obtain ⟨b0, b1, b2, b3, b4, b5, bf⟩ := blk6 hbx
    have HBk := Lib.hid hbx
    have HBN := Lib.hid hbn
    have hzk := hg.1.size
    clear ho hg hbx hbn hgk
    by_cases hlt : k < na
    · have hlt' : k < e.args.length := by have := HNA.out; omega
      have t1 : decide ((k : Int) < (na : Int)) = true := by simp; omega
      obtain ⟨bb, off, rfl, aw1, nw1, cw1, aa1, na1, ca1, h0, h1, h2, h3, h4, h5, h6⟩ := ExsD.at e.args _ (ExsD.mono HGk.out.sub e.args _ HXS.out) k hlt'
      have H6 := Lib.hid h6
      replace h0 := mask_in h0
      replace h1 := mask_in h1
      replace h2 := mask_in h2
      replace h3 := mask_in h3
      replace h4 := mask_in h4
      replace h5 := mask_in h5
      have hsz := sizes_take_succ e.args k hlt'
      have hsl := sizes_take_le e.args (k + 1)
      have hk1 : e.args[k].size ≤ m := by omega
      have HSN := Lib.hid (show tokArgs e.op (e.args.take (k + 1)) = tokArgs e.op (e.args.take k) ++ ((if k = 0 then [] else [nameT (wordOf e.op)]) ++ argT e.op e.args[k]) by
        have e1 : e.args.take (k + 1) = e.args.take k ++ [e.args[k]] := by simp
        rw [e1, tokArgs_snoc, List.length_take, Nat.min_eq_left (by omega)]; rfl)
      have HTL := Lib.hid (tokArgs_take e.op e.args (k + 1))
      have HLEN := Lib.hid (show (l ++ preT e.op ++ tokArgs e.op (e.args.take k)).length + (if k = 0 then 0 else 1) + (argT e.op e.args[k]).length ≤ 10000 by
        have a1 := HTL.out
        have a2 := HLL.out
        rw [HSN.out] at a1
        simp only [List.length_append] at a1 ⊢
        by_cases hk0 : k = 0
        · rw [if_pos hk0] at a1 ⊢; simp only [List.length_nil] at a1; omega
        · rw [if_neg hk0] at a1 ⊢; simp only [List.length_cons, List.length_nil] at a1; omega)
      clear h6 hsz hsl
      go_upto_if 85 with fail
      have HXA := Lib.hid ((Ext.refl wr).alloc (.cells #[.int .i64 e.args[k].op, .string e.args[k].name, .slice aw1 nw1 cw1, .int .i64 e.args[k].lo, .int .i64 e.args[k].hi, .slice aa1 na1 ca1] 26))
      have HBA := Lib.hid (alloc_new wr (.cells #[.int .i64 e.args[k].op, .string e.args[k].name, .slice aw1 nw1 cw1, .int .i64 e.args[k].lo, .int .i64 e.args[k].hi, .slice aa1 na1 ca1] 26))
      have hza : (wr.alloc (.cells #[.int .i64 e.args[k].op, .string e.args[k].name, .slice aw1 nw1 cw1, .int .i64 e.args[k].lo, .int .i64 e.args[k].hi, .slice aa1 na1 ca1] 26)).heap.size = wr.heap.size + 1 := by simp
      have HZA := Lib.hid hza
      clear h0 h1 h2 h3 h4 h5 b0 b1 b2 b3 b4 b5 bf hza
      generalize wr.alloc (.cells #[.int .i64 e.args[k].op, .string e.args[k].name, .slice aw1 nw1 cw1, .int .i64 e.args[k].lo, .int .i64 e.args[k].hi, .slice aa1 na1 ca1] 26) = wa at *
      have HOA := Lib.hid (HOk.out.ext HXA.out)
      have HGA := Lib.hid (HGk.out.trans (HXA.out.grew _))
      have H6A := Lib.hid (H6.out.mono (HXA.out.grew _).sub)
      have HNRA := Lib.hid (show wr.heap.size ∉ rowOf u0 from fun h => by have := (HOk.out.lt h).2; omega)
      have hza : wr.heap.size + 1 = wa.heap.size := HZA.out.symm
      have hzb : wb.heap.size ≤ wa.heap.size := HGA.out.1.size
      clear HOk HGk H6
      obtain ⟨L, hL⟩ : ∃ L, L = l ++ preT e.op ++ tokArgs e.op (e.args.take k) := ⟨_, rfl⟩
      rw [← hL] at HOA HLEN
      have HL := Lib.hid hL
      clear hL
      have hLEN : L.length + (if k = 0 then 0 else 1) + (argT e.op e.args[k]).length ≤ 10000 := HLEN.out
      have hLEN1 : L.length + (argT e.op e.args[k]).length ≤ 10000 := by omega
      have HLEN2 := Lib.hid hLEN
      clear hLEN
      go_cut [0] (fun s0 wx => OwnT wx base (L ++ (if k = 0 then [] else [nameT (wordOf e.op)])) s0 ∧ Grew wa u0 wx s0)
      case first =>
        by_cases hk0 : k = 0
        · have HK0 := Lib.hid hk0
          have t2 : decide (0 < (k : Int)) = false := by simp; omega
          have t3 : decide (0 < k) = false := by simp; omega
          have p0 : ¬ 0 < k := by omega
          clear hk0
          go_wp2_with fail
          go_meet
          case rel => exact ⟨by rw [if_pos HK0.out, List.append_nil]; exact HOA.out, Grew.refl _ _⟩
        · have HK0 := Lib.hid hk0
          have t2 : decide (0 < (k : Int)) = true := by simp; omega
          have t3 : decide (0 < k) = true := by simp; omega
          have p0 : 0 < k := by omega
          clear hk0
          go_wp2_with fail
          refine (nameToken_calls _ _).mono ?_
          rintro r w1 ⟨rfl, hx1⟩
          have HOW := Lib.hid (HOA.out.ext hx1)
          have HGW := Lib.hid (hx1.grew u0)
          have hz1 := hx1.size
          clear hx1
          simp only [tokV, nameT]
          go_wp2_with (at_builtin; refine wpList_append_tok rfl _ _ rfl base _ _ [nameT (wordOf e.op)] rfl HOW.out _ 1 1 rfl ?c0 ?c1 rfl ?c2 ?c3 ?c4 ?_)
          case c0 => rfl
          case c1 => rfl
          case c2 => omega
          case c3 => omega
          case c4 => omega
          intro v2 w2 hown2 hgrow2
          have HO1 := Lib.hid (show OwnT w2 base (L ++ (if k = 0 then [] else [nameT (wordOf e.op)])) v2 by rw [if_neg HK0.out]; exact hown2)
          have HG1 := Lib.hid (HGW.out.trans hgrow2)
          clear hown2 hgrow2 HOW HGW
          go_wp2_with fail
          go_meet
          case rel => exact ⟨HO1.out, HG1.out⟩
      case rest =>
      obtain ⟨hcut1, hcut2⟩ := hcut
      have hbC := hcut2.1.blk HBA.out HNRA.out
      have hblC := blk_lt hbC
      have HNRC := Lib.hid (hcut2.notMem (by omega) HNRA.out)
      have hbE := (HGA.out.trans hcut2).1.blk HBX.out HNR.out
      obtain ⟨a0, a1, a2, a3, a4, a5, af⟩ := blk6 hbC
      obtain ⟨b0, b1, b2, b3, b4, b5, bf⟩ := blk6 hbE
      have HBC := Lib.hid hbC
      have HBE := Lib.hid hbE
      have HO2 := Lib.hid hcut1
      have HG2 := Lib.hid hcut2
      have hzc := hcut2.1.size
      have H6C := Lib.hid (H6A.out.mono hcut2.sub)
      have HLL2 := Lib.hid (show (L ++ (if k = 0 then [] else [nameT (wordOf e.op)])).length + (argT e.op e.args[k]).length ≤ 10000 by
        have := HLEN2.out
        rw [List.length_append]
        by_cases hk0 : k = 0
        · rw [if_pos hk0] at this ⊢; simp only [List.length_nil]; omega
        · rw [if_neg hk0] at this ⊢; simp only [List.length_cons, List.length_nil]; omega)
      clear hcut1 hcut2 hbC hbE H6A HOA
      obtain ⟨L2, hL2⟩ : ∃ L2, L2 = L ++ (if k = 0 then [] else [nameT (wordOf e.op)]) := ⟨_, rfl⟩
      rw [← hL2] at HO2 HLL2
      have HL2 := Lib.hid hL2
      clear hL2
      go_upto_region 23 with fail
      go_cut [103] (fun s103 wx => s103 = .bool (paren e.op e.args[k].op) ∧ wc = wx)
      case first =>
        by_cases c8 : e.args[k].op = 8
        · have t8 : (e.args[k].op == 8) = true := by simp [c8]
          have HP := Lib.hid (show paren e.op e.args[k].op = true by simp [paren, c8])
          clear c8
          go_wp2_with fail
          go_meet
          case rel => exact ⟨by rw [HP.out], rfl⟩
        · have t8 : (e.args[k].op == 8) = false := by simp [c8]
          by_cases c7 : e.args[k].op = 7
          · have t7 : (e.args[k].op == 7) = true := by simp [c7]
            by_cases ce : e.op = 8
            · have te : (e.op != 8) = false := by simp [ce]
              have HP := Lib.hid (show paren e.op e.args[k].op = false by simp [paren, c8, ce])
              clear c8 c7 ce
              go_wp2_with fail
              go_meet
              case rel => exact ⟨by rw [HP.out], rfl⟩
            · have te : (e.op != 8) = true := by simp [ce]
              have HP := Lib.hid (show paren e.op e.args[k].op = true by simp [paren, c7, ce])
              clear c8 c7 ce
              go_wp2_with fail
              go_meet
              case rel => exact ⟨by rw [HP.out], rfl⟩
          · have t7 : (e.args[k].op == 7) = false := by simp [c7]
            have HP := Lib.hid (show paren e.op e.args[k].op = false by simp [paren, c8, c7])
            clear c8 c7
            go_wp2_with fail
            go_meet
            case rel => exact ⟨by rw [HP.out], rfl⟩
      case rest =>
      obtain ⟨rfl, rfl⟩ := hcut
      cases hp : paren e.op e.args[k].op with
      | true =>
        have HAT := Lib.hid (show argT e.op e.args[k] = [markT 40] ++ tokE e.args[k] ++ [markT 41] by rw [argT, if_pos hp])
        have hl2 : L2.length + 2 + (tokE e.args[k]).length ≤ 10000 := by have := HLL2.out; rw [HAT.out] at this; simp at this; omega
        clear hp b0 b1 b2 b3 b4 b5 bf a0 a1 a2 a3 a4 a5 af
        go_wp2_with fail
        refine wp_region_growL (m := 9) [8] (TokG [3, 5, 8] wc u0) (TokE [3, 5, 8]) (TokR base wc u0 (fPar u0 (exV e.args[k].op e.args[k].name aw1 nw1 cw1 e.args[k].lo e.args[k].hi aa1 na1 ca1) L2 e.args[k])) (by kernel_rfl) (by kernel_rfl) ⟨(Chg.refl _ _).drew, fun _ => (Ext.refl wc).drew⟩ (tokR_keeps (by kernel_rfl)) ?_ ?_
        · intro i o hi ho L vs W hiL hnc hG hd ρ hρ
          have hi' : i = 0 ∨ i = 1 ∨ i = 2 ∨ i = 3 ∨ i = 4 ∨ i = 5 ∨ i = 6 ∨ i = 7 ∨ i = 8 := by omega
          clear hi
          have o0 : ρ (.tmp 0) = u0 := hρ.out 0 rfl
          have o7 : ρ (.tmp 7) = .pointer (some ⟨wr.heap.size, 0, none⟩) := hρ.out 7 rfl
          have i0 := hρ.ins 0 104 (by omega) rfl (Nat.le_of_ble_eq_true rfl)
          have i1 := hρ.ins 1 105 (by omega) rfl (Nat.le_of_ble_eq_true rfl)
          have i2 := hρ.ins 2 106 (by omega) rfl (Nat.le_of_ble_eq_true rfl)
          have i3 := hρ.ins 3 107 (by omega) rfl (Nat.le_of_ble_eq_true rfl)
          have i4 := hρ.ins 4 108 (by omega) rfl (Nat.le_of_ble_eq_true rfl)
          have i5 := hρ.ins 5 109 (by omega) rfl (Nat.le_of_ble_eq_true rfl)
          have i6 := hρ.ins 6 110 (by omega) rfl (Nat.le_of_ble_eq_true rfl)
          have i7 := hρ.ins 7 111 (by omega) rfl (Nat.le_of_ble_eq_true rfl)
          have hcs := hρ.const
          have hfn := hρ.func
          clear hρ
          have hbW := hG.1.blk HBC.out HNRC.out
          obtain ⟨a0, a1, a2, a3, a4, a5, af⟩ := blk6 hbW
          have hwz := hG.1.size
          have HG := Lib.hid hG
          clear hG hbW
          rcases hi' with rfl | rfl | rfl | rfl | rfl | rfl | rfl | rfl | rfl
          · cases ho
            unfold GivesOp
            go_simp
            exact ⟨Or.inr (Ext.refl _), HG.out.ext (Ext.refl _) _, rfl⟩
          · cases ho
            unfold GivesOp
            go_simp
            refine (markToken_calls _ _).mono ?_
            rintro q W' ⟨rfl, hx⟩
            exact ⟨_, rfl, Or.inr hx, HG.out.ext hx _, rfl⟩
          · cases ho
            have h1 : vs 1 = _ := hd ⟨1, .data⟩ (by simp) rfl
            rw [h1] at i1
            unfold tokV markT at i1
            unfold GivesOp
            go_simp
            exact ⟨Or.inr ((Ext.refl _).alloc _), HG.out.ext ((Ext.refl _).alloc _) _, W.heap.size, rfl, alloc_new W _⟩
          · cases ho
            have h0 : vs 0 = _ := hd ⟨0, .data⟩ (by simp) rfl
            obtain ⟨x0, h6, hx0⟩ := hd ⟨2, .data⟩ (by simp) rfl
            rw [h0] at i0
            rw [h6] at i2
            have hxW := HG.out.2 (tok_before (by decide +kernel) hiL hnc)
            refine gives_append_tok _ _ base u0 L2 _ i0 (HO2.out.ext hxW) x0 i2 hx0 (by simp) (by simp; omega) (by omega) ?_
            intro u' w' ho' hg'
            exact ⟨Or.inl (by simp), TokG.grow (hxW.grew u0) hg' (by simp), ho', (hxW.grew u0).trans hg'⟩
          · cases ho
            unfold GivesOp
            go_simp
            exact ⟨Or.inr (Ext.refl _), HG.out.ext (Ext.refl _) _, rfl⟩
          · cases ho
            obtain ⟨ho7, hg7⟩ := hd ⟨3, .data⟩ (by simp) rfl
            have h9 : vs 4 = _ := hd ⟨4, .data⟩ (by simp) rfl
            rw [h9] at i4
            have HO7 := Lib.hid ho7
            have HG7 := Lib.hid hg7
            clear ho7 hg7
            generalize vs 3 = u7 at *
            unfold GivesOp
            go_simp
            refine (IH.out e.args[k] _ u7 base W _ hk1 (H6C.out.mono HG7.out.sub) HO7.out (by omega) (by simp; omega)).mono ?_
            rintro q W' ⟨u', rfl, ho', hg'⟩
            exact ⟨_, rfl, Or.inl (by simp), TokG.grow HG7.out hg' (by simp), ho', HG7.out.trans hg'⟩
          · cases ho
            unfold GivesOp
            go_simp
            refine (markToken_calls _ _).mono ?_
            rintro q W' ⟨rfl, hx⟩
            exact ⟨_, rfl, Or.inr hx, HG.out.ext hx _, rfl⟩
          · cases ho
            have h6 : vs 6 = _ := hd ⟨6, .data⟩ (by simp) rfl
            rw [h6] at i6
            unfold tokV markT at i6
            unfold GivesOp
            go_simp
            exact ⟨Or.inr ((Ext.refl _).alloc _), HG.out.ext ((Ext.refl _).alloc _) _, W.heap.size, rfl, alloc_new W _⟩
          · cases ho
            obtain ⟨ho7, hg7⟩ := hd ⟨5, .data⟩ (by simp) rfl
            obtain ⟨x0, h6, hx0⟩ := hd ⟨7, .data⟩ (by simp) rfl
            rw [h6] at i7
            refine gives_append_tok _ _ base (vs 5) _ _ i5 ho7 x0 i7 hx0 (by simp) (by simp; omega) (by omega) ?_
            intro u' w' ho' hg'
            exact ⟨Or.inl (by simp), TokG.grow hg7 hg' (by simp), ho', hg7.trans hg'⟩
        · intro L' vs W _ hG hR
          rw [if_neg (by decide +kernel)]
          obtain ⟨ho', hg'⟩ := hR 8 (by simp) (by omega)
          have HO3 := Lib.hid ho'
          have HG3 := Lib.hid ((HGA.out.trans HG2.out).trans hg')
          clear hG hR ho' hg'
          unfold wpOp
          simp only [acts, dstAt, List.range, List.range.loop, List.foldl_cons, List.foldl_nil]
          go_simp
          refine Or.inl ?_
          go_wp2_with fail
          go_roundg (na - (k + 1))
          case measure => have := HGN.out; omega
          case rel => exact ⟨k + 1, by omega, rfl, by go_num, by rw [HSN.out, HAT.out, ← List.append_assoc, ← List.append_assoc, ← HL.out, ← HL2.out]; simpa using HO3.out, HG3.out⟩
      | false =>
        have HAT := Lib.hid (show argT e.op e.args[k] = tokE e.args[k] by rw [argT, if_neg (by simp [hp])])
        have hl2 : L2.length + (tokE e.args[k]).length ≤ 10000 := by have := HLL2.out; rw [HAT.out] at this; omega
        clear hp b0 b1 b2 b3 b4 b5 bf
        go_wp2_with fail
        refine (IH.out e.args[k] L2 _ base _ _ hk1 H6C.out HO2.out (by omega) hl2).mono ?_
        rintro r w1 ⟨u', rfl, ho', hg'⟩
        have HO3 := Lib.hid ho'
        have HG3 := Lib.hid ((HGA.out.trans HG2.out).trans hg')
        clear ho' hg' a0 a1 a2 a3 a4 a5 af
        go_wp2_with fail
        go_roundg (na - (k + 1))
        case measure => have := HGN.out; omega
        case rel => exact ⟨k + 1, by omega, rfl, by go_num, by rw [HSN.out, HAT.out, ← List.append_assoc, ← List.append_assoc, ← HL.out, ← HL2.out]; exact HO3.out, HG3.out⟩
    · have HE2 := Lib.hid (show e.args.take k = e.args from List.take_of_length_le (by have := HNA.out; omega))
      have t1 : decide ((k : Int) < (na : Int)) = false := by simp; omega
      go_wp2_with fail
      go_ret
      exact ⟨_, rfl, by rw [HE.out, ← List.append_assoc]; rw [HE2.out] at HOk; exact HOk.out, (HX.out.grew v).trans HGk.out⟩

theorem tokens_calls (m : Nat) : m ≤ 1000000000 → TokensDo m := by
  induction m with
  | zero => intro _ e l v base w ev h; have := size_pos e; omega
  | succ m ih =>
    intro hm e l v base w ev hs he ho hb hl
    by_cases h1 : e.op = 1
    · exact tokens_true e l v base w ev he ho hb hl h1
    by_cases h2 : e.op = 2
    · exact tokens_false e l v base w ev he ho hb hl h2
    by_cases h3 : e.op = 3
    · exact tokens_name e l v base w ev he ho hb hl h3
    by_cases h4 : e.op = 4
    · exact tokens_in e l v base w ev he ho hb hl h4
    by_cases h5 : e.op = 5
    · exact tokens_btw e l v base w ev he ho hb hl h5
    exact tokens_args m (ih (by omega)) e l v base w ev hs (by omega) he ho hb hl ⟨h1, h2, h3, h4, h5⟩
end Go.Proofs.YtaepiiediblleaaDoor

namespace Go.Proofs.YtaepiiediblleaaDoor
open Go.RowKit

theorem rvalid_calls (n : Int) (w : World) : Calls Tryd.prog 65 #[.int .i64 n] w (Gives (.bool (decide (-17592186044416 ≤ n) && decide (n ≤ 17592186044416))) w) := by
  cases h1 : decide (-17592186044416 ≤ n)
  · go_enter Tryd.func65, Tryd.ntmps65
    go_wp2_with fail
    go_ret
    exact gives_bool rfl
  · go_enter Tryd.func65, Tryd.ntmps65
    go_wp2_with fail
    go_ret
    exact gives_bool (by simp)

theorem uBy : Tryd.prog.underlying 5 = some (.int .u8) := by kernel_rfl
theorem uBs : Tryd.prog.underlying 148 = some (.slice 5) := by kernel_rfl
theorem uSt : Tryd.prog.underlying 9 = some .string := by kernel_rfl
/-- string([]byte{c}) -/
theorem conv_byte (w : World) (x : Nat) (hx : x = w.heap.size) (c : Int) (t : TypeId) : Sem.run Tryd.prog (convert 148 9 (.slice (some ⟨x, 0, none⟩) 1 1)) (w.alloc (.cells #[.int .u8 c] t)) = .ok (.string ⟨#[UInt8.ofNat c.toNat]⟩) (w.alloc (.cells #[.int .u8 c] t)) := by
  subst hx
  rw [run_convert_bytes_string _ _ _ 5 _ _ _ uBs uBy uSt]
  have := run_bytesToString (P := Tryd.prog) (w.alloc (.cells #[.int .u8 c] t)) ⟨w.heap.size, 0, none⟩ 1 1 [c] (by
    refine run_loadCells_list (P := Tryd.prog) _ _ [.int .u8 c] (fun j v hj => ?_)
    have hj0 : j = 0 := by
      have := (List.getElem?_eq_some_iff.1 hj).1
      simpa using this
    subst hj0
    have : (⟨w.heap.size, 0, none⟩ : Addr).add 0 = ⟨w.heap.size, 0, none⟩ := by unfold Addr.add; split <;> simp_all
    rw [this, World.cell?_alloc_at _ _ _ _ rfl]
    simpa using hj)
  rw [this]
  rfl

/-- What digits has still to do. -/
def DigI (D : List UInt8) (m : Nat) (b : List UInt8) : Prop := (m = 0 ∧ b = D ∧ b ≠ []) ∨ ∃ f, m < 10 ^ f ∧ digs f m ++ b = D ∧ (0 < m ∨ b = []) ∧ 0 < f
theorem digI_step {D : List UInt8} {m : Nat} {b : List UInt8} (h : DigI D m b) (hg : 0 < m ∨ b = []) : DigI D (m / 10) (UInt8.ofNat (48 + m % 10) :: b) := by
  rcases h with ⟨h1, _, h3⟩ | ⟨f, h1, h2, _, h4⟩
  · rcases hg with hg | hg
    · omega
    · exact absurd hg h3
  · obtain ⟨f, rfl⟩ : ∃ g, f = g + 1 := ⟨f - 1, by omega⟩
    rw [digs] at h2
    split at h2
    · rename_i hm
      refine Or.inl ⟨by omega, ?_, by simp⟩
      rw [Nat.mod_eq_of_lt hm]; simpa using h2
    · refine Or.inr ⟨f, by rw [Nat.pow_succ] at h1; omega, by simpa using h2, Or.inl (by omega), ?_⟩
      rcases Nat.eq_zero_or_pos f with rfl | hf
      · simp at h1; omega
      · exact hf
theorem digI_done {D : List UInt8} {m : Nat} {b : List UInt8} (h : DigI D m b) (hm : m = 0) (hb : b ≠ []) : b = D := by
  rcases h with ⟨_, h2, _⟩ | ⟨f, _, _, h3, _⟩
  · exact h2
  · rcases h3 with h3 | h3
    · omega
    · exact absurd h3 hb
theorem app_one (x : UInt8) (b : List UInt8) : (⟨#[x]⟩ ++ ⟨b.toArray⟩ : ByteArray) = ⟨(x :: b).toArray⟩ := by
  apply ByteArray.ext
  simp
def emptyS : Value → Nat
  | .string b => if b.size = 0 then 1 else 0
  | _ => 0
def bstr (b : List UInt8) : Value := .string ⟨b.toArray⟩

set_option maxRecDepth 100000 in
set_option maxHeartbeats 1000000 in
theorem digits_calls (n : Nat) (hn : n ≤ 17592186044416) (w : World) : Calls Tryd.prog 94 #[.int .i64 n, .int .i64 1] w (GivesE (bstr (digs 20 n)) w) := by
  have kc := conv_byte
  have h0 := Lib.hid (show DigI (digs 20 n) n [] from Or.inr ⟨20, by omega, by simp, Or.inr rfl, by omega⟩)
  go_enter Tryd.func94, Tryd.ntmps94
  go_wp2_with fail
  go_loopw [0, 5] (fun u s wr => ∃ (m : Nat) (b : List UInt8), u = .int .i64 m ∧ s = .string ⟨b.toArray⟩ ∧ m ≤ 17592186044416 ∧ b.length + m ≤ 18000000000000 ∧ DigI (digs 20 n) m b ∧ Ext w wr) (fun u s _ => (intOf u).toNat + emptyS s)
  case atStart => exact ⟨n, [], rfl, rfl, hn, by simp; omega, h0.out, Ext.refl w⟩
  case round =>
    obtain ⟨m, b, rfl, rfl, hm, hbl, hD, hx⟩ := hrel
    have HD := Lib.hid hD
    have HX := Lib.hid hx
    clear hD hx
    have HA := Lib.hid (app_one (48 + UInt8.ofNat (m % 10)) b)
    by_cases hm0 : 0 < m
    · have t1 : decide (0 < (m : Int)) = true := by simp; omega
      have t2 : decide (0 < m) = true := by simp; omega
      have HGO := Lib.hid (show DigI (digs 20 n) (m / 10) ((48 + UInt8.ofNat (m % 10)) :: b) by have := digI_step HD.out (Or.inl hm0); rwa [UInt8.ofNat_add] at this)
      clear HD
      go_wp2_with fail
      refine ⟨⟨m / 10, _ :: b, by go_num, by rw [HA.out], by omega, by simp; omega, HGO.out, HX.out.alloc _⟩, ?_⟩
      rw [HA.out]
      simp [intOf, emptyS, ByteArray.size]
      omega
    · have t1 : decide (0 < (m : Int)) = false := by simp; omega
      have t2 : decide (0 < m) = false := by simp; omega
      have HM0 := Lib.hid (show m = 0 by omega)
      cases b with
      | nil =>
        have HGO := Lib.hid (show DigI (digs 20 n) (m / 10) ((48 + UInt8.ofNat (m % 10)) :: []) by have := digI_step HD.out (Or.inr rfl); rwa [UInt8.ofNat_add] at this)
        clear HD
        go_wp2_with fail
        refine ⟨⟨m / 10, _ :: [], by go_num, by rw [HA.out], by omega, by simp; omega, HGO.out, HX.out.alloc _⟩, ?_⟩
        rw [HA.out]
        have := HM0.out
        simp [intOf, emptyS, ByteArray.size]
        omega
      | cons c r =>
        have HEND := Lib.hid (digI_done HD.out HM0.out (by simp))
        go_wp2_with fail
        go_ret
        exact ⟨by rw [HEND.out]; rfl, HX.out⟩

theorem digs_le : (f n : Nat) → (digs f n).length ≤ f
  | 0, n => by simp [digs]
  | f + 1, n => by
    have := digs_le f (n / 10)
    rw [digs]; split
    · simp
    · simp; omega
theorem decimal_calls (n : Int) (h1 : -17592186044416 ≤ n) (h2 : n ≤ 17592186044416) (w : World) : Calls Tryd.prog 66 #[.int .i64 n] w (GivesE (bstr (decB n)) w) := by
  by_cases hn : n < 0
  · have t1 : decide (n < 0) = true := by simpa using hn
    have HE := Lib.hid (show decB n = 45 :: digs 20 n.natAbs by rw [decB, if_pos hn])
    have HN := Lib.hid (show -n = (n.natAbs : Int) by omega)
    have hle : n.natAbs ≤ 17592186044416 := by omega
    have HC := Lib.hid (show Calls Tryd.prog 94 #[.int .i64 (-n), .int .i64 1] w (GivesE (bstr (digs 20 n.natAbs)) w) by have := digits_calls _ hle w; rwa [← HN.out] at this)
    clear hle
    go_enter Tryd.func66, Tryd.ntmps66
    go_wp2_with fail
    refine HC.out.mono ?_
    rintro r w1 ⟨rfl, hx⟩
    unfold bstr
    have HX := Lib.hid hx
    clear hx
    have hD := digs_le 20 n.natAbs
    generalize digs 20 n.natAbs = D at *
    go_wp2_with fail
    go_ret
    exact ⟨by rw [HE.out, bstr, ← app_one 45 D]; rfl, HX.out⟩
  · have t1 : decide (n < 0) = false := by simpa using hn
    have HE := Lib.hid (show decB n = digs 20 n.natAbs by rw [decB, if_neg hn])
    have HN := Lib.hid (show n = (n.natAbs : Int) by omega)
    have hle : n.natAbs ≤ 17592186044416 := by omega
    have HC := Lib.hid (show Calls Tryd.prog 94 #[.int .i64 n, .int .i64 1] w (GivesE (bstr (digs 20 n.natAbs)) w) by have := digits_calls _ hle w; rwa [← HN.out] at this)
    go_enter Tryd.func66, Tryd.ntmps66
    go_wp2_with fail
    refine HC.out.mono ?_
    rintro r w1 ⟨rfl, hx⟩
    unfold bstr
    go_wp2_with fail
    go_ret
    exact ⟨by rw [HE.out]; rfl, hx⟩

/-- A text of one byte that is a mark. -/
theorem rmark_calls (c : UInt8) (hm : markB (c.toNat : Int) = true) (w : World) : Calls Tryd.prog 68 #[.string ⟨#[c]⟩] w (Gives (.bool true) w) := by
  have hc : c = 59 ∨ c = 58 ∨ c = 44 ∨ c = 40 ∨ c = 41 := by
    have : c.toNat = 59 ∨ c.toNat = 58 ∨ c.toNat = 44 ∨ c.toNat = 40 ∨ c.toNat = 41 := by simp [markB] at hm; omega
    rcases this with h | h | h | h | h
    · exact Or.inl (toNat_inj h)
    · exact Or.inr (Or.inl (toNat_inj h))
    · exact Or.inr (Or.inr (Or.inl (toNat_inj h)))
    · exact Or.inr (Or.inr (Or.inr (Or.inl (toNat_inj h))))
    · exact Or.inr (Or.inr (Or.inr (Or.inr (toNat_inj h))))
  clear hm
  rcases hc with rfl | rfl | rfl | rfl | rfl
  all_goals
    go_enter Tryd.func68, Tryd.ntmps68
    go_wp2_with fail
    go_ret
    exact gives_bool rfl

def WrittenQ (b : List UInt8) (w : World) (e : Ending) (w' : World) : Prop := e = .returned (.tuple #[bstr b, .int .i64 0]) ∧ Ext w w'
set_option maxRecDepth 100000 in
set_option maxHeartbeats 1000000 in
theorem written_calls (t : Tok) (hg : goodT t) (w : World) : Calls Tryd.prog 47 #[tokV t] w (WrittenQ (tokB t) w) := by
  obtain ⟨hp, hg⟩ := hg
  clear hp
  obtain ⟨h1, h2, h3⟩ | ⟨h1, h2, h3, h4⟩ | ⟨h1, h4, c, h2, h3⟩ := hg
  · have HE := Lib.hid (show bstr (tokB t) = .string t.text by rw [tokB, if_neg (by omega)]; simp [bstr])
    have HW := Lib.hid h2
    have hsz : t.text.size ≤ 1000000000000000 := by simp only [wordB, Bool.and_eq_true, decide_eq_true_eq] at h2; have := h2.1.1.1.2; omega
    have HX := Lib.hid ((Ext.refl w).alloc (.cells #[.int .i64 1, .string t.text, .int .i64 0, .int .i64 t.pos] 61))
    unfold tokV
    rw [h1, h3]
    clear h1 h2 h3
    go_enter Tryd.func47, Tryd.ntmps47
    go_wp2_with fail
    refine (rword_calls _ _ hsz).mono ?_
    rintro r w1 ⟨rfl, rfl⟩
    rw [HW.out]
    go_wp2_with fail
    refine bodyPost_ret (v := .tuple #[.string t.text, .int .i64 0]) (by simp [results, Tryd.results47, go_sem]) rfl ⟨?_, HX.out⟩
    rw [HE.out]
  · have HE := Lib.hid (show bstr (tokB t) = bstr (decB t.num) by rw [tokB, if_pos h1])
    have HX := Lib.hid ((Ext.refl w).alloc (.cells #[.int .i64 2, .string ⟨#[]⟩, .int .i64 t.num, .int .i64 t.pos] 61))
    have HV := Lib.hid (show (decide (-17592186044416 ≤ t.num) && decide (t.num ≤ 17592186044416)) = true by simp [h3, h4])
    have HC := Lib.hid (decimal_calls t.num h3 h4)
    unfold tokV
    rw [h1, h2]
    clear h1 h2 h3 h4
    go_enter Tryd.func47, Tryd.ntmps47
    go_wp2_with fail
    refine (rvalid_calls _ _).mono ?_
    rintro r w1 ⟨rfl, rfl⟩
    rw [HV.out]
    go_wp2_with fail
    refine (HC.out _).mono ?_
    rintro r w1 ⟨rfl, hx⟩
    have HX1 := Lib.hid (HX.out.trans hx)
    clear hx
    unfold bstr
    go_wp2_with fail
    refine bodyPost_ret (v := .tuple #[bstr (decB t.num), .int .i64 0]) (by simp [results, Tryd.results47, go_sem, bstr]) rfl ⟨?_, HX1.out⟩
    rw [HE.out]
  · have HE := Lib.hid (show bstr (tokB t) = .string ⟨#[c]⟩ by rw [tokB, if_neg (by omega), h2]; rfl)
    have HX := Lib.hid ((Ext.refl w).alloc (.cells #[.int .i64 4, .string ⟨#[c]⟩, .int .i64 0, .int .i64 t.pos] 61))
    have HC := Lib.hid (rmark_calls c h3)
    unfold tokV
    rw [h1, h2, h4]
    clear h1 h2 h3 h4
    go_enter Tryd.func47, Tryd.ntmps47
    go_wp2_with fail
    refine (HC.out _).mono ?_
    rintro r w1 ⟨rfl, rfl⟩
    go_wp2_with fail
    refine bodyPost_ret (v := .tuple #[.string ⟨#[c]⟩, .int .i64 0]) (by simp [results, Tryd.results47, go_sem]) rfl ⟨?_, HX.out⟩
    rw [HE.out]
end Go.Proofs.YtaepiiediblleaaDoor

namespace Go.Proofs.YtaepiiediblleaaDoor
open Go.RowKit

/-- Join's two results. -/
def JoinQ (b : List UInt8) (er : Int) (w : World) (e : Ending) (w' : World) : Prop := e = .returned (.tuple #[bstr b, .int .i64 er]) ∧ Ext w w'
theorem app_str (a b : List UInt8) : (⟨a.toArray⟩ ++ ⟨b.toArray⟩ : ByteArray) = ⟨(a ++ b).toArray⟩ := by
  apply ByteArray.ext
  simp
theorem pcs_snoc (l : List Tok) (t : Tok) : pcsB (joinPc true (l ++ [t])) = pcsB (joinPc true l) ++ ((if !gluedA true l && !closes (tokB t) then [32] else []) ++ tokB t) := by
  rw [joinPc_append, pcsB_append]
  simp only [joinPc, List.append_nil]
  split <;> simp [pcsB, Pc.bytes]
theorem pcs_take (l : List Tok) (k : Nat) : (pcsB (joinPc true (l.take k))).length ≤ (pcsB (joinPc true l)).length := by
  have h := joinPc_append (l.take k) (l.drop k) true
  rw [List.take_append_drop] at h
  rw [h, pcsB_append, List.length_append]; omega
theorem toks_at {w : World} {l : List Tok} {a : Option Addr} {n c : Nat} (h : IsToks w l a n c) {k : Nat} (hk : k < l.length) : ∃ b off, a = some ⟨b, off, none⟩ ∧ w.cell? ⟨b, off + k * 4, none⟩ = some (.int .i64 l[k].kind) ∧ w.cell? ⟨b, off + k * 4 + 1, none⟩ = some (.string l[k].text) ∧ w.cell? ⟨b, off + k * 4 + 2, none⟩ = some (.int .i64 l[k].num) ∧ w.cell? ⟨b, off + k * 4 + 3, none⟩ = some (.int .i64 l[k].pos) := by
  obtain ⟨b, off, e, hc⟩ := h.2.2.2 k hk
  exact ⟨b, off, e, hc 0 (by simp [tokCells]), hc 1 (by simp [tokCells]), hc 2 (by simp [tokCells]), hc 3 (by simp [tokCells])⟩

set_option maxRecDepth 100000 in
set_option maxHeartbeats 2000000 in
theorem join_calls (l : List Tok) (a : Option Addr) (n c : Nat) (w : World) (ht : IsToks w l a n c) (hg : ∀ t ∈ l, goodT t) (hn : n ≤ 4000) (hb : (pcsB (joinPc true l)).length ≤ 16384) :
    Calls Tryd.prog 30 #[.slice a n c] w (JoinQ (pcsB (joinPc true l)) 0 w) := by
  have HT := Lib.hid ht
  have HN := Lib.hid ht.1
  have HGD := Lib.hid hg
  have HBL := Lib.hid hb
  clear ht hg hb
  go_enter Tryd.func30, Tryd.ntmps30
  go_wp2_with fail
  go_loopg [4, 5, 6] n (fun g o s i wr => ∃ k : Nat, k ≤ n ∧ g = n - k ∧ i = .int .i64 k ∧ o = bstr (pcsB (joinPc true (l.take k))) ∧ s = .bool (gluedA true (l.take k)) ∧ Ext w wr)
  case atStart => exact ⟨0, by omega, rfl, rfl, rfl, rfl, Ext.refl w⟩
  case round =>
    obtain ⟨k, hk, hgk, rfl, rfl, rfl, hx⟩ := hrel
    have HGN := Lib.hid hgk
    have HX := Lib.hid hx
    clear hgk hx
    by_cases hlt : k < n
    · have hlt' : k < l.length := by have := HN.out; omega
      have t1 : decide ((k : Int) < (n : Int)) = true := by simp; omega
      obtain ⟨b, off, rfl, h0, h1, h2, h3⟩ := toks_at HT.out hlt'
      replace h0 := HX.out.cell h0
      replace h1 := HX.out.cell h1
      replace h2 := HX.out.cell h2
      replace h3 := HX.out.cell h3
      have HE := Lib.hid (show l.take (k + 1) = l.take k ++ [l[k]] by simp)
      have HW := Lib.hid (written_calls l[k] (HGD.out _ (List.getElem_mem hlt')))
      unfold tokV at HW
      have HPC := Lib.hid (show pcsB (joinPc true (l.take (k + 1))) = pcsB (joinPc true (l.take k)) ++ ((if !gluedA true (l.take k) && !closes (tokB l[k]) then [32] else []) ++ tokB l[k]) by rw [HE.out, pcs_snoc])
      have HGL := Lib.hid (show gluedA true (l.take (k + 1)) = (tokB l[k] == [40]) by rw [HE.out, gluedA_snoc])
      have hlen : (pcsB (joinPc true (l.take k))).length ≤ 16384 := Nat.le_trans (pcs_take l k) HBL.out
      have hlen2 : (tokB l[k]).length ≤ 16384 := by
        have h1 := Nat.le_trans (pcs_take l (k + 1)) HBL.out
        rw [HPC.out, List.length_append, List.length_append] at h1
        omega
      go_wp2_with fail
      refine (HW.out _).mono ?_
      rintro r w1 ⟨rfl, hx1⟩
      have HX1 := Lib.hid (HX.out.trans hx1)
      clear hx1 h0 h1 h2 h3
      generalize pcsB (joinPc true (l.take k)) = O at *
      generalize tokB l[k] = T at *
      generalize gluedA true (l.take k) = G at *
      unfold bstr
      go_upto_region 10 with fail
      go_cut [46] (fun s46 wx => s46 = .bool (!G && !closes T) ∧ w1 = wx)
      case first =>
        have hl : (⟨T.toArray⟩ : ByteArray).toList = T := by rw [ByteArray.toList_eq]
        have HC := Lib.hid (show closes T = (T == [59] || T == [58] || T == [44] || T == [41]) from rfl)
        cases G with
        | true =>
          go_wp2_with fail
          go_meet
          case rel => exact ⟨rfl, rfl⟩
        | false =>
          cases h59 : (T == [59]) with
          | true =>
            have HP := Lib.hid (show (!false && !closes T) = false by rw [HC.out, h59]; rfl)
            go_wp2_with fail
            go_meet
            case rel => exact ⟨by rw [HP.out], rfl⟩
          | false =>
          cases h58 : (T == [58]) with
          | true =>
            have HP := Lib.hid (show (!false && !closes T) = false by rw [HC.out, h59, h58]; rfl)
            go_wp2_with fail
            go_meet
            case rel => exact ⟨by rw [HP.out], rfl⟩
          | false =>
          cases h44 : (T == [44]) with
          | true =>
            have HP := Lib.hid (show (!false && !closes T) = false by rw [HC.out, h59, h58, h44]; rfl)
            go_wp2_with fail
            go_meet
            case rel => exact ⟨by rw [HP.out], rfl⟩
          | false =>
            have HP := Lib.hid (show (!false && !closes T) = !(T == [41]) by rw [HC.out, h59, h58, h44]; rfl)
            cases h41 : (T == [41]) with
            | true =>
              rw [h41] at HP
              go_wp2_with fail
              go_meet
              case rel => exact ⟨by rw [HP.out]; rfl, rfl⟩
            | false =>
              rw [h41] at HP
              go_wp2_with fail
              go_meet
              case rel => exact ⟨by rw [HP.out]; rfl, rfl⟩
      case rest =>
        obtain ⟨rfl, rfl⟩ := hcut
        have HA1 := Lib.hid (app_str O [32])
        have HA2 := Lib.hid (app_str O T)
        have HA3 := Lib.hid (app_str (O ++ [32]) T)
        have hl : (⟨T.toArray⟩ : ByteArray).toList = T := by rw [ByteArray.toList_eq]
        cases hsp : (!G && !closes T) with
        | true =>
          have HPC2 := Lib.hid (show pcsB (joinPc true (l.take (k + 1))) = O ++ [32] ++ T by rw [HPC.out, hsp]; simp)
          clear HPC hsp
          go_wp2_with fail
          go_roundg (n - (k + 1))
          case measure => have := HGN.out; omega
          case rel => exact ⟨k + 1, by omega, rfl, by go_num, by rw [HPC2.out, bstr, ← HA3.out, ← HA1.out], by rw [HGL.out], HX1.out⟩
        | false =>
          have HPC2 := Lib.hid (show pcsB (joinPc true (l.take (k + 1))) = O ++ T by rw [HPC.out, hsp]; simp)
          clear HPC hsp
          go_wp2_with fail
          go_roundg (n - (k + 1))
          case measure => have := HGN.out; omega
          case rel => exact ⟨k + 1, by omega, rfl, by go_num, by rw [HPC2.out, bstr, ← HA2.out], by rw [HGL.out], HX1.out⟩
    · have HE2 := Lib.hid (show l.take k = l from List.take_of_length_le (by have := HN.out; omega))
      have t1 : decide ((k : Int) < (n : Int)) = false := by simp; omega
      have hlen : (pcsB (joinPc true (l.take k))).length ≤ 16384 := Nat.le_trans (pcs_take l k) HBL.out
      rw [HE2.out] at hlen ⊢
      unfold bstr
      generalize pcsB (joinPc true l) = O at *
      have tO : decide (16384 < (O.length : Int)) = false := by simp; omega
      have tO2 : decide (16384 < O.length) = false := by simp; omega
      go_wp2_with fail
      refine bodyPost_ret (v := .tuple #[bstr O, .int .i64 0]) (by simp [results, Tryd.results30, go_sem, bstr]) rfl ⟨rfl, HX.out⟩
end Go.Proofs.YtaepiiediblleaaDoor

namespace Go.Proofs.YtaepiiediblleaaDoor
open Go.RowKit

theorem empty_isEmpty {s : ByteArray} (h : s = ⟨#[]⟩) : s.toList.isEmpty = true := isEmpty_true (by subst h; rfl)
theorem okNode_ref {e : Ex} (h : okNode e) : refNodeB e = true := by
  unfold refNodeB refNode
  rcases h with ⟨h1, h2, h3, h4, h5, h6⟩ | ⟨h1, h2, h3, h4, h5, h6⟩ | ⟨h1, h2, h3, h4, h5, h6⟩ | ⟨h1, h2, h3, h4, h5, h6⟩ | ⟨h1, h2, h3, h4, h5, h6, h7⟩ | ⟨h1, h2, h3, h4, h5, h6⟩ | ⟨h1, h2, h3, h4, h5, h6⟩
  · simp [h1, h2, h3, h4, h5, h6]
  · simp [h1, h2, h3, h4, h5, h6]
  · simp [h1, h2, h3, h4, h5, h6]
  · simp only [wordsB, Bool.and_eq_true, bne_iff_ne, decide_eq_true_eq] at h3
    have h7 : 1 ≤ e.words.length := by have := h3.1.1.1; omega
    simp [h1, h2, h4, h5, h6, h7, h3.1.1.2, h3.2]
    simpa using h3.1.2
  · simp [h1, h2, h3, h4, h5, h6, h7]
  · simp [h1, h2, h3, h4, h5, h6]
  · rcases h1 with h1 | h1 <;> simp [h1, h2, h3, h4, h5, h6]
theorem okTree_nodes (m : Nat) : ∀ e : Ex, e.size ≤ m → okTree e → nodesB e = true := by
  induction m with
  | zero => intro e h; have := e.size_eq; omega
  | succ m ih =>
    intro e hm hok
    obtain ⟨hn, ha⟩ := okTree_parts hok
    rw [nodesB_eq, okNode_ref hn, Bool.true_and, nodesAll_iff]
    intro j hj
    exact ih _ (by have := sizes_mem (List.getElem_mem hj); have := e.size_eq; omega) (ha _ (List.getElem_mem hj))
theorem nameB_size {s : ByteArray} (h : nameB s = true) : s.size ≤ 16 := by
  have := nameB_wordB h
  simp only [wordB, Bool.and_eq_true, decide_eq_true_eq] at this
  exact this.1.1.1.2
theorem okNode_fits {e : Ex} (h : okNode e) : e.name.size ≤ 1000000000000000 ∧ (∀ x ∈ e.words, x.size ≤ 1000000000000000) ∧ e.words.length ≤ 1000000000000000 := by
  have key : ∀ {s : ByteArray}, nameB s = true → s.size ≤ 1000000000000000 := fun h => by have := nameB_size h; omega
  have k0 : ∀ {s : ByteArray}, s = ⟨#[]⟩ → s.size ≤ 1000000000000000 := fun h => by subst h; decide
  have kw : ∀ {l : List ByteArray}, l = [] → (∀ x ∈ l, x.size ≤ 1000000000000000) ∧ l.length ≤ 1000000000000000 := fun h => by subst h; simp
  rcases h with ⟨h1, h2, h3, _⟩ | ⟨h1, h2, h3, _⟩ | ⟨h1, h2, h3, _⟩ | ⟨h1, h2, h3, _⟩ | ⟨h1, h2, h3, _⟩ | ⟨h1, h2, h3, _⟩ | ⟨h1, h2, h3, _⟩
  · exact ⟨k0 h2, kw h3⟩
  · exact ⟨k0 h2, kw h3⟩
  · exact ⟨key h2, kw h3⟩
  · simp only [wordsB, Bool.and_eq_true, decide_eq_true_eq, List.all_eq_true] at h3
    exact ⟨key h2, fun x hx => key (h3.1.2 x hx), by have := h3.1.1.2; omega⟩
  · exact ⟨key h2, kw h3⟩
  · exact ⟨k0 h2, kw h3⟩
  · exact ⟨k0 h2, kw h3⟩
theorem fits_mk {e : Ex} (h1 : e.name.size ≤ 1000000000000000) (h2 : ∀ x ∈ e.words, x.size ≤ 1000000000000000) (h3 : ∀ x ∈ e.args, x.fits) : e.fits := by
  cases e with
  | mk op name words lo hi args =>
    unfold Ex.fits
    refine ⟨h1, h2, ?_⟩
    simp only [Ex.args] at h3
    clear h1 h2
    induction args with
    | nil => unfold fitsAll; trivial
    | cons a r ih => unfold fitsAll; exact ⟨h3 a (by simp), ih (fun x hx => h3 x (List.mem_cons_of_mem _ hx))⟩
theorem few_mk {e : Ex} (h2 : e.words.length ≤ 1000000000000000) (h3 : ∀ x ∈ e.args, x.few) : e.few := by
  cases e with
  | mk op name words lo hi args =>
    unfold Ex.few
    refine ⟨h2, ?_⟩
    simp only [Ex.args] at h3
    clear h2
    induction args with
    | nil => unfold fewAll; trivial
    | cons a r ih => unfold fewAll; exact ⟨h3 a (by simp), ih (fun x hx => h3 x (List.mem_cons_of_mem _ hx))⟩
theorem okTree_fits (m : Nat) : ∀ e : Ex, e.size ≤ m → okTree e → e.fits ∧ e.few := by
  induction m with
  | zero => intro e h; have := e.size_eq; omega
  | succ m ih =>
    intro e hm hok
    obtain ⟨hn, ha⟩ := okTree_parts hok
    obtain ⟨h1, h2, h3⟩ := okNode_fits hn
    have hs : ∀ x ∈ e.args, x.fits ∧ x.few := fun x hx => ih x (by have := sizes_mem hx; have := e.size_eq; omega) (ha x hx)
    exact ⟨fits_mk h1 h2 (fun x hx => (hs x hx).1), few_mk h3 (fun x hx => (hs x hx).2)⟩
theorem okTree_ref {e : Ex} (h : okTree e) (h1 : e.size ≤ 300) (h2 : e.depth ≤ 16) : refExprB e = true := by
  unfold refExprB refSize
  rw [okTree_nodes e.size e (Nat.le_refl _) h]
  simp; omega

theorem sub_mask_nil (w : World) : Sub w (mask w []) := fun p v h => by rw [mask_cell, if_neg (by simp)]; exact h

set_option maxRecDepth 100000 in
theorem format_calls (e : Ex) (ev : Value) (w : World) (he : IsEx w e ev) (hok : okTree e) (h1 : e.size ≤ 300) (h2 : e.depth ≤ 16) (h3 : (tokE e).length ≤ 4000) (h4 : (fmtB e).length ≤ 16384) : Calls Tryd.prog 9 #[ev] w (JoinQ (fmtB e) 0 w) := by
  obtain ⟨aw, nw, cw, aa, na, ca, rfl, hw, hna, hca, ha, hx⟩ := he.parts
  have HX := Lib.hid ((Ext.refl w).alloc (.cells #[.int .i64 e.op, .string e.name, .slice aw nw cw, .int .i64 e.lo, .int .i64 e.hi, .slice aa na ca] 26))
  have HBX := Lib.hid (alloc_new w (.cells #[.int .i64 e.op, .string e.name, .slice aw nw cw, .int .i64 e.lo, .int .i64 e.hi, .slice aa na ca] 26))
  have HE := Lib.hid (he.ext HX.out)
  have HOK := Lib.hid (okTree_fits e.size e (Nat.le_refl _) hok)
  have HR := Lib.hid (okTree_ref hok h1 h2)
  have HGD := Lib.hid (good_tokE e.size e (Nat.le_refl _) hok)
  have HL4 := Lib.hid h4
  clear hw hna hca ha hx he hok h2 h4
  unfold exV at *
  go_enter Tryd.func9, Tryd.ntmps9
  go_wp2_with fail
  generalize w.alloc (.cells #[.int .i64 e.op, .string e.name, .slice aw nw cw, .int .i64 e.lo, .int .i64 e.hi, .slice aa na ca] 26) = wb at *
  refine (rexpr_calls e _ _ HE.out (by omega) HOK.out.1 HOK.out.2).mono ?_
  rintro r w1 ⟨rfl, hx1⟩
  rw [HR.out]
  have hb1 := hx1.blk HBX.out
  have hlt := blk_lt hb1
  obtain ⟨b0, b1, b2, b3, b4, b5, bf⟩ := blk6 hb1
  have HX1 := Lib.hid (HX.out.trans hx1)
  have HE1 := Lib.hid (HE.out.ext hx1)
  clear hx1 hb1
  go_wp2_with fail
  refine (tokens_calls 300 (by omega) e [] (.slice none 0 0) w1.heap.size w1 _ h1 (HE1.out.mono (sub_mask_nil w1)) (World.ownsRow_nil _ _ _ _) (by omega) (by simp; omega)).mono ?_
  rintro r w2 ⟨v', rfl, ho, hg⟩
  rw [List.nil_append] at ho
  obtain ⟨a, c, rfl, hrows⟩ := IsRows.of_owns (f := tokCells) (fun _ => rfl) ho
  have HX2 := Lib.hid (hg.1.ext HX1.out (by intro q hq; simp [rowOf, Value.ownBlock] at hq))
  have HRW := Lib.hid hrows
  clear ho hg hrows b0 b1 b2 b3 b4 b5 bf
  go_wp2_with fail
  refine (join_calls _ a _ c w2 HRW.out HGD.out h3 HL4.out).mono ?_
  rintro r w3 ⟨rfl, hx3⟩
  unfold bstr
  have HX3 := Lib.hid (HX2.out.trans hx3)
  clear hx3
  go_wp2_with fail
  refine bodyPost_ret (v := .tuple #[bstr (fmtB e), .int .i64 0]) (by simp [results, Tryd.results9, go_sem, bstr]; rfl) rfl ⟨rfl, HX3.out⟩
end Go.Proofs.YtaepiiediblleaaDoor

namespace Go.Proofs.YtaepiiediblleaaDoor
open Go.RowKit

theorem IntsAt.ext {w w' : World} {a : Option Addr} {n : Nat} (h : IntsAt w a n) (hx : Ext w w') : IntsAt w' a n := fun i hi => by
  obtain ⟨b, off, z, e, hc⟩ := h i hi
  exact ⟨b, off, z, e, hx.cell hc⟩
/-- An expression was made. -/
theorem lexpr_fine (la : Option Addr) (ln lc : Nat) (w : World) (hi : IntsAt w la ln) (hl : ln ≤ 1000000000000000) :
    Calls Tryd.prog 8 #[.slice la ln lc] w (fun e w' => ∃ (x : Ex) (v : ExV), e = .returned v.val ∧ Fine 4 x ∧ IsEx w' x v.val ∧ Ext w w') := by
  refine (lexpr_calls la ln lc w hi hl [] (by simp)).mono ?_
  rintro e w' ⟨x, v, attrs, rfl, hat, hm, hix, hx⟩
  exact ⟨x, v, rfl, made_fine hat 4 x hm, hix.mono (mask_sub _ _), hx⟩
/-- The text of an expression that was made. -/
theorem format_fine {e : Ex} (hf : Fine 4 e) (ev : Value) (w : World) (he : IsEx w e ev) : Calls Tryd.prog 9 #[ev] w (JoinQ (fmtB e) 0 w) := by
  have b := bound4
  have h1 := hf.size; have h2 := hf.depth; have h3 := hf.len; have h4 := hf.wt
  have h5 := pcsB_joinPc_le (tokE e) true
  exact format_calls e ev w he hf.ok (by omega) (by omega) (by omega) (by unfold fmtB fmtPc; omega)
theorem fmtB_len {e : Ex} (hf : Fine 4 e) : (fmtB e).length ≤ 4445 := by
  have b := bound4
  have h4 := hf.wt
  have h5 := pcsB_joinPc_le (tokE e) true
  unfold fmtB fmtPc; omega
def ba (b : List UInt8) : ByteArray := ⟨b.toArray⟩
theorem ba_app (a b : List UInt8) : ba a ++ ba b = ba (a ++ b) := app_str a b
end Go.Proofs.YtaepiiediblleaaDoor
