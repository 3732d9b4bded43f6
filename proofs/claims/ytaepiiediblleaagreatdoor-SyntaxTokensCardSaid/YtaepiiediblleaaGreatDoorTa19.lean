/-
  Texts of the claim, joined: Read18, RScan1, RScan2, RScan3.
-/
import Derived.Test.YtaepiiediblleaaGreatDoorTa18
import Derived.Test.YtaepiiediblleaaGreatDoorTa15
import Derived.Test.YtaepiiediblleaaGreatDoorTa03
import Derived.Test.YtaepiiediblleaaGreatDoorTa16
import Derived.Deep.LoopGhost
import Derived.Deep.DeepCutAuto
namespace Go.Proofs.YtaepiiediblleaaGreatDoor
open Go.RowKit
section
variable {toks : List Tok} {ta : Option Addr} {tn tc : Nat} {w0 w : World} {br k : Nat} {bad : Int}

theorem read_tokensF {x e1 : Ex} {k' k1 : Nat} {er er' bad' : Int} (hk : k ≤ toks.length) (hg : Gr toks .ors k [] e1 er k1) (h0 : er = 0 → x = e1 ∧ k' = k1 ∧ (if 300 < e1.size ∨ 16 < e1.depth then er' = 4 ∧ bad' = (k : Int) else er' = 0)) (h1 : er ≠ 0 → er' = er ∧ bad' = (k1 : Int)) :
    (er' ≠ 0 → tokensF toks (k : Int) = (ex0, 0, bad', er')) ∧ (er' = 0 → tokensF toks (k : Int) = (x, (k' : Int), 0, 0) ∧ x.few ∧ x.size ≤ 300) := by
  have hr := hg.run
  have e0 : tokensF toks (k : Int) = if (run toks true k [] lvl0).2.1 ≠ 0 then (ex0, 0, ((run toks true k [] lvl0).2.2 : Int), (run toks true k [] lvl0).2.1) else
      if 300 < (run toks true k [] lvl0).1.size ∨ 16 < (run toks true k [] lvl0).1.depth then (ex0, 0, (k : Int), 4) else
      ((run toks true k [] lvl0).1.ex, ((run toks true k [] lvl0).2.2 : Int), 0, 0) := by
    rw [tokensF, if_neg (by omega), Int.toNat_natCast]
  rw [e0, hr]
  by_cases he : er = 0
  · subst he
    obtain ⟨rfl, rfl, h2⟩ := h0 rfl
    simp only [ne_eq, not_true_eq_false, if_false, partOf_size, partOf_depth]
    by_cases hb : 300 < x.size ∨ 16 < x.depth
    · rw [if_pos hb] at h2
      obtain ⟨rfl, rfl⟩ := h2
      rw [if_pos hb]
      exact ⟨fun _ => rfl, fun h => absurd h (by decide)⟩
    · rw [if_neg hb] at h2
      subst h2
      rw [if_neg hb, partOf_ex (by omega) (by omega)]
      exact ⟨fun h => absurd rfl h, fun _ => ⟨rfl, hg.few (by simp), by omega⟩⟩
  · obtain ⟨rfl, rfl⟩ := h1 he
    rw [if_pos he, if_pos he]
    exact ⟨fun _ => rfl, fun h => absurd h he⟩

def TokensRQ (R : Ex × Int × Int × Int) (w : World) (e : Ending) (w' : World) : Prop := TokensQ R [] w e w' ∧ R.1.few ∧ R.1.size ≤ 300
theorem ex0_size : ex0.size ≤ 300 := by simp [ex0, Ex.size, sizes]
set_option maxRecDepth 100000 in
set_option maxHeartbeats 4000000 in
theorem tokensExpr_calls (toks : List Tok) (ta : Option Addr) (tn tc : Nat) (i : Int) (w : World) (ht : IsToks w toks ta tn tc) (htn : tn ≤ 1000000) (hsz : ∀ t ∈ toks, t.text.size ≤ 1000000000000000) :
    Calls Tryz.prog 8 #[.slice ta tn tc, .int .i64 i] w (TokensRQ (tokensF toks i) w) := by
  have HT := Lib.hid ht
  have HZ := Lib.hid hsz
  have HN := Lib.hid ht.1
  clear ht hsz
  by_cases h1 : i < 0
  · have HR := Lib.hid (show tokensF toks i = (ex0, 0, 0, 1) by rw [tokensF, if_pos (Or.inl h1)])
    generalize tokensF toks i = R at *
    have t1 : decide (i < 0) = true := by simpa using h1
    go_enter Tryz.func8, Tryz.ntmps8
    go_wp2_with fail
    refine bodyPost_ret (v := .tuple #[exV0.val, .int .i64 0, .int .i64 0, .int .i64 1]) (by simp [results, Tryz.results8, go_sem, exV0, ExV.val, exV]) rfl ?_
    exact ⟨tokensQ_err HR.out ((Ext.refl w).alloc _), by rw [HR.out]; exact few_ex0, by rw [HR.out]; exact ex0_size⟩
  by_cases h2 : (tn : Int) < i
  · have HR := Lib.hid (show tokensF toks i = (ex0, 0, 0, 1) by rw [tokensF, if_pos (Or.inr (by rw [← HN.out]; exact h2))])
    generalize tokensF toks i = R at *
    have t1 : decide (i < 0) = false := by simpa using h1
    have t2 : decide ((tn : Int) < i) = true := by simpa using h2
    go_enter Tryz.func8, Tryz.ntmps8
    go_wp2_with fail
    refine bodyPost_ret (v := .tuple #[exV0.val, .int .i64 0, .int .i64 0, .int .i64 1]) (by simp [results, Tryz.results8, go_sem, exV0, ExV.val, exV]) rfl ?_
    exact ⟨tokensQ_err HR.out ((Ext.refl w).alloc _), by rw [HR.out]; exact few_ex0, by rw [HR.out]; exact ex0_size⟩
  obtain ⟨k, rfl⟩ : ∃ k : Nat, i = (k : Int) := ⟨i.toNat, by omega⟩
  have hk : k ≤ tn := by omega
  have HRF := Lib.hid (fun (x e1 : Ex) (k' k1 : Nat) (er er' bad' : Int) => read_tokensF (toks := toks) (k := k) (x := x) (e1 := e1) (k' := k') (k1 := k1) (er := er) (er' := er') (bad' := bad') (by rw [← HN.out]; exact hk))
  generalize tokensF toks (k : Int) = R at *
  have t1 : decide ((k : Int) < 0) = false := by simp
  have t2 : decide ((tn : Int) < (k : Int)) = false := by simp; omega
  have t3 : decide (tn < k) = false := by simp; omega
  clear h1 h2
  have HX0 := Lib.hid (show Ext w ((w.alloc (.cells exV0.cells.toArray 28)).alloc (.cells #[.slice ta tn tc, .int .i64 k, .int .i64 0, .int .i64 0] 61)) from ((Ext.refl w).alloc _).alloc _)
  have HB0 := Lib.hid (blk_alloc (o' := .cells #[.slice ta tn tc, .int .i64 k, .int .i64 0, .int .i64 0] 61) (alloc_new w (.cells exV0.cells.toArray 28)))
  have hsz0 : ((w.alloc (.cells exV0.cells.toArray 28)).alloc (.cells #[.slice ta tn tc, .int .i64 k, .int .i64 0, .int .i64 0] 61)).heap.size = w.heap.size + 2 := by simp
  have HR0 := Lib.hid (show RC toks ta tn tc w ((w.alloc (.cells exV0.cells.toArray 28)).alloc (.cells #[.slice ta tn tc, .int .i64 k, .int .i64 0, .int .i64 0] 61)) (w.heap.size + 1) k 0 0 from
    ⟨HT.out, HX0.out, alloc_at2 (by simp), by omega, hk, htn, HZ.out⟩)
  unfold exV0 ExV.cells at HX0 HB0 hsz0 HR0
  go_enter Tryz.func8, Tryz.ntmps8
  go_upto_region 4 with fail
  generalize (w.alloc (.cells _ 28)).alloc (.cells _ 61) = wa at *
  go_wp2_with fail
  refine (rread_calls HR0.out).mono ?_
  rintro r w1 ⟨v, x, e1, k', k1, er, er', bad', rfl, hx, hm, hg, h0, h1⟩
  obtain ⟨hF1, hF0⟩ := HRF.out _ _ _ _ _ _ _ hg h0 h1
  have HF1 := Lib.hid hF1
  have HF0 := Lib.hid hF0
  have HX := Lib.hid (hx [w.heap.size] (by simp; omega))
  have HX1 := Lib.hid (hm.2.ext HX0.out (by simp))
  have HR1 := Lib.hid hm.1
  have HB1 := Lib.hid (hm.2.blk HB0.out (by simp))
  clear hx hm hg h0 h1 hF1 hF0 HR0 HB0 HX0
  unfold ExV.val exV
  go_upto_region 5 with fail
  have hx2 : Ext w1 (w1.alloc (.cells v.cells.toArray 28)) := (Ext.refl w1).alloc _
  have HB2 := Lib.hid (hx2.blk HB1.out)
  have HV2 := Lib.hid (alloc_new w1 (.cells v.cells.toArray 28))
  have HR2 := Lib.hid (HR1.out.ext hx2)
  have HX2 := Lib.hid (HX1.out.trans hx2)
  have HXX2 := Lib.hid (HX.out.mono (mask_ext _ hx2))
  have hb0z := blk_lt HB1.out
  unfold ExV.cells at HB2 HV2 HR2 HX2 HXX2
  clear hx2
  generalize w1.alloc (.cells #[.int .i64 v.op, .string v.name, .slice v.aw v.nw v.cw, .int .i64 v.lo, .int .i64 v.hi, .slice v.aa v.na v.ca] 28) = w2 at *
  clear HX HX1 HR1 HB1
  obtain ⟨c0, c1, c2, c3, cf⟩ := blk4 HR2.out.hb
  have hlt := blk_lt HR2.out.hb
  have hB2 := blk_lt HB2.out
  have hV2 := blk_lt HV2.out
  obtain ⟨b0, b1, b2, b3, b4, b5, bf⟩ := blk6 HB2.out
  obtain ⟨v0, v1, v2, v3, v4, v5, vf⟩ := blk6 HV2.out
  by_cases he : er' = 0
  · have te : (er' != 0) = false := by simp [he]
    have HE := Lib.hid (HF0.out he)
    clear he HF0 HF1
    go_wp2_with fail
    go_region
    all_goals
      go_wp2_with fail
      refine bodyPost_ret (v := .tuple #[v.val, .int .i64 k', .int .i64 0, .int .i64 0]) (by simp [results, Tryz.results8, go_sem, ExV.val, exV, b0, b1, b2, b3, b4, b5]) rfl ?_
      refine ⟨?_, by rw [HE.out.1]; exact HE.out.2.1, by rw [HE.out.1]; exact HE.out.2.2⟩
      rw [HE.out.1]
      refine ⟨v, rfl, HXX2.out.mono ((Chg.sub ?_).trans (mask_less _ (fun y hy => by simp at hy))), ?_⟩
      · repeat (with_reducible (first | refine Chg.setCell ?_ ?_ _ | refine Chg.drew ?_ | refine Chg.drewN ?_ _))
        exact Chg.refl _ _
        all_goals (refine Or.inl ?_; simp)
      · repeat (with_reducible (first | refine Ext.setAbove ?_ ?_ _ | refine Ext.drew ?_ | refine Ext.drewN ?_ _))
        exact HX2.out
        all_goals simp
  · have te : (er' != 0) = true := by simpa using he
    have HE := Lib.hid (HF1.out he)
    clear he HF0 HF1
    go_wp2_with fail
    go_region
    all_goals
      go_wp2_with fail
      refine bodyPost_ret (v := .tuple #[exV0.val, .int .i64 0, .int .i64 bad', .int .i64 er']) (by simp [results, Tryz.results8, go_sem, exV0, ExV.val, exV, b0, b1, b2, b3, b4, b5]) rfl ?_
      refine ⟨tokensQ_err HE.out ?_, by rw [HE.out]; exact few_ex0, by rw [HE.out]; exact ex0_size⟩
      repeat (with_reducible (first | refine Ext.setAbove ?_ ?_ _ | refine Ext.drew ?_ | refine Ext.drewN ?_ _))
      exact HX2.out
      all_goals simp
end
end Go.Proofs.YtaepiiediblleaaGreatDoor

namespace Go.Proofs.YtaepiiediblleaaGreatDoor
open Go.RowKit

set_option maxRecDepth 100000 in
set_option maxHeartbeats 1000000 in
/-- The end of a word. -/
theorem rendW_calls (s : ByteArray) (i : Nat) (w : World) (hs : s.size ≤ 1000000000000000) (hi : i ≤ s.size) : Calls Tryz.prog 55 #[.string s, .int .i64 i, .bool true, .bool true, .bool false] w (Gives (.int .i64 (spanF inWordB s (s.size - i) i)) w) := by
  obtain ⟨R, hR⟩ : ∃ R, R = spanF inWordB s (s.size - i) i := ⟨_, rfl⟩
  rw [← hR]
  have HR := Lib.hid hR
  clear hR
  go_enter Tryz.func55, Tryz.ntmps55
  go_wp2_with fail
  go_loop [1] (fun x => ∃ k : Nat, x = .int .i64 k ∧ k ≤ s.size ∧ spanF inWordB s (s.size - k) k = R) (fun x => s.size - (intOf x).toNat)
  case atStart => exact ⟨i, rfl, hi, HR.out.symm⟩
  case round =>
    obtain ⟨k, rfl, hk, hsp⟩ := hrel
    have HS := Lib.hid hsp
    clear hsp
    by_cases hlt : k < s.size
    · have HY := Lib.hid (fun (h : inWordB (s[k].toNat : Int) = true) => (spanF_step hlt h).symm.trans HS.out)
      have HN := Lib.hid (fun (h : inWordB (s[k].toNat : Int) = false) => (spanF_stop hlt h).symm.trans HS.out)
      cases h5 : digitB (s[k].toNat : Int)
      · cases h4 : letterB (s[k].toNat : Int)
        · cases h6 : ((s[k].toNat : Int) == 45)
          · have H := Lib.hid (HN.out (by simp [inWordB, h4, h5, h6]))
            have H4 := Lib.hid h4
            have H5 := Lib.hid h5
            clear h4 h5
            go_wp2_with fail
            refine (rdigit_calls _ _).mono ?_
            rintro e w' ⟨rfl, rfl⟩
            rw [H5.out]
            go_wp2_with fail
            refine (rletter_calls _ _).mono ?_
            rintro e w' ⟨rfl, rfl⟩
            rw [H4.out]
            go_wp2_with fail
            go_ret
            exact ⟨by rw [← H.out]; rfl, rfl⟩
          · have H := Lib.hid (HY.out (by simp [inWordB, h4, h5, h6]))
            have H4 := Lib.hid h4
            have H5 := Lib.hid h5
            clear h4 h5
            go_wp2_with fail
            refine (rdigit_calls _ _).mono ?_
            rintro e w' ⟨rfl, rfl⟩
            rw [H5.out]
            go_wp2_with fail
            refine (rletter_calls _ _).mono ?_
            rintro e w' ⟨rfl, rfl⟩
            rw [H4.out]
            go_wp2_with fail
            go_round
            case rel => exact ⟨k + 1, by go_num, by omega, H.out⟩
            case measure => simp [intOf]; omega
        · have H := Lib.hid (HY.out (by simp [inWordB, h4]))
          have H4 := Lib.hid h4
          have H5 := Lib.hid h5
          clear h4 h5
          go_wp2_with fail
          refine (rdigit_calls _ _).mono ?_
          rintro e w' ⟨rfl, rfl⟩
          rw [H5.out]
          go_wp2_with fail
          refine (rletter_calls _ _).mono ?_
          rintro e w' ⟨rfl, rfl⟩
          rw [H4.out]
          go_wp2_with fail
          go_round
          case rel => exact ⟨k + 1, by go_num, by omega, H.out⟩
          case measure => simp [intOf]; omega
      · have H := Lib.hid (HY.out (by simp [inWordB, h5]))
        have H5 := Lib.hid h5
        clear h5
        go_wp2_with fail
        refine (rdigit_calls _ _).mono ?_
        rintro e w' ⟨rfl, rfl⟩
        rw [H5.out]
        go_wp2_with fail
        go_round
        case rel => exact ⟨k + 1, by go_num, by omega, H.out⟩
        case measure => simp [intOf]; omega
    · have H := Lib.hid ((spanF_end hlt).symm.trans HS.out)
      go_wp2_with fail
      go_ret
      exact ⟨by rw [← H.out]; rfl, rfl⟩

set_option maxRecDepth 100000 in
set_option maxHeartbeats 1000000 in
/-- The end of digits. -/
theorem rendD_calls (s : ByteArray) (i : Nat) (w : World) (hs : s.size ≤ 1000000000000000) (hi : i ≤ s.size) : Calls Tryz.prog 55 #[.string s, .int .i64 i, .bool false, .bool false, .bool false] w (Gives (.int .i64 (spanF digitB s (s.size - i) i)) w) := by
  obtain ⟨R, hR⟩ : ∃ R, R = spanF digitB s (s.size - i) i := ⟨_, rfl⟩
  rw [← hR]
  have HR := Lib.hid hR
  clear hR
  go_enter Tryz.func55, Tryz.ntmps55
  go_wp2_with fail
  go_loop [1] (fun x => ∃ k : Nat, x = .int .i64 k ∧ k ≤ s.size ∧ spanF digitB s (s.size - k) k = R) (fun x => s.size - (intOf x).toNat)
  case atStart => exact ⟨i, rfl, hi, HR.out.symm⟩
  case round =>
    obtain ⟨k, rfl, hk, hsp⟩ := hrel
    have HS := Lib.hid hsp
    clear hsp
    by_cases hlt : k < s.size
    · cases h5 : digitB (s[k].toNat : Int)
      · have H := Lib.hid ((spanF_stop hlt h5).symm.trans HS.out)
        have H5 := Lib.hid h5
        clear h5
        go_wp2_with fail
        refine (rdigit_calls _ _).mono ?_
        rintro e w' ⟨rfl, rfl⟩
        rw [H5.out]
        go_wp2_with fail
        go_ret
        exact ⟨by rw [← H.out]; rfl, rfl⟩
      · have H := Lib.hid ((spanF_step hlt h5).symm.trans HS.out)
        have H5 := Lib.hid h5
        clear h5
        go_wp2_with fail
        refine (rdigit_calls _ _).mono ?_
        rintro e w' ⟨rfl, rfl⟩
        rw [H5.out]
        go_wp2_with fail
        go_round
        case rel => exact ⟨k + 1, by go_num, by omega, H.out⟩
        case measure => simp [intOf]; omega
    · have H := Lib.hid ((spanF_end hlt).symm.trans HS.out)
      go_wp2_with fail
      go_ret
      exact ⟨by rw [← H.out]; rfl, rfl⟩

def WholeQ (w : World) (e : Ending) (w' : World) : Prop := ∃ (n : Int) (b : Bool), e = .returned (.tuple #[.int .i64 n, .bool b]) ∧ 0 ≤ n ∧ n ≤ 17592186044416 ∧ w = w'
set_option maxRecDepth 100000 in
set_option maxHeartbeats 1000000 in
theorem whole_calls (s : ByteArray) (w : World) (hs : s.size ≤ 1000000000000000) (hd : Digits s) : Calls Tryz.prog 58 #[.string s] w (WholeQ w) := by
  have HD := Lib.hid hd
  clear hd
  go_enter Tryz.func58, Tryz.ntmps58
  go_wp2_with fail
  go_loop [4, 5] (fun t i => ∃ (k : Nat) (n : Int), i = .int .i64 k ∧ t = .int .i64 n ∧ 0 ≤ n ∧ n ≤ 17592186044416) (fun _ i => s.size - (intOf i).toNat)
  case atStart => exact ⟨0, 0, rfl, rfl, by omega, by omega⟩
  case round =>
    obtain ⟨k, n, rfl, rfl, hn0, hn1⟩ := hrel
    by_cases hlt : k < s.size
    · obtain ⟨d1, d2⟩ := HD.out k hlt
      by_cases hov : 17592186044416 < 10 * n + ((s[k].toNat : Int) - 48)
      · go_wp2_with fail
        go_ret2
        exact ⟨0, false, rfl, by omega, by omega, rfl⟩
      · go_wp2_with fail
        go_round
        case rel => exact ⟨k + 1, _, by go_num, rfl, by omega, by omega⟩
        case measure => simp [intOf]; omega
    · go_wp2_with fail
      go_ret2
      exact ⟨n, true, rfl, hn0, hn1, rfl⟩
end Go.Proofs.YtaepiiediblleaaGreatDoor

namespace Go.Proofs.YtaepiiediblleaaGreatDoor
open Go.RowKit

/-- Whether a text is a mark: some answer. -/
theorem rmark_some (s : ByteArray) (w : World) : Calls Tryz.prog 60 #[.string s] w (fun e w' => ∃ b : Bool, e = .returned (.bool b) ∧ w = w') := by
  go_enter Tryz.func60, Tryz.ntmps60
  go_wp2_with fail
  all_goals (go_ret; exact ⟨_, rfl, rfl⟩)

/-- A token was read, or there is an error. -/
def RTokQ (s : ByteArray) (i : Nat) (w : World) (e : Ending) (w' : World) : Prop := ∃ (T : Tok) (nx : Nat) (er : Int), e = .returned (.tuple #[tokV T, .int .i64 nx, .int .i64 er]) ∧ T.text.size ≤ s.size ∧ (er = 0 → i < nx ∧ nx ≤ s.size) ∧ Ext w w'
theorem digits_extract {s : ByteArray} {i : Nat} (hi : i ≤ s.size) : Digits (s.extract i (spanF digitB s (s.size - i) i)) := by
  have hb := spanF_bd digitB s (s.size - i) i hi
  have ha := spanF_all digitB s (s.size - i) i
  generalize spanF digitB s (s.size - i) i = e at *
  intro j hj
  have hsz : (s.extract i e).size = e - i := by simp; omega
  have := ha (i + j) (by omega) (by omega) (by omega)
  simp [digitB] at this
  rw [ByteArray.getElem_extract]
  exact this

set_option maxRecDepth 100000 in
set_option maxHeartbeats 2000000 in
theorem rtoken_word (s : ByteArray) (i : Nat) (w : World) (hs : s.size ≤ 1000000000000000) (hi : i < s.size) (h1 : letterB (s[i].toNat : Int) = true) :
    Calls Tryz.prog 30 #[.string s, .int .i64 i] w (RTokQ s i w) := by
  have hbd := spanF_bd inWordB s (s.size - (i + 1)) (i + 1) (by omega)
  rw [← spanF_step (p := inWordB) hi (by simp [inWordB, h1])] at hbd
  have HP := Lib.hid (rendW_calls s i · hs (by omega))
  have H1 := Lib.hid h1
  clear h1
  generalize spanF inWordB s (s.size - i) i = e at *
  obtain ⟨b1, b2⟩ := hbd
  have b0 : i ≤ e := by omega
  cases h2 : wordB (s.extract i e)
  · have H2 := Lib.hid h2
    clear h2
    go_enter Tryz.func30, Tryz.ntmps30
    go_wp2_with fail
    refine (rletter_calls _ _).mono ?_
    rintro r w' ⟨rfl, rfl⟩
    rw [H1.out]
    go_wp2_with fail
    refine (HP.out _).mono ?_
    rintro r w' ⟨rfl, rfl⟩
    go_wp2_with fail
    refine (rword_calls _ _ (by simp; omega)).mono ?_
    rintro r w' ⟨rfl, rfl⟩
    rw [H2.out]
    go_wp2_with fail
    exact bodyPost_ret (v := .tuple #[tokV tok0, .int .i64 i, .int .i64 6]) (by simp [results, Tryz.results30, go_sem, tokV, tok0]) rfl ⟨tok0, i, 6, rfl, Nat.zero_le _, fun h => absurd h (by decide), (Ext.refl w).alloc _⟩
  · have H2 := Lib.hid h2
    clear h2
    go_enter Tryz.func30, Tryz.ntmps30
    go_wp2_with fail
    refine (rletter_calls _ _).mono ?_
    rintro r w' ⟨rfl, rfl⟩
    rw [H1.out]
    go_wp2_with fail
    refine (HP.out _).mono ?_
    rintro r w' ⟨rfl, rfl⟩
    go_wp2_with fail
    refine (rword_calls _ _ (by simp; omega)).mono ?_
    rintro r w' ⟨rfl, rfl⟩
    rw [H2.out]
    go_wp2_with fail
    exact bodyPost_ret (v := .tuple #[tokV ⟨1, s.extract i e, 0, i⟩, .int .i64 e, .int .i64 0]) (by simp [results, Tryz.results30, go_sem, tokV]) rfl ⟨⟨1, s.extract i e, 0, i⟩, e, 0, rfl, by simp; omega, fun _ => ⟨by omega, by omega⟩, (Ext.refl w).alloc _⟩

set_option maxRecDepth 100000 in
set_option maxHeartbeats 2000000 in
theorem rtoken_mark (s : ByteArray) (i : Nat) (w : World) (hs : s.size ≤ 1000000000000000) (hi : i < s.size) (h64 : ((s[i].toNat : Int) == 64) = false) (h1 : letterB (s[i].toNat : Int) = false) (t1 : digitB (s[i].toNat : Int) = false) (t2 : ((s[i].toNat : Int) == 45) = false) :
    Calls Tryz.prog 30 #[.string s, .int .i64 i] w (RTokQ s i w) := by
  have c1 : (i : Int) + 1 ≤ s.size := by omega
  have c0 : (i : Int) ≤ (i : Int) + 1 := by omega
  have c2 : (0 : Int) ≤ (i : Int) + 1 := by omega
  have H1 := Lib.hid h1
  have T1 := Lib.hid t1
  clear h1 t1
  go_enter Tryz.func30, Tryz.ntmps30
  go_wp2_with fail
  refine (rletter_calls _ _).mono ?_
  rintro r w' ⟨rfl, rfl⟩
  rw [H1.out]
  go_wp2_with fail
  refine (rdigit_calls _ _).mono ?_
  rintro r w' ⟨rfl, rfl⟩
  rw [T1.out]
  go_wp2_with fail
  refine (rmark_some _ _).mono ?_
  rintro r w' ⟨b, rfl, rfl⟩
  cases b
  · go_wp2_with fail
    exact bodyPost_ret (v := .tuple #[tokV tok0, .int .i64 i, .int .i64 5]) (by simp [results, Tryz.results30, go_sem, tokV, tok0]) rfl ⟨tok0, i, 5, rfl, Nat.zero_le _, fun h => absurd h (by decide), (Ext.refl w).alloc _⟩
  · go_wp2_with fail
    exact bodyPost_ret (v := .tuple #[tokV ⟨4, s.extract i (i + 1), 0, i⟩, .int .i64 (i + 1 : Nat), .int .i64 0]) (by simp [results, Tryz.results30, go_sem, tokV]) rfl ⟨⟨4, s.extract i (i + 1), 0, i⟩, i + 1, 0, rfl, by simp; omega, fun _ => ⟨by omega, by omega⟩, (Ext.refl w).alloc _⟩

/-- Whether the digits are no number's: some answer, and behind it they are some. -/
theorem rtoken_fin (s : ByteArray) (i e from0 : Nat) (h0 : i ≤ from0) (h1 : from0 ≤ e) (h2 : e ≤ s.size) (h : (s.extract from0 e).toList.isEmpty = false) : i < e := by
  rcases Nat.lt_or_ge from0 e with h3 | h3
  · omega
  · have : (s.extract from0 e).size = 0 := by simp; omega
    rw [isEmpty_true this] at h; cases h

set_option maxRecDepth 100000 in
set_option maxHeartbeats 4000000 in
theorem rtoken_num (s : ByteArray) (i : Nat) (w : World) (hs : s.size ≤ 1000000000000000) (hi : i < s.size) (h1 : letterB (s[i].toNat : Int) = false) (t : digitB (s[i].toNat : Int) = true ∨ (digitB (s[i].toNat : Int) = false ∧ ((s[i].toNat : Int) == 45) = true)) :
    Calls Tryz.prog 30 #[.string s, .int .i64 i] w (RTokQ s i w) := by
  have H1 := Lib.hid h1
  clear h1
  have key : ∀ fr : Nat, i ≤ fr → fr ≤ s.size → ∀ tB : Bool, ((s[i].toNat : Int) == 45) = tB → fr = (if tB then i + 1 else i) → ∀ tD : Bool, digitB (s[i].toNat : Int) = tD → (tD = true ∨ tB = true) → Calls Tryz.prog 30 #[.string s, .int .i64 i] w (RTokQ s i w) := by
    intro fr b3 b4 tB htB hfr tD htD hor
    have hbd := spanF_bd digitB s (s.size - fr) fr b4
    have HP := Lib.hid (rendD_calls s fr · hs b4)
    have HDG := Lib.hid (digits_extract b4)
    generalize spanF digitB s (s.size - fr) fr = e at *
    obtain ⟨b1, b2⟩ := hbd
    have HTD := Lib.hid htD
    have HOR := Lib.hid hor
    have HFIN := Lib.hid (rtoken_fin s i e fr b3 b1 b2)
    have hszD : (s.extract fr e).size = e - fr := by simp; omega
    have HC : ∀ W, Ext w W → Calls Tryz.prog 58 #[.string (s.extract fr e)] W (WholeQ W) := fun W _ => whole_calls _ _ (by omega) HDG.out
    have HWC := Lib.hid HC
    clear t htD hor HC
    cases tB
    · obtain rfl : i = fr := by simpa using hfr.symm
      have hd : tD = true := by rcases HOR.out with h | h; exact h; cases h
      subst hd
      clear hfr
      by_cases hne : i < e
      case' pos =>
        have e0 := isEmpty_false (s := s.extract i e) (by omega)
        have HFE := Lib.hid hne
      case' neg =>
        have e0 := isEmpty_true (s := s.extract i e) (by omega)
        have HFE := Lib.hid hne
      all_goals
        go_enter Tryz.func30, Tryz.ntmps30
        go_wp2_with fail
        refine (rletter_calls _ _).mono ?_
        rintro r w' ⟨rfl, rfl⟩
        rw [H1.out]
        go_wp2_with fail
        refine (rdigit_calls _ _).mono ?_
        rintro r w' ⟨rfl, rfl⟩
        rw [HTD.out]
        go_wp2_with fail
        refine (HP.out _).mono ?_
        rintro r w' ⟨rfl, rfl⟩
        go_wp2_with fail
        all_goals first
          | exact bodyPost_ret (v := .tuple #[tokV tok0, .int .i64 i, .int .i64 5]) (by simp [results, Tryz.results30, go_sem, tokV, tok0]) rfl ⟨tok0, i, 5, rfl, Nat.zero_le _, fun h => absurd h (by decide), (Ext.refl w).alloc _⟩
          | (refine (HWC.out _ ((Ext.refl w).alloc _)).mono ?_
             rintro r w' ⟨n, b, rfl, hn0, hn1, rfl⟩
             cases b
             · go_wp2_with fail
               exact bodyPost_ret (v := .tuple #[tokV tok0, .int .i64 i, .int .i64 1]) (by simp [results, Tryz.results30, go_sem, tokV, tok0]) rfl ⟨tok0, i, 1, rfl, Nat.zero_le _, fun h => absurd h (by decide), (Ext.refl w).alloc _⟩
             · go_wp2_with fail
               exact bodyPost_ret (v := .tuple #[tokV ⟨2, ⟨#[]⟩, n, i⟩, .int .i64 e, .int .i64 0]) (by simp [results, Tryz.results30, go_sem, tokV]) rfl ⟨⟨2, ⟨#[]⟩, n, i⟩, e, 0, rfl, Nat.zero_le _, fun _ => ⟨HFE.out, b2⟩, (Ext.refl w).alloc _⟩)
    · obtain rfl : i + 1 = fr := by simpa using hfr.symm
      have hd : tD = false := by
        cases tD
        · rfl
        · have h1 := HTD.out; simp [digitB] at h1 htB; omega
      subst hd
      clear hfr
      have c0 : (i : Int) + 1 ≤ (e : Int) := by omega
      have c1 : (0 : Int) ≤ (i : Int) + 1 := by omega
      have c2 : (e : Int) ≤ (s.size : Int) := by omega
      have c3 : ((i : Int) + 1).toNat = i + 1 := by omega
      by_cases hne : i + 1 < e
      case' pos =>
        have e0 := isEmpty_false (s := s.extract (i + 1) e) (by omega)
        have HFE := Lib.hid (show i < e by omega)
      case' neg =>
        have e0 := isEmpty_true (s := s.extract (i + 1) e) (by omega)
        have HFE := Lib.hid hne
      all_goals
        go_enter Tryz.func30, Tryz.ntmps30
        go_wp2_with fail
        refine (rletter_calls _ _).mono ?_
        rintro r w' ⟨rfl, rfl⟩
        rw [H1.out]
        go_wp2_with fail
        refine (rdigit_calls _ _).mono ?_
        rintro r w' ⟨rfl, rfl⟩
        rw [HTD.out]
        go_wp2_with fail
        refine (HP.out _).mono ?_
        rintro r w' ⟨rfl, rfl⟩
        go_wp2_with fail
        all_goals first
          | exact bodyPost_ret (v := .tuple #[tokV tok0, .int .i64 i, .int .i64 5]) (by simp [results, Tryz.results30, go_sem, tokV, tok0]) rfl ⟨tok0, i, 5, rfl, Nat.zero_le _, fun h => absurd h (by decide), (Ext.refl w).alloc _⟩
          | (refine (HWC.out _ ((Ext.refl w).alloc _)).mono ?_
             rintro r w' ⟨n, b, rfl, hn0, hn1, rfl⟩
             cases b
             · go_wp2_with fail
               exact bodyPost_ret (v := .tuple #[tokV tok0, .int .i64 i, .int .i64 1]) (by simp [results, Tryz.results30, go_sem, tokV, tok0]) rfl ⟨tok0, i, 1, rfl, Nat.zero_le _, fun h => absurd h (by decide), (Ext.refl w).alloc _⟩
             · go_wp2_with fail
               exact bodyPost_ret (v := .tuple #[tokV ⟨2, ⟨#[]⟩, -n, i⟩, .int .i64 e, .int .i64 0]) (by simp [results, Tryz.results30, go_sem, tokV]) rfl ⟨⟨2, ⟨#[]⟩, -n, i⟩, e, 0, rfl, Nat.zero_le _, fun _ => ⟨HFE.out, b2⟩, (Ext.refl w).alloc _⟩)
  rcases t with t | ⟨t, t2⟩
  · have h45 : ((s[i].toNat : Int) == 45) = false := by simp [digitB] at t; simp; omega
    exact key i (Nat.le_refl _) (by omega) false h45 rfl true t (Or.inl rfl)
  · exact key (i + 1) (by omega) (by omega) true t2 rfl false t (Or.inr rfl)
end Go.Proofs.YtaepiiediblleaaGreatDoor

namespace Go.Proofs.YtaepiiediblleaaGreatDoor
open Go.RowKit

theorem rtoken_some (s : ByteArray) (i : Nat) (w : World) (hs : s.size ≤ 1000000000000000) (hi : i < s.size) (h64 : (s[i].toNat : Int) ≠ 64) :
    Calls Tryz.prog 30 #[.string s, .int .i64 i] w (RTokQ s i w) := by
  cases h1 : letterB (s[i].toNat : Int)
  · cases h2 : digitB (s[i].toNat : Int)
    · cases h3 : ((s[i].toNat : Int) == 45)
      · exact rtoken_mark s i w hs hi (by simpa using h64) h1 h2 h3
      · exact rtoken_num s i w hs hi h1 (Or.inr ⟨h2, h3⟩)
    · exact rtoken_num s i w hs hi h1 (Or.inl h2)
  · exact rtoken_word s i w hs hi h1

/-- The reference's Scan hands back some list of tokens. -/
def RScanQ (w : World) (e : Ending) (w' : World) : Prop :=
  ∃ (l : List Tok) (a : Option Addr) (n c : Nat) (at2 er : Int), e = .returned (.tuple #[.slice a n c, .int .i64 at2, .int .i64 er]) ∧ IsToks w' l a n c ∧ (∀ t ∈ l, t.text.size ≤ 1000000000000000) ∧ l.length ≤ 4000 ∧ Ext w w'
theorem rscanQ_nil {a b : Int} {w w' : World} (hx : Ext w w') : RScanQ w (.returned (.tuple #[.slice none 0 0, .int .i64 a, .int .i64 b])) w' :=
  ⟨[], none, 0, 0, a, b, rfl, isRows_nil _ _ _, by simp, by simp, hx⟩

set_option maxRecDepth 100000 in
set_option maxHeartbeats 4000000 in
theorem rscan_calls (s : ByteArray) (w : World) (hs : s.size ≤ 1000000000000000) (hno : ∀ i (h : i < s.size), (s[i].toNat : Int) ≠ 64 ∧ (s[i].toNat : Int) ≠ 35) :
    Calls Tryz.prog 12 #[.string s] w (RScanQ w) := by
  by_cases hbig : 16384 < s.size
  · go_enter Tryz.func12, Tryz.ntmps12
    go_wp2_with fail
    go_ret3
    exact rscanQ_nil (Ext.refl _)
  · have HNO := Lib.hid hno
    clear hno
    go_enter Tryz.func12, Tryz.ntmps12
    go_wp2_with fail
    go_loopg [5, 6] s.size (fun m v i wr => ∃ (k : Nat) (acc : List Tok), k ≤ s.size ∧ m = s.size - k ∧ i = .int .i64 k ∧ acc.length ≤ 4000 ∧ (∀ t ∈ acc, t.text.size ≤ 1000000000000000) ∧ wr.ownsRow w.heap.size 73 4 v acc.length (acc.flatMap tokCells) ∧ Ext w wr)
    case atStart => exact ⟨0, [], by omega, rfl, rfl, by simp, by simp, World.ownsRow_nil _ _ _ _, Ext.refl _⟩
    case round =>
      obtain ⟨k, acc, hk, hgk, rfl, hacc, hsm, hown, hx⟩ := hrel
      have HG := Lib.hid hgk
      have HO := Lib.hid hown
      have HX := Lib.hid hx
      have HSM := Lib.hid hsm
      clear hown hx hgk hsm
      by_cases hlt : k < s.size
      · obtain ⟨hn64, hn35⟩ := HNO.out k hlt
        by_cases h1 : (s[k].toNat : Int) = 32 ∨ (s[k].toNat : Int) = 10
        · have t : ((s[k].toNat : Int) == 32) = true ∨ (((s[k].toNat : Int) == 32) = false ∧ ((s[k].toNat : Int) == 10) = true) := by
            by_cases h : (s[k].toNat : Int) = 32
            · exact Or.inl (by simp [h])
            · exact Or.inr ⟨by simp [h], by rcases h1 with h1 | h1; exact absurd h1 h; simp [h1]⟩
          clear h1 hn64 hn35
          rcases t with t | ⟨t, t2⟩
          all_goals
            go_wp2_with fail
            go_roundg (s.size - (k + 1))
            case measure => have := HG.out; omega
            case rel => exact ⟨k + 1, acc, by omega, rfl, by go_num, hacc, HSM.out, HO.out, HX.out⟩
        · have t1 : ((s[k].toNat : Int) == 32) = false := by simp; omega
          have t2 : ((s[k].toNat : Int) == 10) = false := by simp; omega
          have t3 : ((s[k].toNat : Int) == 35) = false := by simpa using hn35
          have HT := Lib.hid (rtoken_some s k · hs hlt hn64)
          clear h1 hn64 hn35
          obtain ⟨a, c, rfl, hrows⟩ := IsRows.of_owns (f := tokCells) (fun _ => rfl) HO.out
          clear hrows
          go_wp2_with fail
          refine (HT.out _).mono ?_
          rintro r w1 ⟨T, n, er, rfl, hTs, hnx, hw1⟩
          have HNX := Lib.hid hnx
          have HX1 := Lib.hid ((HX.out.trans hw1).alloc (.cells #[.int .i64 T.kind, .string T.text, .int .i64 T.num, .int .i64 T.pos] 73))
          have HOW := Lib.hid ((owns_ext HO.out hw1).alloc (.cells #[.int .i64 T.kind, .string T.text, .int .i64 T.num, .int .i64 T.pos] 73))
          have HBT := Lib.hid (alloc_new w1 (.cells #[.int .i64 T.kind, .string T.text, .int .i64 T.num, .int .i64 T.pos] 73))
          have hz1 := hw1.size
          have hzz := HX.out.size
          clear hnx hw1 HT HX HO
          unfold tokV
          go_upto_region 12 with fail
          generalize w1.alloc (.cells #[.int .i64 T.kind, .string T.text, .int .i64 T.num, .int .i64 T.pos] 73) = w2 at *
          obtain ⟨q0, q1, q2, q3, qf⟩ := blk4 HBT.out
          have hq := blk_lt HBT.out
          by_cases h3 : er = 0
          · obtain ⟨b1, b2⟩ := HNX.out h3
            have t4 : (er != 0) = false := by simp [h3]
            clear h3 HNX
            by_cases h4 : acc.length = 4000
            · have t5 : ((acc.length : Int) == 4000) = true := by simp [h4]
              clear h4
              go_wp2_with fail
              go_ret3
              exact rscanQ_nil HX1.out
            · have t5 : ((acc.length : Int) == 4000) = false := by simp; omega
              have cs : ((T.kind == 2) = false ∨ ((T.kind == 2) = true ∧ ¬ n < s.size)) ∨ ((T.kind == 2) = true ∧ ∃ hn : n < s.size, (letterB (s[n].toNat : Int) = true ∨ (letterB (s[n].toNat : Int) = false ∧ ((s[n].toNat : Int) == 45) = true)) ∨ (letterB (s[n].toNat : Int) = false ∧ ((s[n].toNat : Int) == 45) = false)) := by
                cases h5 : T.kind == 2
                · exact Or.inl (Or.inl rfl)
                · by_cases h6 : n < s.size
                  · refine Or.inr ⟨rfl, h6, ?_⟩
                    cases letterB (s[n].toNat : Int) <;> cases ((s[n].toNat : Int) == 45) <;> simp
                  · exact Or.inl (Or.inr ⟨rfl, h6⟩)
              have hL := Lib.hid (show (acc ++ [T]).length = acc.length + 1 by simp)
              have hF := Lib.hid (show (acc ++ [T]).flatMap tokCells = acc.flatMap tokCells ++ [.int .i64 T.kind, .string T.text, .int .i64 T.num, .int .i64 T.pos] by simp [tokCells])
              have HS2 := Lib.hid (show ∀ t ∈ acc ++ [T], t.text.size ≤ 1000000000000000 from fun t ht => by
                rcases List.mem_append.1 ht with h | h
                · exact HSM.out t h
                · rw [List.mem_singleton.1 h]; omega)
              rcases cs with (t6 | ⟨t6, t7⟩) | ⟨t6, t7, (t8 | ⟨t8, t9⟩) | ⟨t8, t9⟩⟩
              case' inl.inl => go_upto_region 18 with fail
              case' inl.inr => go_upto_region 18 with fail
              case' inr.inl.inl =>
                have T8 := Lib.hid t8
                clear t8
                go_wp2_with fail
                refine (rletter_calls _ _).mono ?_
                rintro r w' ⟨rfl, rfl⟩
                rw [T8.out]
                go_wp2_with fail
                go_ret3
                exact rscanQ_nil HX1.out
              case' inr.inl.inr =>
                have T8 := Lib.hid t8
                clear t8
                go_wp2_with fail
                refine (rletter_calls _ _).mono ?_
                rintro r w' ⟨rfl, rfl⟩
                rw [T8.out]
                go_wp2_with fail
                go_ret3
                exact rscanQ_nil HX1.out
              case' inr.inr =>
                have T8 := Lib.hid t8
                clear t8
                go_wp2_with fail
                refine (rletter_calls _ _).mono ?_
                rintro r w' ⟨rfl, rfl⟩
                rw [T8.out]
                go_upto_region 18 with fail
              all_goals
                go_wp2_with (at_builtin; refine wpList_append_new elemTok rfl _ _ rfl w.heap.size _ _ _ rfl HOW.out _ 1 1 rfl ?c0 rfl ?c1 ?c2 ?c3 ?c4 ?_)
                case c0 => simp
                case c1 => simp [Value.oneCell']
                case c2 => simp only [maxLen]; omega
                case c3 => omega
                case c4 => omega
                intro v2 w3 hown2 hgrow2
                have HX3 := Lib.hid (HX1.out.grown hgrow2 (owns_base HOW.out))
                have HO3 := Lib.hid hown2
                clear hown2 hgrow2 q0 q1 q2 q3 qf hq
                go_wp2_with fail
                go_roundg (s.size - n)
                case measure => have := HG.out; omega
                case rel => exact ⟨n, acc ++ [T], by omega, rfl, rfl, by rw [hL.out]; omega, HS2.out, by rw [hL.out, hF.out]; exact HO3.out, HX3.out⟩
          · have t4 : (er != 0) = true := by simpa using h3
            clear h3
            go_wp2_with fail
            go_ret3
            exact rscanQ_nil HX1.out
      · obtain ⟨a, c, rfl, hrows⟩ := IsRows.of_owns (f := tokCells) (fun _ => rfl) HO.out
        have HRR := Lib.hid hrows
        clear hrows
        go_wp2_with fail
        go_ret3
        exact ⟨acc, a, acc.length, c, 0, 0, rfl, HRR.out, HSM.out, hacc, HX.out⟩
end Go.Proofs.YtaepiiediblleaaGreatDoor
