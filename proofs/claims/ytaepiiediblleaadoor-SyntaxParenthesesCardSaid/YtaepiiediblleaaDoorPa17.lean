/-
  Texts of the claim, joined: Par2.
-/
import Derived.Test.YtaepiiediblleaaDoorPa13
import Derived.Test.YtaepiiediblleaaDoorPa16
import Derived.Deep.DeepCutAuto
import Derived.Deep.LoopGhost
namespace Go.Proofs.YtaepiiediblleaaDoor
open Go.RowKit

theorem lexpr_fine2 (la : Option Addr) (ln lc : Nat) (w : World) (hi : IntsAt w la ln) (hl : ln ≤ 1000000000000000) :
    Calls Tryd.prog 8 #[.slice la ln lc] w (fun e w' => ∃ (x : Ex) (v : ExV), e = .returned v.val ∧ Fine 4 x ∧ x.args.length ≤ 3 ∧ (∀ y ∈ x.args, Fine 3 y) ∧ IsEx w' x v.val ∧ Ext w w') := by
  refine (lexpr_calls la ln lc w hi hl [] (by simp)).mono ?_
  rintro e w' ⟨x, v, attrs, rfl, hat, hm, hix, hx⟩
  exact ⟨x, v, rfl, made_fine hat 4 x hm, (made_args hat hm).1, (made_args hat hm).2, hix.mono (mask_sub _ _), hx⟩
theorem format_fine3 {e : Ex} (hf : Fine 3 e) (ev : Value) (w : World) (he : IsEx w e ev) : Calls Tryd.prog 9 #[ev] w (JoinQ (fmtB e) 0 w) := by
  have b := bound4
  have h1 := hf.size; have h2 := hf.depth; have h3 := hf.len; have h4 := hf.wt
  have h5 := pcsB_joinPc_le (tokE e) true
  exact format_calls e ev w he hf.ok (by omega) (by omega) (by omega) (by unfold fmtB fmtPc; omega)
theorem fmtB_len3 {e : Ex} (hf : Fine 3 e) : (fmtB e).length ≤ 1475 := by
  have b := bound4
  have h4 := hf.wt
  have h5 := pcsB_joinPc_le (tokE e) true
  unfold fmtB fmtPc; omega
theorem parse_text {l : List Pc} {e : Ex} {ts : List Tok} (h : TextOf l e ts) (h1 : e.size ≤ 300) (h2 : e.depth ≤ 16) (w : World) (ho : HasOps w) : Calls Tryd.prog 10 #[bstr (pcsB l)] w (ParseQ e 0 [] w) :=
  Parse_ok ⟨(pcsB l).toArray⟩ ts e w ho (by have := h.bytes; simp [ByteArray.size]; omega) (no64_pcs h.good) h.scan (by have := h.len; omega) h.text (tokensF_ok h.gr h1 h2) [] (by simp)
theorem parN_str (n : Nat) (l : List Pc) : (⟨#[40]⟩ ++ ⟨(pcsB (parN n l)).toArray⟩ ++ ⟨#[41]⟩ : ByteArray) = ⟨(pcsB (parN (n + 1) l)).toArray⟩ := by
  show ba [40] ++ ba (pcsB (parN n l)) ++ ba [41] = ba (pcsB (parN (n + 1) l))
  rw [ba_app, ba_app, parN, pcsB_append, pcsB_append]
  rfl
def wordB8 (op : Int) : List UInt8 := if op = 7 then [32, 97, 110, 100, 32] else [32, 111, 114, 32]
theorem wordB8_eq (op : Int) : pcsB [.sp, .tk (wordT op), .sp] = wordB8 op := by
  unfold wordB8 wordT; split <;> rfl
theorem par_str (T u : List UInt8) : (⟨T.toArray⟩ ++ ⟨#[40]⟩ ++ ⟨u.toArray⟩ ++ ⟨#[41]⟩ : ByteArray) = ⟨(T ++ (40 :: (u ++ [41]))).toArray⟩ := by
  show ba T ++ ba [40] ++ ba u ++ ba [41] = ba _
  simp only [ba_app]
  congr 1
  simp
theorem parPc_bytes (a : Ex) : pcsB (parPc a) = 40 :: (fmtB a ++ [41]) := by
  rw [parPc, pcsB_append, pcsB_append]; rfl
theorem args_step {op : Int} {l : List Ex} {k : Nat} (hk : k < l.length) : pcsB (argsPc op (l.take (k + 1))) = pcsB (argsPc op (l.take k)) ++ (if k = 0 then [] else wordB8 op) ++ (40 :: (fmtB l[k] ++ [41])) := by
  have e1 : l.take (k + 1) = l.take k ++ [l[k]] := by simp
  rw [e1, argsPc_snoc, pcsB_append, pcsB_append, parPc_bytes, List.length_take, Nat.min_eq_left (by omega)]
  by_cases h : k = 0
  · rw [if_pos h, if_pos h]; simp [pcsB]
  · rw [if_neg h, if_neg h, wordB8_eq]; simp
theorem args_take_len {op : Int} {l : List Ex} (h3 : l.length ≤ 3) (hf : ∀ x ∈ l, Fine 3 x) (k : Nat) : (pcsB (argsPc op (l.take k))).length ≤ 4455 := by
  have hf2 : ∀ x ∈ l.take k, Fine 3 x := fun x hx => hf x (List.mem_of_mem_take hx)
  have hl : (l.take k).length ≤ 3 := by rw [List.length_take]; omega
  generalize l.take k = m at *
  have b := bound4
  cases m with
  | nil => simp [argsPc, pcsB]
  | cons x r =>
    have mm := more_len op r (fun y hy => hf2 y (List.mem_cons_of_mem _ hy))
    have f2 := parPc_len (hf2 x (by simp))
    rw [argsPc, pcsB_append]
    simp only [List.length_append, List.length_cons] at *
    omega

theorem IsEx.exV_eq {w : World} {e : Ex} {v : ExV} (h : IsEx w e v.val) : ∃ aw nw cw aa na ca, v = ⟨e.op, e.name, aw, nw, cw, e.lo, e.hi, aa, na, ca⟩ ∧ na = e.args.length ∧ ExsD w e.args aa := by
  obtain ⟨aw, nw, cw, aa, na, ca, e1, g1, g2, g3, g4, g5⟩ := h.parts
  refine ⟨aw, nw, cw, aa, na, ca, ?_, g2, g5⟩
  obtain ⟨v1, v2, v3, v4, v5, v6, v7, v8, v9, v10⟩ := v
  simp [ExV.val, exV] at e1
  simp [e1]

set_option maxRecDepth 100000 in
set_option maxHeartbeats 4000000 in
theorem par_calls (l1 : Option Addr) (n1 q1 : Nat) (m : Nat) (w : World) (ho : HasOps w) (h1 : IntsAt w l1 n1) (g1 : n1 ≤ 1000000000000000) (hm : m < 256) :
    Calls Tryd.prog 3 #[.slice l1 n1 q1, .int .u8 m] w (GivesE (.bool true) w) := by
  have HO := Lib.hid ho
  have H1 := Lib.hid h1
  clear ho h1
  go_enter Tryd.func3, Tryd.ntmps3
  go_wp2_with fail
  refine (lexpr_fine2 _ _ _ _ H1.out g1).mono ?_
  rintro r w1 ⟨a, xa, rfl, hfa, hl3, hfs, hia, hx1⟩
  obtain ⟨aw, nw, cw, aa, na, ca, rfl, hna, hxs⟩ := hia.exV_eq
  have HNA := Lib.hid hna
  have HXS := Lib.hid hxs
  clear hna hxs
  have HFA := Lib.hid hfa
  have HFS := Lib.hid hfs
  have HX1 := Lib.hid hx1
  have HXA := Lib.hid ((Ext.refl w1).alloc (.cells #[.int .i64 a.op, .string a.name, .slice aw nw cw, .int .i64 a.lo, .int .i64 a.hi, .slice aa na ca] 26))
  have HBA := Lib.hid (alloc_new w1 (.cells #[.int .i64 a.op, .string a.name, .slice aw nw cw, .int .i64 a.lo, .int .i64 a.hi, .slice aa na ca] 26))
  have HIA := Lib.hid (hia.ext HXA.out)
  have HX2 := Lib.hid (hx1.trans HXA.out)
  have HFEW := Lib.hid (okTree_fits a.size a (Nat.le_refl _) hfa.ok).2
  have hsa : a.size ≤ 121 := hfa.size
  have hda : a.depth ≤ 5 := hfa.depth
  have hlA := fmtB_len hfa
  clear hfa hfs hia hx1 HX1
  have HXS := Lib.hid (ExsD.ext HXA.out _ _ HXS.out)
  unfold ExV.val exV at HIA ⊢
  simp only at HIA ⊢
  go_upto_region 2 with fail
  generalize w1.alloc (.cells #[.int .i64 a.op, .string a.name, .slice aw nw cw, .int .i64 a.lo, .int .i64 a.hi, .slice aa na ca] 26) = W2 at *
  obtain ⟨a0, a1, a2, a3, a4, a5, af⟩ := blk6 HBA.out
  have hla := blk_lt HBA.out
  go_wp2_with fail
  refine (format_fine HFA.out _ _ HIA.out).mono ?_
  rintro r w3 ⟨rfl, hx3⟩
  have HX3 := Lib.hid (HX2.out.trans hx3)
  have HBA := Lib.hid (hx3.blk HBA.out)
  have HIA := Lib.hid (HIA.out.ext hx3)
  have HXS := Lib.hid (ExsD.ext hx3 _ _ HXS.out)
  clear hx3 a0 a1 a2 a3 a4 a5 af hla HX2 HXA
  unfold bstr
  have HL := Lib.hid (show ∀ k, k ≤ 8 → (pcsB (parN k (fmtPc a))).length ≤ 5000 from fun k hk => by rw [parN_len]; unfold fmtB at hlA; omega)
  go_wp2_with fail
  go_loopg [6, 8] 9 (fun g s i wr => ∃ k : Nat, k ≤ m % 9 ∧ g = 9 - k ∧ i = .int .i64 k ∧ s = bstr (pcsB (parN k (fmtPc a))) ∧ w3 = wr)
  case atStart => exact ⟨0, by omega, rfl, rfl, rfl, rfl⟩
  case round =>
    obtain ⟨k, hk, hgk, rfl, rfl, rfl⟩ := hrel
    have HGN := Lib.hid hgk
    clear hgk
    have hk8 : k ≤ 8 := by omega
    have hlk := HL.out k hk8
    unfold bstr
    by_cases hlt : k < m % 9
    · have t1 : decide ((k : Int) < (m : Int) % 9) = true := by simp; omega
      have t2 : decide (k < m % 9) = true := by simp; omega
      have HST := Lib.hid (parN_str k (fmtPc a))
      generalize pcsB (parN k (fmtPc a)) = O at *
      go_wp2_with fail
      go_roundg (9 - (k + 1))
      case measure => have := HGN.out; omega
      case rel => exact ⟨k + 1, by omega, rfl, by go_num, by rw [HST.out]; rfl, rfl⟩
    · have t1 : decide ((k : Int) < (m : Int) % 9) = false := by simp; omega
      have t2 : decide (k < m % 9) = false := by simp; omega
      obtain ⟨ts, hts⟩ := parN_text HFA.out hk8
      have HC := Lib.hid (parse_text hts (by omega) (by omega) w3 (HO.out.ext HX3.out))
      unfold bstr at HC
      generalize pcsB (parN k (fmtPc a)) = O at *
      clear hts HL
      go_wp2_with fail
      refine HC.out.mono ?_
      rintro r w4 ⟨xb, off, rfl, hib, hoff, hx4⟩
      obtain rfl := hoff rfl
      have HXS := Lib.hid (ExsD.ext (hx4.trans ((Ext.refl w4).alloc (.cells xb.cells.toArray 26))) _ _ HXS.out)
      have hz4 : w1.heap.size < w4.heap.size := blk_lt (hx4.blk HBA.out)
      have HX4 := Lib.hid (HX3.out.trans (hx4.trans ((Ext.refl w4).alloc (.cells xb.cells.toArray 26))))
      have HIB := Lib.hid ((hib.mono (mask_sub _ _)).ext ((Ext.refl w4).alloc (.cells xb.cells.toArray 26)))
      have HIA := Lib.hid ((HIA.out.ext hx4).ext ((Ext.refl w4).alloc (.cells xb.cells.toArray 26)))
      have HBA := Lib.hid (((Ext.refl w4).alloc (.cells xb.cells.toArray 26)).blk (hx4.blk HBA.out))
      have HBB := Lib.hid (alloc_new w4 (.cells xb.cells.toArray 26))
      unfold ExV.val exV
      unfold ExV.cells at HX4 HIB HIA HBA HBB HXS
      clear hib hoff hx4 HC
      go_upto_region 8 with fail
      generalize w4.alloc (.cells [.int .i64 xb.op, .string xb.name, .slice xb.aw xb.nw xb.cw, .int .i64 xb.lo, .int .i64 xb.hi, .slice xb.aa xb.na xb.ca].toArray 26) = W5 at *
      obtain ⟨a0, a1, a2, a3, a4, a5, af⟩ := blk6 HBA.out
      obtain ⟨b0, b1, b2, b3, b4, b5, bf⟩ := blk6 HBB.out
      have hla := blk_lt HBA.out
      have hlb := blk_lt HBB.out
      have HSM := Lib.hid (rsame_calls a.size a a _ _ _ (Nat.le_refl _) (by omega) HIA.out HIB.out HFEW.out)
      by_cases h2 : 2 ≤ na
      · have t3 : decide ((na : Int) < 2) = false := by simp; omega
        have t4 : decide (na < 2) = false := by simp; omega
        go_wp2_with fail
        refine HSM.out.mono ?_
        rintro r w6 ⟨B, rfl, hB, hx6⟩
        obtain rfl : B = true := hB.2 (by simp)
        have HX6 := Lib.hid (HX4.out.trans hx6)
        have HBA := Lib.hid (hx6.blk HBA.out)
        have HIA := Lib.hid (HIA.out.ext hx6)
        have HXS := Lib.hid (ExsD.ext hx6 _ _ HXS.out)
        clear hx6 hB a0 a1 a2 a3 a4 a5 af b0 b1 b2 b3 b4 b5 bf hla hlb HSM HX4 HIB HBB
        have hla := blk_lt HBA.out
        obtain ⟨a0, a1, a2, a3, a4, a5, af⟩ := blk6 HBA.out
        have hop : a.op = 7 ∨ a.op = 8 := by
          obtain ⟨hn, _⟩ := okTree_parts HFA.out.ok
          have hl2 : 2 ≤ a.args.length := by have := HNA.out; omega
          rcases hn with ⟨_, _, _, _, _, h⟩ | ⟨_, _, _, _, _, h⟩ | ⟨_, _, _, _, _, h⟩ | ⟨_, _, _, _, _, h⟩ | ⟨_, _, _, _, _, _, h⟩ | ⟨_, _, _, _, _, h⟩ | ⟨g1, _⟩
          · rw [h] at hl2; simp at hl2
          · rw [h] at hl2; simp at hl2
          · rw [h] at hl2; simp at hl2
          · rw [h] at hl2; simp at hl2
          · rw [h] at hl2; simp at hl2
          · omega
          · exact g1
        have HOP := Lib.hid hop
        clear hop
        go_wp2_with fail
        go_loopg [12, 13] na (fun g t i wr => ∃ k : Nat, k ≤ na ∧ g = na - k ∧ i = .int .i64 k ∧ t = bstr (pcsB (argsPc a.op (a.args.take k))) ∧ Ext w6 wr)
        case atStart => exact ⟨0, by omega, rfl, rfl, rfl, Ext.refl _⟩
        case round =>
          obtain ⟨k, hk, hgk, rfl, rfl, hx⟩ := hrel
          have HGN := Lib.hid hgk
          have HXR := Lib.hid hx
          have HBR := Lib.hid (hx.blk HBA.out)
          have HXSR := Lib.hid (ExsD.ext hx _ _ HXS.out)
          clear hgk hx a0 a1 a2 a3 a4 a5 af hla
          have hla := blk_lt HBR.out
          obtain ⟨a0, a1, a2, a3, a4, a5, af⟩ := blk6 HBR.out
          have hlT := args_take_len (op := a.op) hl3 HFS.out k
          unfold bstr
          by_cases hlt : k < na
          · have hlt' : k < a.args.length := by have := HNA.out; omega
            have t5 : decide ((k : Int) < (na : Int)) = true := by simp; omega
            obtain ⟨b, off, rfl, aw1, nw1, cw1, aa1, na1, ca1, h0, h1, h2, h3, h4, h5, h6⟩ := ExsD.at a.args _ HXSR.out k hlt'
            have H6 := Lib.hid h6
            have HFK := Lib.hid (HFS.out _ (List.getElem_mem hlt'))
            have HST := Lib.hid (args_step (op := a.op) hlt')
            have hlU := fmtB_len3 HFK.out
            clear h6
            go_wp2_with fail
            refine (format_fine3 HFK.out _ _ H6.out).mono ?_
            rintro r w7 ⟨rfl, hx7⟩
            have HX7 := Lib.hid (HXR.out.trans hx7)
            have HB7 := Lib.hid (hx7.blk HBR.out)
            unfold bstr
            clear hx7 h0 h1 h2 h3 h4 h5 a0 a1 a2 a3 a4 a5 af hla H6
            generalize fmtB a.args[k] = U at *
            generalize pcsB (argsPc a.op (a.args.take k)) = T at *
            go_upto_if 83 with fail
            have hla := blk_lt HB7.out
            obtain ⟨a0, a1, a2, a3, a4, a5, af⟩ := blk6 HB7.out
            go_cut [12] (fun s12 wx => s12 = bstr (T ++ (if k = 0 then [] else wordB8 a.op)) ∧ Ext w7 wx)
            case first =>
              by_cases hk0 : k = 0
              · have HK0 := Lib.hid hk0
                have t6 : decide (0 < (k : Int)) = false := by simp; omega
                have t7 : decide (0 < k) = false := by simp; omega
                have p0 : ¬ 0 < k := by omega
                clear hk0
                go_wp2_with fail
                go_meet
                case rel => exact ⟨by rw [if_pos HK0.out, List.append_nil]; rfl, Ext.refl _⟩
              · have HK0 := Lib.hid hk0
                have t6 : decide (0 < (k : Int)) = true := by simp; omega
                have t7 : decide (0 < k) = true := by simp; omega
                have p0 : 0 < k := by omega
                clear hk0
                rcases HOP.out with hop | hop
                · have HW := Lib.hid (show wordB8 a.op = [32, 97, 110, 100, 32] by rw [wordB8, if_pos hop])
                  have HA1 := Lib.hid (app_str T [32, 97, 110, 100, 32])
                  rw [hop] at a0
                  clear hop
                  go_wp2_with fail
                  go_meet
                  case rel => exact ⟨by rw [if_neg HK0.out, HW.out, bstr, ← HA1.out], (Ext.refl _).alloc _⟩
                · have HW := Lib.hid (show wordB8 a.op = [32, 111, 114, 32] by rw [wordB8, if_neg (by omega)])
                  have HA1 := Lib.hid (app_str T [32, 111, 114, 32])
                  rw [hop] at a0
                  clear hop
                  go_wp2_with fail
                  go_meet
                  case rel => exact ⟨by rw [if_neg HK0.out, HW.out, bstr, ← HA1.out], (Ext.refl _).alloc _⟩
            case rest =>
            obtain ⟨rfl, hxc⟩ := hcut
            have HXC := Lib.hid (HX7.out.trans hxc)
            have hwl : (wordB8 a.op).length ≤ 5 := by unfold wordB8; split <;> simp
            have hl8 : (T ++ (if k = 0 then [] else wordB8 a.op)).length ≤ 5000 := by
              rw [List.length_append]
              split
              · simp; omega
              · omega
            have HPS := Lib.hid (par_str (T ++ (if k = 0 then [] else wordB8 a.op)) U)
            unfold bstr
            generalize (T ++ (if k = 0 then [] else wordB8 a.op)) = T2 at *
            clear hxc a0 a1 a2 a3 a4 a5 af hla
            go_wp2_with fail
            go_roundg (na - (k + 1))
            case measure => have := HGN.out; omega
            case rel => exact ⟨k + 1, by omega, rfl, by go_num, by rw [HST.out, bstr, ← HPS.out], HXC.out⟩
          · have t5 : decide ((k : Int) < (na : Int)) = false := by simp; omega
            have hkn := Lib.hid (show a.args.take k = a.args from List.take_of_length_le (by have := HNA.out; omega))
            obtain ⟨ts, hts⟩ := args_text HFA.out (by have := HNA.out; omega) hl3 HFS.out
            have HC := Lib.hid (parse_text hts (by omega) (by omega) wr (HO.out.ext (HX6.out.trans HXR.out)))
            unfold bstr at HC
            rw [hkn.out] at hlT ⊢
            generalize pcsB (argsPc a.op a.args) = O at *
            clear hts
            go_wp2_with fail
            refine HC.out.mono ?_
            rintro r w7 ⟨xc, off, rfl, hic, hoff, hx7⟩
            obtain rfl := hoff rfl
            have hz7 : w1.heap.size < w7.heap.size := blk_lt (hx7.blk HBR.out)
            have HX8 := Lib.hid ((HX6.out.trans HXR.out).trans (hx7.trans ((Ext.refl w7).alloc (.cells xc.cells.toArray 26))))
            have HIC := Lib.hid ((hic.mono (mask_sub _ _)).ext ((Ext.refl w7).alloc (.cells xc.cells.toArray 26)))
            have HIA2 := Lib.hid (((HIA.out.ext HXR.out).ext hx7).ext ((Ext.refl w7).alloc (.cells xc.cells.toArray 26)))
            have HBA2 := Lib.hid (((Ext.refl w7).alloc (.cells xc.cells.toArray 26)).blk (hx7.blk HBR.out))
            have HBC := Lib.hid (alloc_new w7 (.cells xc.cells.toArray 26))
            unfold ExV.val exV
            unfold ExV.cells at HX8 HIC HIA2 HBA2 HBC
            clear hic hoff hx7 HC a0 a1 a2 a3 a4 a5 af hla
            go_upto_region 19 with fail
            generalize w7.alloc (.cells [.int .i64 xc.op, .string xc.name, .slice xc.aw xc.nw xc.cw, .int .i64 xc.lo, .int .i64 xc.hi, .slice xc.aa xc.na xc.ca].toArray 26) = W8 at *
            obtain ⟨a0, a1, a2, a3, a4, a5, af⟩ := blk6 HBA2.out
            obtain ⟨b0, b1, b2, b3, b4, b5, bf⟩ := blk6 HBC.out
            have hla := blk_lt HBA2.out
            have hlb := blk_lt HBC.out
            have HSM := Lib.hid (rsame_calls a.size a a _ _ _ (Nat.le_refl _) (by omega) HIA2.out HIC.out HFEW.out)
            go_wp2_with fail
            refine HSM.out.mono ?_
            rintro r w9 ⟨B, rfl, hB, hx9⟩
            obtain rfl : B = true := hB.2 (by simp)
            have HX9 := Lib.hid (HX8.out.trans hx9)
            clear hx9 hB a0 a1 a2 a3 a4 a5 af b0 b1 b2 b3 b4 b5 bf
            go_wp2_with fail
            refine (awake_calls _ (HO.out.ext HX9.out)).mono ?_
            rintro r w10 ⟨rfl, hx10⟩
            go_wp2_with fail
            go_ret
            exact ⟨rfl, HX9.out.trans hx10⟩
      · have t3 : decide ((na : Int) < 2) = true := by simp; omega
        have t4 : decide (na < 2) = true := by simp; omega
        go_wp2_with fail
        refine HSM.out.mono ?_
        rintro r w6 ⟨B, rfl, hB, hx6⟩
        obtain rfl : B = true := hB.2 (by simp)
        have HX6 := Lib.hid (HX4.out.trans hx6)
        have HBA := Lib.hid (hx6.blk HBA.out)
        have HBB := Lib.hid (hx6.blk HBB.out)
        have HIA := Lib.hid (HIA.out.ext hx6)
        have HIB := Lib.hid (HIB.out.ext hx6)
        clear hx6 hB a0 a1 a2 a3 a4 a5 af b0 b1 b2 b3 b4 b5 bf hla hlb HSM HX4
        have hla := blk_lt HBA.out
        have hlb := blk_lt HBB.out
        obtain ⟨a0, a1, a2, a3, a4, a5, af⟩ := blk6 HBA.out
        obtain ⟨b0, b1, b2, b3, b4, b5, bf⟩ := blk6 HBB.out
        have HSM := Lib.hid (rsame_calls a.size a a _ _ _ (Nat.le_refl _) (by omega) HIA.out HIB.out HFEW.out)
        go_wp2_with fail
        refine HSM.out.mono ?_
        rintro r w7 ⟨B, rfl, hB, hx7⟩
        obtain rfl : B = true := hB.2 (by simp)
        have HX7 := Lib.hid (HX6.out.trans hx7)
        clear hx7 hB a0 a1 a2 a3 a4 a5 af b0 b1 b2 b3 b4 b5 bf
        go_wp2_with fail
        refine (awake_calls _ (HO.out.ext HX7.out)).mono ?_
        rintro r w8 ⟨rfl, hx8⟩
        go_wp2_with fail
        go_ret
        exact ⟨rfl, HX7.out.trans hx8⟩
end Go.Proofs.YtaepiiediblleaaDoor
