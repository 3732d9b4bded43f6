/-
  Texts of the claim, joined: Defd, GrowG.
-/
import Derived.Test.YtfjlglefodndjaaCe18
import Derived.Test.YtfjlglefodndjaaCe08
import Derived.Test.YtfjlglefodndjaaCe04
import Derived.Test.YtfjlglefodndjaaCe12
import Derived.Test.YtfjlglefodndjaaCe02
import Derived.Deep.DeepCutAuto
import Derived.Test.YtfjlglefodndjaaCe06
namespace Go.Proofs.Ytfjlglefodndjaa
open Go.RowKit

theorem elemCla : ElemT 23 36 (.agg #[.int .i64 0, .string ⟨#[]⟩, .int .i64 0, .string ⟨#[]⟩, .slice none 0 0, .int .i64 0, .int .i64 0, .slice none 0 0, .slice none 0 0, .int .i64 0]) 10 144 := ⟨by kernel_rfl, by kernel_rfl, rfl, by decide⟩
/-- A name of one byte. -/
def Nm1 (s : ByteArray) : Prop := ∃ b : UInt8, s = ⟨#[b]⟩
/-- The conditions that defined makes. -/
def CondOk (e : Ex) : Prop := e = exTrue ∨ (∃ s, Nm1 s ∧ e = exNm s) ∨ ∃ ns : List ByteArray, (∀ s ∈ ns, Nm1 s) ∧ ns.length ≤ 3 ∧ e = .mk 7 ⟨#[]⟩ [] 0 0 (ns.map exNm)
def DfnOk (c : Cla) : Prop := (c.kind = 1 ∨ c.kind = 2) ∧ Nm1 c.name ∧ CondOk c.cond ∧ c.unl = [] ∧ c.amount = 0
/-- Clauses and their cells. -/
def ClasR (w : World) (l : List Cla) (vs : List ClV) : Prop := l.length = vs.length ∧ ∀ i (h1 : i < l.length) (h2 : i < vs.length), IsCla w l[i] vs[i]
theorem ClasR.mono {w w' : World} {l : List Cla} {vs : List ClV} (h : ClasR w l vs) (hs : Sub w w') : ClasR w' l vs := ⟨h.1, fun i h1 h2 => (h.2 i h1 h2).mono hs⟩
theorem ClasR.snoc {w : World} {l : List Cla} {vs : List ClV} {c : Cla} {v : ClV} (h : ClasR w l vs) (hc : IsCla w c v) : ClasR w (l ++ [c]) (vs ++ [v]) := by
  refine ⟨by simp [h.1], fun i h1 h2 => ?_⟩
  by_cases hi : i < l.length
  · have hi2 : i < vs.length := by rw [← h.1]; exact hi
    simp only [List.getElem_append_left hi, List.getElem_append_left hi2]
    exact h.2 i hi hi2
  · have e1 : i = l.length := by simp at h1; omega
    subst e1
    simp only [List.getElem_append_right (Nat.le_refl _), List.getElem_append_right (show vs.length ≤ l.length by rw [h.1]; exact Nat.le_refl _), Nat.sub_self, List.getElem_cons_zero]
    simpa [h.1] using hc
/-- Clauses in a row that the call owns. -/
theorem clas_owns {w : World} {M : List Nat} {base : Nat} {v : Value} {l : List Cla} {vs : List ClV} (h : w.ownsRow base 36 10 v l.length (vs.flatMap ClV.cells)) (hM : ∀ k, v.ownBlock = some k → k ∉ M) (hR : ClasR (mask w M) l vs) :
    ∃ a c, v = .slice a l.length c ∧ IsClas (mask w M) l a l.length c := by
  rw [hR.1] at h
  obtain ⟨a, c, rfl, hr⟩ := IsRows.of_owns ClV.len h
  refine ⟨a, c, by rw [hR.1], vs, ?_, hR.1, hR.2⟩
  refine ⟨hR.1, by rw [hR.1]; exact hr.2.1, hr.2.2.1, fun i hi => ?_⟩
  obtain ⟨b, off, e, hc⟩ := hr.2.2.2 i hi
  subst e
  refine ⟨b, off, rfl, fun j hj => ?_⟩
  rw [mask_cell, if_neg (hM b rfl)]
  exact hc j hj
def xvNs (ns : List ByteArray) : List ExV := ns.map xvN
/-- The clause that is being made, in its box. -/
def BoxC (w wr : World) (bd bc : Nat) (N : List Nat) (wx : World) : Prop := ∃ (c : ClV) (e : Ex), wx.heap[bc]? = some (.cells c.cells.toArray 36 (0, 0)) ∧ (c.kind = 1 ∨ c.kind = 2) ∧ Nm1 c.name ∧ CondOk e ∧ IsEx (mask wx (bd :: bc :: N)) e c.x.val ∧ c.au = none ∧ c.nu = 0 ∧ c.cu = 0 ∧ c.amount = 0 ∧ Chg [bd] wr wx ∧ DeckAt w wx bd
/-- What is made after k clauses. -/
def DefL (w : World) (bd : Nat) (v i : Value) (wr : World) : Prop := ∃ (k : Nat) (l : List Cla) (vs : List ClV), k ≤ 9 ∧ i = .int .i64 k ∧ l.length = k ∧ (∀ c ∈ l, DfnOk c) ∧ wr.ownsRow w.heap.size 36 10 v k (vs.flatMap ClV.cells) ∧ ClasR (mask wr ([bd] ++ rowOf v)) l vs ∧ DeckAt w wr bd ∧ bd ∉ rowOf v
/-- The arguments that are being made. -/
def ArgL (w wa : World) (bd : Nat) (v i : Value) (wr : World) : Prop := ∃ (ns : List ByteArray) (j : Int), i = .int .i64 j ∧ 0 ≤ j ∧ j + ns.length ≤ 3 ∧ (∀ s ∈ ns, Nm1 s) ∧ wr.ownsRow wa.heap.size 33 6 v ns.length ((xvNs ns).flatMap ExV.cells) ∧ DeckAt w wr bd ∧ Chg [bd] wa wr
/-- The clause in its box, and the row of its arguments. -/
def BoxR (w wr : World) (bd bc : Nat) (N : List Nat) (base : Nat) (ns : List ByteArray) (aa : Option Addr) (ac : Nat) (wx : World) : Prop := BoxC w wr bd bc N wx ∧ wx.ownsRow base 33 6 (.slice aa ns.length ac) ns.length ((xvNs ns).flatMap ExV.cells)
theorem BoxC.step {w wr wx wy : World} {bd bc : Nat} {N : List Nat} (h : BoxC w wr bd bc N wx) (hc : Chg [bd] wx wy) (hd : DeckAt w wy bd) (hne : bd ≠ bc) : BoxC w wr bd bc N wy := by
  obtain ⟨c, e, h1, h2, h3, h4, h5, h6, h7, h8, h9, h10, h11⟩ := h
  refine ⟨c, e, hc.blk h1 (by simpa using fun h => hne h.symm), h2, h3, h4, h5.mono (mask_sub_mask fun k hk hn => ⟨hn, hc.block k hk fun hm => hn (by simp only [List.mem_singleton] at hm; simp [hm])⟩), h6, h7, h8, h9, h10.then hc, hd⟩
theorem exs_names {w : World} (ns : List ByteArray) : ExsR w (ns.map exNm) (xvNs ns) := by
  refine ⟨by simp [xvNs], fun i h1 h2 => ?_⟩
  simp only [List.getElem_map, xvNs]
  exact isEx_plain w 3 0 0 _
def DefQ (w : World) (e : Ending) (w' : World) : Prop := ∃ l a n c, e = .returned (.slice a n c) ∧ IsClas w' l a n c ∧ (∀ x ∈ l, DfnOk x) ∧ l.length ≤ 9 ∧ Ext w w'
set_option maxRecDepth 100000 in
set_option maxHeartbeats 4000000 in
theorem defined_calls (la : Option Addr) (ln lc : Nat) (w : World) (h : IntsAt w la ln) (hl : ln ≤ 1000000000000000) : Calls Try.prog 5 #[.slice la ln lc] w (DefQ w) := by
  have HI := Lib.hid h
  clear h
  go_enter Try.func5, Try.ntmps5
  go_wp2_with fail
  refine (new_calls la ln lc w HI.out hl).mono ?_
  rintro r w1 ⟨bd, rfl, hd, hx, hbd⟩
  have HD := Lib.hid hd
  clear hd hx
  go_wp2_with fail
  refine (next_calls HD.out 9 (by omega) (by omega)).mono ?_
  rintro r w2 ⟨n0, rfl, hn0, hn9, hd2, hc2⟩
  have HD2 := Lib.hid hd2
  clear hd2 hc2 HD
  go_wp2_with fail
  go_loopw [4, 6] (DefL w bd) (fun _ i _ => (1 + n0 - intOf i).toNat)
  case atStart => exact ⟨0, [], [], by omega, rfl, rfl, by simp, World.ownsRow_nil _ _ _ _, ⟨rfl, fun i h => by simp at h⟩, HD2.out, by simp [rowOf, Value.ownBlock]⟩
  case round =>
    obtain ⟨k, l, vs, hk, rfl, hlk, hok, hown, hR, hdk, hbr⟩ := hrel
    obtain ⟨wo, rfl⟩ : ∃ wo : World, wo = wr := ⟨_, rfl⟩
    have HDK := Lib.hid hdk
    have HLK := Lib.hid hlk
    have HOK := Lib.hid hok
    have HOW := Lib.hid hown
    have HR := Lib.hid hR
    have HBR := Lib.hid hbr
    obtain ⟨va, vc, hv⟩ := owns_form hown
    subst hv
    obtain ⟨la', ln', lc', kd, hdb, _⟩ := hdk
    have hbdw := blk_lt hdb
    clear HD2 hlk hok hown hR hbr hdb
    by_cases hkn : (k : Int) < 1 + n0
    · have t1 : decide ((k : Int) < 1 + n0) = true := by simp; omega
      have kc := conv_byte
      go_wp2_with fail
      clear kc
      obtain ⟨wa, hwa⟩ : ∃ wa, wa = (wo.alloc (Obj.cells #[Value.int .u8 (97 + (k : Int))] 5)).alloc (Obj.cells #[.int .i64 1, .string ⟨#[97 + UInt8.ofNat k]⟩, .int .i64 1, .string ⟨#[]⟩, .slice none 0 0, .int .i64 0, .int .i64 0, .slice none 0 0, .slice none 0 0, .int .i64 0] 36) := ⟨_, rfl⟩
      rw [← hwa]
      have hxa : Ext wo wa := by rw [hwa]; exact ((Ext.refl _).alloc _).alloc _
      obtain ⟨bc, hbc⟩ : ∃ bc, bc = wo.heap.size + 1 := ⟨_, rfl⟩
      rw [← hbc]
      have hbca : wa.heap[bc]? = some (.cells #[.int .i64 1, .string ⟨#[97 + UInt8.ofNat k]⟩, .int .i64 1, .string ⟨#[]⟩, .slice none 0 0, .int .i64 0, .int .i64 0, .slice none 0 0, .slice none 0 0, .int .i64 0] 36 (0, 0)) := by rw [hwa, hbc]; exact alloc_at2 (by simp)
      have HBC := Lib.hid hbca
      have HXA := Lib.hid hxa
      have hza := hxa.size
      have hne : bd ≠ bc := by omega
      have hbcr : wo.heap.size ≤ bc := by omega
      clear hwa hbca hbc hxa
      refine (next_calls (HDK.out.ext HXA.out) 8 (by omega) (by omega)).mono ?_
      rintro r w3 ⟨r3, rfl, hr30, hr38, hd3, hc3⟩
      have hb3 := hc3.blk HBC.out (by simp; omega)
      have HB3 := Lib.hid hb3
      have HD3 := Lib.hid hd3
      have HC3 := Lib.hid (((HXA.out.chg [bd]).then hc3))
      have hz3 := HC3.out.size
      clear hd3 hc3 hb3 HBC HXA HDK hza
      go_upto_if 29 with fail
      go_cut [] (BoxC w wo bd bc (rowOf (.slice va k vc)))
      case first =>
        obtain ⟨b0, b1, b2, b3, b4, b5, b6, b7, b8, b9, bf⟩ := blk10 HB3.out
        have hlt3 := blk_lt HB3.out
        by_cases h7 : r3 = 7
        · have t7 : (r3 == 7) = true := by simp [h7]
          clear h7
          go_wp2_with fail
          go_meet
          case rel =>
            refine ⟨⟨1, nmA, xvT, none, 0, 0, 0⟩, exTrue, ?_, Or.inl rfl, ⟨97, rfl⟩, Or.inl rfl, isEx_plain _ 1 0 0 ⟨#[]⟩, rfl, rfl, rfl, rfl, HC3.out.setCell (Or.inr hbcr) _, ?_⟩
            · have := heap_setCell_same w3 bc 1 _ _ (.string ⟨#[97]⟩) HB3.out
              simp at this
              exact this
            · exact HD3.out.chg ((Chg.refl [bc] w3).setCell (Or.inl (by simp)) _) (by simpa using hne) (by simp; omega)
        · have t7 : (r3 == 7) = false := by simp [h7]
          clear h7
          go_wp2_with fail
          go_meet
          case rel => exact ⟨⟨1, ⟨#[97 + UInt8.ofNat k]⟩, xvT, none, 0, 0, 0⟩, exTrue, HB3.out, Or.inl rfl, ⟨_, rfl⟩, Or.inl rfl, isEx_plain _ 1 0 0 ⟨#[]⟩, rfl, rfl, rfl, rfl, HC3.out, HD3.out⟩
      case rest =>
        obtain ⟨wx, rfl⟩ : ∃ wx : World, wx = wc := ⟨_, rfl⟩
        obtain ⟨c4, e4, hb4, hk4, hn4, he4, hx4, hu4, hu4', hu4'', ha4, hc4, hd4⟩ := hcut
        have HB4 := Lib.hid hb4
        have HK4 := Lib.hid hk4
        have HN4 := Lib.hid hn4
        have HE4 := Lib.hid he4
        have HX4 := Lib.hid hx4
        have HU4 := Lib.hid (show c4.au = none ∧ c4.nu = 0 ∧ c4.cu = 0 ∧ c4.amount = 0 from ⟨hu4, hu4', hu4'', ha4⟩)
        have HC4 := Lib.hid hc4
        have HD4 := Lib.hid hd4
        have hz4 := hc4.size
        clear hb4 hk4 hn4 he4 hx4 hu4 hu4' hu4'' ha4 hc4 hd4 HB3 HD3 HC3
        go_wp2_with fail
        refine (next_calls HD4.out 4 (by omega) (by omega)).mono ?_
        rintro r w5 ⟨r5, rfl, hr50, hr54, hd5, hc5⟩
        have HD5 := Lib.hid hd5
        have HC5 := Lib.hid hc5
        have hz5 := hc5.size
        clear hd5 hc5
        go_wp2_with fail
        go_loopw [8, 9] (ArgL w w5 bd) (fun _ i _ => (intOf i).toNat)
        case atStart => exact ⟨[], r5, rfl, hr50, by simp; omega, by simp, World.ownsRow_nil _ _ _ _, HD5.out, Chg.refl _ _⟩
        case round =>
          obtain ⟨ns, j, rfl, hj0, hj3, hns, hown, hdk, hca⟩ := hrel
          have HNS := Lib.hid hns
          have HOA := Lib.hid hown
          have HDA := Lib.hid hdk
          have HCA := Lib.hid hca
          have hzw := hca.size
          obtain ⟨aa, ac, hv⟩ := owns_form hown
          subst hv
          clear hns hown hdk hca HD5
          by_cases hjp : 0 < j
          · have tj : decide (0 < j) = true := by simp [hjp]
            have kc := conv_byte
            go_wp2_with fail
            refine (next_calls HDA.out _ (by omega) (by omega)).mono ?_
            rintro r w6 ⟨r6, rfl, hr60, hr61, hd6, hc6⟩
            have HD6 := Lib.hid hd6
            have HC6 := Lib.hid hc6
            have hz6 := hc6.size
            have HOA6 := Lib.hid (owns_chg HOA.out hc6 (fun q hq hm => by
              have h1 := (HOA.out.lt q hq).1
              simp only [List.mem_singleton] at hm
              omega))
            clear hd6 hc6
            go_wp2_with (at_builtin; refine wpList_append_at elemEx rfl _ _ rfl w5.heap.size _ ns.length _ rfl (HOA6.out.alloc _) _ 1 1 rfl ?e0 rfl ?e1 ?e2 ?e3 ?e4 ?_)
            case e0 => simp
            case e1 => simp [Value.oneCell']
            case e2 => unfold maxLen; omega
            case e3 => omega
            case e4 => simp; omega
            intro v7 w7 hown7 hc7 hw7
            obtain ⟨s7, hs7, hown7⟩ : ∃ s, Nm1 s ∧ w7.ownsRow w5.heap.size 33 6 v7 (ns ++ [s]).length ((xvNs (ns ++ [s])).flatMap ExV.cells) := ⟨_, ⟨_, rfl⟩, by simpa [xvNs, xvN, ExV.cells] using hown7⟩
            have HO7 := Lib.hid hown7
            have HNS7 := Lib.hid (show ∀ s ∈ ns ++ [s7], Nm1 s by
              intro s hs
              rcases List.mem_append.1 hs with h | h
              · exact HNS.out s h
              · simp at h; subst h; exact hs7)
            have hc67 : Chg (rowOf (.slice aa ns.length ac)) w6 w7 := (((Ext.refl w6).alloc _).chg _).trans hc7 fun x hx => Or.inl hx
            have HC7 := Lib.hid (show Chg [bd] w5 w7 from (HCA.out.then HC6.out).trans hc67 fun q hq => Or.inr (HOA.out.lt q (mem_rowOf.1 hq)).1)
            have HD7 := Lib.hid (HD6.out.chg hc67 (fun hm => by have := (HOA.out.lt bd (mem_rowOf.1 hm)).1; omega) (fun q hq => by have := (HOA.out.lt q (mem_rowOf.1 hq)).1; have := HC4.out.size; omega))
            obtain ⟨a7, c7, hv7⟩ := owns_form hown7
            subst hv7
            clear hown7 hc7 hw7 hs7 hc67 kc
            go_wp2_with fail
            go_roundw
            case rel => exact ⟨ns ++ [s7], j - 1, by go_num, by omega, by simp; omega, HNS7.out, HO7.out, HD7.out, HC7.out⟩
            case measure => simp [intOf]; omega
          · have tj : decide (0 < j) = false := by simp; omega
            have HBX := Lib.hid (show BoxC w wo bd bc (rowOf (.slice va k vc)) wx from ⟨c4, e4, HB4.out, HK4.out, HN4.out, HE4.out, HX4.out, HU4.out.1, HU4.out.2.1, HU4.out.2.2.1, HU4.out.2.2.2, HC4.out, HD4.out⟩)
            have HBY := Lib.hid ((HBX.out.step (HC5.out.then HCA.out) HDA.out hne))
            have hbcx := blk_lt HB4.out
            have hnl : ns.length ≤ 3 := by omega
            have HOAL := Lib.hid (show ∀ q, (Value.slice aa ns.length ac).ownBlock = some q → w5.heap.size ≤ q from fun q hq => (HOA.out.lt q hq).1)
            have HROL := Lib.hid (show ∀ q ∈ rowOf (Value.slice va k vc), q < wo.heap.size from fun q hq => (HOW.out.lt q (mem_rowOf.1 hq)).2)
            clear HB4 HK4 HN4 HE4 HX4 HU4 HBX hjp hj0 hj3 HC5 HCA HC4 HD4 HDA hzw
            go_upto_if 51 with fail
            go_cut [] (BoxR w wo bd bc (rowOf (.slice va k vc)) w5.heap.size ns aa ac)
            case first =>
              by_cases h1 : ns.length = 1
              · have t51 : (((ns.length : Nat) : Int) == 1) = true := by rw [h1]; rfl
                obtain ⟨s1, hs1⟩ : ∃ s1, ns = [s1] := List.length_eq_one_iff.1 h1
                subst hs1
                obtain ⟨c5, e5, hb5, hk5, hn5, he5, hx5, hu5, hu5', hu5'', ha5, hc5, hd5⟩ := HBY.out
                obtain ⟨b0, b1, b2, b3, b4, b5, b6, b7, b8, b9, bf⟩ := blk10 (show wr.heap[bc]? = some (.cells #[.int .i64 c5.kind, .string c5.name, .int .i64 c5.x.op, .string c5.x.name, .slice c5.x.aw c5.x.nw c5.x.cw, .int .i64 c5.x.lo, .int .i64 c5.x.hi, .slice c5.x.aa c5.x.na c5.x.ca, .slice c5.au c5.nu c5.cu, .int .i64 c5.amount] 36 (0, 0)) from hb5)
                have hlt5 := blk_lt hb5
                have HB5 := Lib.hid hb5
                have HK5 := Lib.hid hk5
                have HN5 := Lib.hid hn5
                have HU5 := Lib.hid (show c5.au = none ∧ c5.nu = 0 ∧ c5.cu = 0 ∧ c5.amount = 0 from ⟨hu5, hu5', hu5'', ha5⟩)
                have HC5 := Lib.hid hc5
                have HD5 := Lib.hid hd5
                obtain ⟨g1, hg1, e0, e1, e2, e3, e4', e5'⟩ : ∃ g1, aa = some ⟨g1, 0, none⟩ ∧ wr.cell? ⟨g1, 0, none⟩ = some (.int .i64 3) ∧ wr.cell? ⟨g1, 1, none⟩ = some (.string s1) ∧ wr.cell? ⟨g1, 2, none⟩ = some (.slice none 0 0) ∧ wr.cell? ⟨g1, 3, none⟩ = some (.int .i64 0) ∧ wr.cell? ⟨g1, 4, none⟩ = some (.int .i64 0) ∧ wr.cell? ⟨g1, 5, none⟩ = some (.slice none 0 0) := by
                  have hO := HOA.out
                  rcases hO.2 with ⟨_, h0⟩ | ⟨g, cap, cur, hv, _⟩
                  · simp at h0
                  · simp only [Value.slice.injEq] at hv
                    obtain ⟨rfl, _, rfl⟩ := hv
                    refine ⟨g, rfl, ?_⟩
                    have key : ∀ j, j < 6 → wr.cell? ⟨g, j, none⟩ = ((xvNs [s1]).flatMap ExV.cells)[j]? := fun j hj => hO.cellAt j (by simp; omega)
                    exact ⟨key 0 (by omega), key 1 (by omega), key 2 (by omega), key 3 (by omega), key 4 (by omega), key 5 (by omega)⟩
                subst hg1
                have hgb : g1 ≠ bc := by have := HOAL.out g1 rfl; omega
                clear hb5 hk5 hn5 he5 hx5 hu5 hu5' hu5'' ha5 hc5 hd5 HBY
                go_wp2_with fail
                go_meet
                case rel =>
                  have hcs : Chg [bc] wr ((((((wr.setCell ⟨bc, 2, none⟩ (.int .i64 3)).setCell ⟨bc, 3, none⟩ (.string s1)).setCell ⟨bc, 4, none⟩ (.slice none 0 0)).setCell ⟨bc, 5, none⟩ (.int .i64 0)).setCell ⟨bc, 6, none⟩ (.int .i64 0)).setCell ⟨bc, 7, none⟩ (.slice none 0 0)) := by
                    repeat (with_reducible (refine Chg.setCell ?_ (Or.inl (by simp)) _))
                    exact Chg.refl _ _
                  refine ⟨⟨⟨c5.kind, c5.name, xvN s1, none, 0, 0, 0⟩, exNm s1, ?_, HK5.out, HN5.out, Or.inr (Or.inl ⟨s1, HNS.out s1 (by simp), rfl⟩), isEx_plain _ 3 0 0 s1, rfl, rfl, rfl, rfl, ?_, ?_⟩, ?_⟩
                  · have hh := heap_setCell_same _ bc 7 _ _ (.slice none 0 0) (heap_setCell_same _ bc 6 _ _ (.int .i64 0) (heap_setCell_same _ bc 5 _ _ (.int .i64 0) (heap_setCell_same _ bc 4 _ _ (.slice none 0 0) (heap_setCell_same _ bc 3 _ _ (.string s1) (heap_setCell_same _ bc 2 _ _ (.int .i64 3) HB5.out)))))
                    obtain ⟨q1, q2, q3, q4⟩ := HU5.out
                    rw [hh]
                    simp [ClV.cells, xvN, q1, q2, q3, q4]
                  · exact (HC5.out.trans hcs fun q hq => Or.inr (by simp only [List.mem_singleton] at hq; omega))
                  · exact HD5.out.chg hcs (by simpa using hne) (fun q hq => by simp only [List.mem_singleton] at hq; omega)
                  · exact owns_chg HOA.out hcs (fun q hq hm => by
                      have h1 := HOAL.out q hq
                      simp only [List.mem_singleton] at hm
                      omega)
              · have t51 : (((ns.length : Nat) : Int) == 1) = false := by simp; omega
                go_wp2_with fail
                go_meet
                case rel => exact ⟨HBY.out, HOA.out⟩
            case rest =>
              obtain ⟨wy, rfl⟩ : ∃ wy : World, wy = wc := ⟨_, rfl⟩
              obtain ⟨hby, hoy⟩ := hcut
              have HBY2 := Lib.hid hby
              have HOY := Lib.hid hoy
              clear hby hoy HBY HOA
              go_upto_if 58 with fail
              go_cut [] (BoxC w wo bd bc (rowOf (.slice va k vc)))
              case first =>
                by_cases h1 : 1 < ns.length
                · have t58 : decide ((1 : Int) < ((ns.length : Nat) : Int)) = true := decide_eq_true (by omega)
                  obtain ⟨c5, e5, hb5, hk5, hn5, he5, hx5, hu5, hu5', hu5'', ha5, hc5, hd5⟩ := HBY2.out
                  obtain ⟨b0, b1, b2, b3, b4, b5, b6, b7, b8, b9, bf⟩ := blk10 (show wy.heap[bc]? = some (.cells #[.int .i64 c5.kind, .string c5.name, .int .i64 c5.x.op, .string c5.x.name, .slice c5.x.aw c5.x.nw c5.x.cw, .int .i64 c5.x.lo, .int .i64 c5.x.hi, .slice c5.x.aa c5.x.na c5.x.ca, .slice c5.au c5.nu c5.cu, .int .i64 c5.amount] 36 (0, 0)) from hb5)
                  have hlt5 := blk_lt hb5
                  have HB5 := Lib.hid hb5
                  have HK5 := Lib.hid hk5
                  have HN5 := Lib.hid hn5
                  have HU5 := Lib.hid (show c5.au = none ∧ c5.nu = 0 ∧ c5.cu = 0 ∧ c5.amount = 0 from ⟨hu5, hu5', hu5'', ha5⟩)
                  have HC5 := Lib.hid hc5
                  have HD5 := Lib.hid hd5
                  clear hb5 hk5 hn5 he5 hx5 hu5 hu5' hu5'' ha5 hc5 hd5 HBY2
                  go_wp2_with fail
                  go_meet
                  case rel =>
                    have hcs : Chg [bc] wy ((((((wy.setCell ⟨bc, 2, none⟩ (.int .i64 7)).setCell ⟨bc, 3, none⟩ (.string ⟨#[]⟩)).setCell ⟨bc, 4, none⟩ (.slice none 0 0)).setCell ⟨bc, 5, none⟩ (.int .i64 0)).setCell ⟨bc, 6, none⟩ (.int .i64 0)).setCell ⟨bc, 7, none⟩ (.slice aa ns.length ac)) := by
                      repeat (with_reducible (refine Chg.setCell ?_ (Or.inl (by simp)) _))
                      exact Chg.refl _ _
                    have hown9 := owns_chg HOY.out hcs (fun q hq hm => by
                      have h1 := HOAL.out q hq
                      simp only [List.mem_singleton] at hm
                      omega)
                    refine ⟨⟨c5.kind, c5.name, ⟨7, ⟨#[]⟩, none, 0, 0, 0, 0, aa, ns.length, ac⟩, none, 0, 0, 0⟩, .mk 7 ⟨#[]⟩ [] 0 0 (ns.map exNm), ?_, HK5.out, HN5.out, Or.inr (Or.inr ⟨ns, HNS.out, hnl, rfl⟩), ?_, rfl, rfl, rfl, rfl, ?_, ?_⟩
                    · have hh := heap_setCell_same _ bc 7 _ _ (.slice aa ns.length ac) (heap_setCell_same _ bc 6 _ _ (.int .i64 0) (heap_setCell_same _ bc 5 _ _ (.int .i64 0) (heap_setCell_same _ bc 4 _ _ (.slice none 0 0) (heap_setCell_same _ bc 3 _ _ (.string ⟨#[]⟩) (heap_setCell_same _ bc 2 _ _ (.int .i64 7) HB5.out)))))
                      obtain ⟨q1, q2, q3, q4⟩ := HU5.out
                      rw [hh]
                      simp [ClV.cells, q1, q2, q3, q4]
                    · obtain ⟨a', c', hv, h1, h2, h3⟩ := exs_owns (l := ns.map exNm) (M := bd :: bc :: rowOf (.slice va k vc)) (by rw [List.length_map]; exact hown9) (fun q hq hm => by
                        have h1 := HOAL.out q hq
                        rcases List.mem_cons.1 hm with rfl | hm
                        · omega
                        · rcases List.mem_cons.1 hm with rfl | hm
                          · omega
                          · have := HROL.out q hm; omega) (exs_names ns)
                      simp only [Value.slice.injEq] at hv
                      obtain ⟨rfl, _, rfl⟩ := hv
                      exact IsEx.mk (isStrs_nil _) (by simp) (by simpa using h1) h2 h3
                    · exact (HC5.out.trans hcs fun q hq => Or.inr (by simp only [List.mem_singleton] at hq; omega))
                    · exact HD5.out.chg hcs (by simpa using hne) (fun q hq => by simp only [List.mem_singleton] at hq; omega)
                · have t58 : decide ((1 : Int) < ((ns.length : Nat) : Int)) = false := decide_eq_false (by omega)
                  go_wp2_with fail
                  go_meet
                  case rel => exact HBY2.out
              case rest =>
                obtain ⟨wz, rfl⟩ : ∃ wz : World, wz = wc := ⟨_, rfl⟩
                have HBZ := Lib.hid hcut
                obtain ⟨_, _, _, _, _, _, _, _, _, _, _, _, hdz⟩ := hcut
                have HDZ := Lib.hid hdz
                clear hdz HOY HBY2 HOAL HNS hnl
                go_wp2_with fail
                refine (next_calls HDZ.out 9 (by omega) (by omega)).mono ?_
                rintro r w9 ⟨r9, rfl, hr90, hr99, hd9, hc9⟩
                obtain ⟨c5, e5, hb5, hk5, hn5, he5, hx5, hu5, hu5', hu5'', ha5, hc5, hd5⟩ := HBZ.out.step hc9 hd9 hne
                obtain ⟨b0, b1, b2, b3, b4, b5, b6, b7, b8, b9, bf⟩ := blk10 (show w9.heap[bc]? = some (.cells #[.int .i64 c5.kind, .string c5.name, .int .i64 c5.x.op, .string c5.x.name, .slice c5.x.aw c5.x.nw c5.x.cw, .int .i64 c5.x.lo, .int .i64 c5.x.hi, .slice c5.x.aa c5.x.na c5.x.ca, .slice c5.au c5.nu c5.cu, .int .i64 c5.amount] 36 (0, 0)) from hb5)
                have hlt5 := blk_lt hb5
                have HB5 := Lib.hid hb5
                have HK5 := Lib.hid hk5
                have HN5 := Lib.hid hn5
                have HE5 := Lib.hid he5
                have HX5 := Lib.hid hx5
                have HU5 := Lib.hid (show c5.au = none ∧ c5.nu = 0 ∧ c5.cu = 0 ∧ c5.amount = 0 from ⟨hu5, hu5', hu5'', ha5⟩)
                have HC5 := Lib.hid hc5
                have HD5 := Lib.hid hd5
                clear hd9 hc9 hb5 hk5 hn5 he5 hx5 hu5 hu5' hu5'' ha5 hc5 hd5 HBZ HDZ
                go_upto_if 64 with fail
                go_cut [] (BoxC w wo bd bc (rowOf (.slice va k vc)))
                case first =>
                  by_cases h8 : r9 = 8
                  · have t8 : (r9 == 8) = true := by simp [h8]
                    clear h8
                    go_wp2_with fail
                    go_meet
                    case rel =>
                      have hcs : Chg [bc] w9 (w9.setCell ⟨bc, 0, none⟩ (.int .i64 2)) := (Chg.refl _ _).setCell (Or.inl (by simp)) _
                      refine ⟨⟨2, c5.name, c5.x, none, 0, 0, 0⟩, e5, ?_, Or.inr rfl, HN5.out, HE5.out, ?_, rfl, rfl, rfl, rfl, ?_, ?_⟩
                      · have hh := heap_setCell_same w9 bc 0 _ _ (.int .i64 2) HB5.out
                        obtain ⟨q1, q2, q3, q4⟩ := HU5.out
                        rw [hh]
                        simp [ClV.cells, q1, q2, q3, q4]
                      · refine HX5.out.mono (mask_sub_mask fun q hq hn => ⟨hn, hcs.block q hq fun hm => hn (by simp only [List.mem_singleton] at hm; simp [hm])⟩)
                      · exact (HC5.out.trans hcs fun q hq => Or.inr (by simp only [List.mem_singleton] at hq; omega))
                      · exact HD5.out.chg hcs (by simpa using hne) (fun q hq => by simp only [List.mem_singleton] at hq; omega)
                  · have t8 : (r9 == 8) = false := by simp [h8]
                    clear h8
                    go_wp2_with fail
                    go_meet
                    case rel => exact ⟨c5, e5, HB5.out, HK5.out, HN5.out, HE5.out, HX5.out, HU5.out.1, HU5.out.2.1, HU5.out.2.2.1, HU5.out.2.2.2, HC5.out, HD5.out⟩
                case rest =>
                  obtain ⟨wq, rfl⟩ : ∃ wq : World, wq = wc := ⟨_, rfl⟩
                  clear b0 b1 b2 b3 b4 b5 b6 b7 b8 b9 bf HB5 HK5 HN5 HE5 HX5 HU5 HC5 HD5 hlt5
                  obtain ⟨c6, e6, hb6, hk6, hn6, he6, hx6, hu6, hu6', hu6'', ha6, hc6, hd6⟩ := hcut
                  obtain ⟨b0, b1, b2, b3, b4, b5, b6, b7, b8, b9, bf⟩ := blk10 (show wq.heap[bc]? = some (.cells #[.int .i64 c6.kind, .string c6.name, .int .i64 c6.x.op, .string c6.x.name, .slice c6.x.aw c6.x.nw c6.x.cw, .int .i64 c6.x.lo, .int .i64 c6.x.hi, .slice c6.x.aa c6.x.na c6.x.ca, .slice c6.au c6.nu c6.cu, .int .i64 c6.amount] 36 (0, 0)) from hb6)
                  have hlt6 := blk_lt hb6
                  have HIC := Lib.hid (show IsCla (mask wq (bd :: bc :: rowOf (.slice va k vc))) ⟨c6.kind, c6.name, e6, [], 0⟩ c6 from ⟨rfl, rfl, hx6, by simpa using hu6', by omega, Or.inl ⟨hu6'', hu6''⟩, by simp only; unfold WbsD; trivial, ha6⟩)
                  have HOKC := Lib.hid (show DfnOk ⟨c6.kind, c6.name, e6, [], 0⟩ from ⟨hk6, hn6, he6, rfl, rfl⟩)
                  have HC6 := Lib.hid hc6
                  have HD6 := Lib.hid hd6
                  have hz6 := hc6.size
                  have HOW6 := Lib.hid (owns_chg HOW.out hc6 (fun q hq hm => HBR.out (by simp only [List.mem_singleton] at hm; rw [← hm]; exact mem_rowOf.2 hq)))
                  have hb0w := HD6.out
                  obtain ⟨_, _, _, _, _, _, _, _, hxw, _⟩ := hb0w
                  have hww := hxw.size
                  clear hb6 hk6 hn6 he6 hx6 hu6 hu6' hu6'' ha6 hc6 hd6 hxw
                  go_wp2_with (at_builtin; refine wpList_append_at elemCla rfl _ _ rfl w.heap.size _ k _ rfl HOW6.out _ 1 1 rfl ?f0 rfl ?f1 ?f2 ?f3 ?f4 ?_)
                  case f0 => simp
                  case f1 => simp [Value.oneCell']
                  case f2 => unfold maxLen; omega
                  case f3 => omega
                  case f4 => omega
                  intro v8 w8 hown8 hc8 hw8
                  have HO8 := Lib.hid (show w8.ownsRow w.heap.size 36 10 v8 (k + 1) ((vs ++ [c6]).flatMap ClV.cells) by simpa [ClV.cells] using hown8)
                  have hb8 : bd ∉ rowOf v8 := fun hm => by
                    rcases hw8 bd (mem_rowOf.1 hm) with e | e
                    · exact HBR.out (mem_rowOf.2 e)
                    · omega
                  have hbc8 : bc ∉ rowOf (.slice va k vc) := fun hm => by have := HROL.out bc hm; omega
                  have s1 : Sub (mask wo ([bd] ++ rowOf (.slice va k vc))) (mask wq ([bd] ++ rowOf (.slice va k vc))) := mask_sub_mask fun q hq hn => ⟨hn, HC6.out.block q hq fun hm => hn (List.mem_append_left _ hm)⟩
                  have s2 : Sub (mask wq ([bd] ++ rowOf (.slice va k vc))) (mask w8 ([bd] ++ rowOf v8)) := row_keeps (hc8.weak (fun x hx => List.mem_append_right _ hx)) hw8
                  have s3 : Sub (mask wq (bd :: bc :: rowOf (.slice va k vc))) (mask wq ([bd] ++ rowOf (.slice va k vc))) := mask_less _ (fun y hy => by
                    rcases List.mem_append.1 hy with h | h
                    · simp only [List.mem_singleton] at h; simp [h]
                    · simp [h])
                  have HR8 := Lib.hid ((HR.out.mono (fun p q h => s2 p q (s1 p q h))).snoc (HIC.out.mono (fun p q h => s2 p q (s3 p q h))))
                  have HD8 := Lib.hid (HD6.out.chg hc8 (fun hm => HBR.out hm) (fun q hq => (HOW.out.lt q (mem_rowOf.1 hq)).1))
                  have HOK8 := Lib.hid (show ∀ c ∈ l ++ [⟨c6.kind, c6.name, e6, [], 0⟩], DfnOk c by
                    intro c hc
                    rcases List.mem_append.1 hc with h | h
                    · exact HOK.out c h
                    · simp only [List.mem_singleton] at h; rw [h]; exact HOKC.out)
                  have HLK8 := Lib.hid (show (l ++ [(⟨c6.kind, c6.name, e6, [], 0⟩ : Cla)]).length = k + 1 by simp [HLK.out])
                  obtain ⟨a8, c8, hv8⟩ := owns_form hown8
                  subst hv8
                  clear hown8 hc8 hw8 s1 s2 s3
                  have HB8 := Lib.hid hb8
                  clear hb8
                  go_wp2_with fail
                  go_roundw
                  case rel => exact ⟨k + 1, _, _, by omega, by go_num, HLK8.out, HOK8.out, HO8.out, HR8.out, HD8.out, HB8.out⟩
                  case measure => simp [intOf]; omega
    · have t1 : decide ((k : Int) < 1 + n0) = false := by simp; omega
      obtain ⟨a', c', hv, hcl⟩ := clas_owns (M := [bd]) (by rw [HLK.out]; exact HOW.out) (fun q hq hm => HBR.out (by simp only [List.mem_singleton] at hm; rw [← hm]; exact mem_rowOf.2 hq)) (HR.out.mono (mask_less _ (fun y hy => List.mem_append_left _ hy)))
      have HCL := Lib.hid hcl
      have HV := Lib.hid hv
      obtain ⟨_, _, _, _, _, _, _, _, hxw, _⟩ := HDK.out
      have HXW := Lib.hid hxw
      clear hcl hv hxw
      go_wp2_with fail
      go_ret
      rw [HV.out]
      exact ⟨l, a', _, c', rfl, HCL.out.mono (mask_sub _ _), HOK.out, by have := HLK.out; omega, HXW.out⟩
end Go.Proofs.Ytfjlglefodndjaa

namespace Go.Proofs.Ytfjlglefodndjaa
open Go.RowKit

/-! The law of XGrow for regions with guarded operations, where every guard is met: what the guards look at is known. -/
/-- An edge by which a value goes. -/
def isDataG (e : Edge) : Bool := match e.ground with | .data => true | .guard => true | _ => false
/-- What is asked of the operations below m: no guard, no select; they look at slots of operations alone that come before them; the m-th (if there is one) comes last. -/
def okGrowG (ops : Array Oper) (m n : Nat) : Bool :=
  Region.noSelect ops && decide (m ≤ ops.size) && decide (ops.size ≤ m + 1) &&
  ((List.range ops.size).all fun i => (List.range ops.size).all fun j => i == j || dstAt ops i == none || dstAt ops i != dstAt ops j) &&
  ((List.range ops.size).all fun i => match ops[i]? with
    | none => false
    | some o => ((match o.guard with | none => true | some (j, _) => (match dstAt ops j with | none => false | some t => decide (t < n)) && o.after.any (fun e => isDataG e && e.on == j)) || i == m) && (o.after.all fun e => (!Region.binds .any e || decide (e.on < i)) && (!isDataG e || Region.binds .any e)) &&
      ((List.range m).all fun j => match dstAt ops j with
        | none => true
        | some t => !(o.looksAt ops).contains t || (i == m) || o.after.any (fun e => Region.binds .any e && e.on == j)) &&
      (i != m || (List.range m).all fun j => o.after.any (fun e => Region.binds .any e && e.on == j)))

theorem okGrow_specG {ops : Array Oper} {m n : Nat} (h : okGrowG ops m n = true) : Region.noSelect ops = true ∧ m ≤ ops.size ∧ ops.size ≤ m + 1 ∧ DstApart ops ∧
    (∀ i o, ops[i]? = some o → (i < m → ∀ j b, o.guard = some (j, b) → ∃ t, dstAt ops j = some t ∧ t < n ∧ ∃ e ∈ o.after, isDataG e = true ∧ e.on = j) ∧ (∀ e ∈ o.after, (Region.binds .any e = true → e.on < i) ∧ (isDataG e = true → Region.binds .any e = true)) ∧ (i < m → ∀ j t, j < m → dstAt ops j = some t → t ∈ o.looksAt ops → ∃ e ∈ o.after, Region.binds .any e = true ∧ e.on = j) ∧
      (i = m → ∀ j, j < m → ∃ e ∈ o.after, Region.binds .any e = true ∧ e.on = j)) := by
  simp only [okGrowG, Bool.and_eq_true, decide_eq_true_eq] at h
  obtain ⟨⟨⟨⟨h1, h2⟩, h3⟩, h4⟩, h5⟩ := h
  refine ⟨h1, h2, h3, ?_, ?_⟩
  · intro i j d hi hj
    have li : i < ops.size := by
      unfold dstAt at hi
      rcases Nat.lt_or_ge i ops.size with h | h
      · exact h
      · rw [Array.getElem?_eq_none h] at hi; simp at hi
    have lj : j < ops.size := by
      unfold dstAt at hj
      rcases Nat.lt_or_ge j ops.size with h | h
      · exact h
      · rw [Array.getElem?_eq_none h] at hj; simp at hj
    have := List.all_eq_true.1 (List.all_eq_true.1 h4 i (by simpa using li)) j (by simpa using lj)
    simpa [hi, hj] using this
  · intro i o ho
    have li : i < ops.size := (Array.getElem?_eq_some_iff.1 ho).1
    have h6 := List.all_eq_true.1 h5 i (by simpa using li)
    simp only [ho, Bool.and_eq_true] at h6
    obtain ⟨⟨⟨g1, g2⟩, g3⟩, g4⟩ := h6
    refine ⟨fun hm => ?_, fun e he => ?_, fun hm j t hjm hj ht => ?_, fun hm j hj => ?_⟩
    · intro j b hg
      rcases Bool.or_eq_true_iff.1 g1 with g | g
      · rw [hg] at g
        simp only [Bool.and_eq_true] at g
        cases hd : dstAt ops j with
        | none => rw [hd] at g; simp at g
        | some t =>
          rw [hd] at g
          obtain ⟨e, he, hb⟩ := Array.any_eq_true'.1 g.2
          simp only [Bool.and_eq_true, beq_iff_eq] at hb
          exact ⟨t, rfl, by simpa using g.1, e, he, hb.1, hb.2⟩
      · have : i = m := by simpa using g
        omega
    · have := Array.all_eq_true_iff_forall_mem.1 g2 e he
      simp only [Bool.and_eq_true, Bool.or_eq_true, Bool.not_eq_true', decide_eq_true_eq] at this
      refine ⟨fun hb => ?_, fun hb => ?_⟩
      · rcases this.1 with h | h
        · rw [hb] at h; cases h
        · exact h
      · rcases this.2 with h | h
        · rw [hb] at h; cases h
        · exact h
    · have := List.all_eq_true.1 g3 j (by simpa using hjm)
      rw [hj] at this
      simp only [Bool.or_eq_true, Bool.not_eq_true'] at this
      rcases this with (h | h) | h
      · rw [List.contains_iff_mem.2 ht] at h; cases h
      · have : i = m := by simpa using h
        omega
      · obtain ⟨e, he, hb⟩ := Array.any_eq_true'.1 h
        simp only [Bool.and_eq_true, beq_iff_eq] at hb
        exact ⟨e, he, hb.1, hb.2⟩
    · subst hm
      rcases Bool.or_eq_true_iff.1 g4 with g | g
      · simp at g
      · have := List.all_eq_true.1 g j (by simpa using hj)
        obtain ⟨e, he, hb⟩ := Array.any_eq_true'.1 this
        simp only [Bool.and_eq_true, beq_iff_eq] at hb
        exact ⟨e, he, hb.1, hb.2⟩

/-- Operation c looks at what operation i left. -/
def looksToG (ops : Array Oper) (c i : Nat) : Bool := match ops[c]? with | none => false | some o => o.after.any fun e => isDataG e && e.on == i
/-- What operation i left must outlast operation k. -/
def outlastsG (ops : Array Oper) (m : Nat) (Kp : List Nat) (i k : Nat) : Bool := !comesAfter ops m i k && (Kp.contains i || (List.range m).any fun c => c != k && !comesAfter ops m k c && looksToG ops c i)

section
variable {P : Program} {ops : Array Oper} {Q : Exit → Act → World → Prop} {a : Act} {m : Nat} (Kp : List Nat) (G : List Nat → (Nat → Value) → World → Prop) (E : Nat → World → World → Prop) (R : Nat → Value → World → Prop)

theorem wpAny_growG {n : Nat} (hok : okGrowG ops m n = true) (hN : n ≤ a.tmps.size) (hGd : ∀ i o j b, i < m → ops[i]? = some o → o.guard = some (j, b) → ∀ v W, R j v W → v = .bool b) (hRE : ∀ i k v W W', i < m → k < m → i ≠ k → outlastsG ops m Kp i k = true → R i v W → E k W W' → R i v W')
    (hstep : ∀ i o, i < m → ops[i]? = some o → ∀ L vs W, i ∉ L → (∀ j ∈ L, comesAfter ops m j i = false) → G L vs W → (∀ e ∈ o.after, isDataG e = true → R e.on (vs e.on) W) → ∀ ρ, Sees ops a m vs ρ → GivesOp P o ρ W (fun v W' => E i W W' ∧ G (L ++ [i]) (upd vs i v) W' ∧ R i v W'))
    (hend : ∀ L vs W, (∀ j, j < m → j ∈ L) → G L vs W → (∀ j ∈ Kp, j < m → R j (vs j) W) → if m = ops.size then Q .normal (acts ops a vs (List.range m)) W else wpOp P ops Q m (fun a w => Q .normal a w) (acts ops a vs (List.range m)) W) :
    ∀ (fuel : Nat) (L : List Nat) (vs : Nat → Value) (W : World) (listed : Array Bool), listed.size = ops.size → (∀ j, j < ops.size → (listed.getD j true = true ↔ j ∈ L)) → L.Nodup → (∀ j ∈ L, j < m) → ((List.range ops.size).filter (fun j => !L.contains j)).length ≤ fuel → G L vs W → (∀ i ∈ L, ∀ o, ops[i]? = some o → ∀ e ∈ o.after, Region.binds .any e = true → e.on ∈ L) → (∀ j ∈ L, (j ∈ Kp ∨ ∃ c, c < m ∧ c ∉ L ∧ looksToG ops c j = true) → R j (vs j) W) →
      wpAny P .any ops Q fuel listed (acts ops a vs L) W := by
  obtain ⟨hns, hm1, hm2, hda, hspec⟩ := okGrow_specG hok
  have hperm : ∀ L : List Nat, L.Nodup → (∀ j ∈ L, j < m) → (∀ j, j < m → j ∈ L) → L.Perm (List.range m) := fun L h1 h2 h3 =>
    (List.perm_ext_iff_of_nodup h1 List.nodup_range).2 (fun j => ⟨fun h => by simpa using h2 j h, fun h => h3 j (by simpa using h)⟩)
  -- all below m are listed if none of them is ready
  have hall : ∀ (L : List Nat) (listed : Array Bool), listed.size = ops.size → (∀ j, j < ops.size → (listed.getD j true = true ↔ j ∈ L)) → (∀ j ∈ Region.ready .any ops listed, ¬ j < m) → ∀ j, j < m → j ∈ L := by
    intro L listed hsz hL hr j
    induction j using Nat.strongRecOn with
    | _ j ih =>
      intro hj
      by_cases hjL : j ∈ L
      · exact hjL
      · exfalso
        refine hr j ?_ hj
        have hjs : j < ops.size := by omega
        rw [mem_ready]
        obtain ⟨o, ho⟩ : ∃ o, ops[j]? = some o := ⟨ops[j], Array.getElem?_eq_getElem hjs⟩
        refine ⟨?_, o, ho, fun e he hb => ?_⟩
        · cases hx : listed.getD j true
          · rfl
          · exact absurd ((hL j hjs).1 hx) hjL
        · have hlt := ((hspec j o ho).2.1 e he).1 hb
          have hm := ih e.on hlt (by omega)
          have := (hL e.on (by omega)).2 hm
          have hin : e.on < listed.size := by rw [hsz]; omega
          simpa [Array.getD, hin] using this
  -- what is asked when all below m are listed
  have hfin : ∀ (L : List Nat) (vs : Nat → Value) (W : World), L.Nodup → (∀ j ∈ L, j < m) → (∀ j, j < m → j ∈ L) → G L vs W → (∀ j ∈ L, (j ∈ Kp ∨ ∃ c, c < m ∧ c ∉ L ∧ looksToG ops c j = true) → R j (vs j) W) →
      if m = ops.size then Q .normal (acts ops a vs L) W else wpOp P ops Q m (fun a w => Q .normal a w) (acts ops a vs L) W := by
    intro L vs W hnd hLm hcov hE hR
    rw [acts_perm hda (hperm L hnd hLm hcov)]
    exact hend L vs W hcov hE (fun j hk hj => hR j (hcov j hj) (Or.inl hk))
  intro fuel
  induction fuel with
  | zero =>
    intro L vs W listed hsz hL hnd hLm hlen hE hcl hR
    have hcov : ∀ j, j < ops.size → j ∈ L := fun j hj => by
      have h0 := List.eq_nil_of_length_eq_zero (Nat.le_zero.1 hlen)
      have : j ∉ (List.range ops.size).filter (fun j => !L.contains j) := by rw [h0]; simp
      simpa [hj] using this
    have hmn : m = ops.size := by
      rcases Nat.lt_or_ge m ops.size with h | h
      · have := hLm m (hcov m h); omega
      · omega
    have hf := hfin L vs W hnd hLm (fun j hj => hcov j (by omega)) hE hR
    rw [if_pos hmn] at hf
    refine ⟨?_, hf⟩
    rw [List.eq_nil_iff_forall_not_mem]
    intro j hj
    obtain ⟨h0, o, ho, _⟩ := mem_ready.1 hj
    have := (hL j (Array.getElem?_eq_some_iff.1 ho).1).2 (hcov j (Array.getElem?_eq_some_iff.1 ho).1)
    rw [this] at h0; cases h0
  | succ fuel ih =>
    intro L vs W listed hsz hL hnd hLm hlen hE hcl hR
    refine ⟨fun hr => ?_, fun i hi => ?_⟩
    · have hcov := hall L listed hsz hL (by rw [hr]; simp)
      have hf := hfin L vs W hnd hLm hcov hE hR
      by_cases hmn : m = ops.size
      · rw [if_pos hmn] at hf; exact hf
      · exfalso
        have hms : m < ops.size := by omega
        have : m ∈ Region.ready .any ops listed := by
          rw [mem_ready]
          obtain ⟨o, ho⟩ : ∃ o, ops[m]? = some o := ⟨ops[m], Array.getElem?_eq_getElem hms⟩
          refine ⟨?_, o, ho, fun e he hb => ?_⟩
          · cases hx : listed.getD m true
            · rfl
            · have := hLm m ((hL m hms).1 hx); omega
          · have hlt := ((hspec m o ho).2.1 e he).1 hb
            have := (hL e.on (by omega)).2 (hcov e.on hlt)
            have hin : e.on < listed.size := by rw [hsz]; omega
            simpa [Array.getD, hin] using this
        rw [hr] at this
        simp at this
    · obtain ⟨h0, o, ho, hdep⟩ := mem_ready.1 hi
      have his : i < ops.size := (Array.getElem?_eq_some_iff.1 ho).1
      have hiL : i ∉ L := fun h => by rw [(hL i his).2 h] at h0; cases h0
      have hdepL : ∀ e ∈ o.after, Region.binds .any e = true → e.on ∈ L := fun e he hb => by
        have h1 := hdep e he hb
        have hlt := ((hspec i o ho).2.1 e he).1 hb
        have hin : e.on < listed.size := by rw [hsz]; omega
        exact (hL e.on (by omega)).1 (by simpa [Array.getD, hin] using h1)
      have hlist : ∀ j, j < ops.size → ((listed.setIfInBounds i true).getD j true = true ↔ j ∈ L ++ [i]) := fun j hj => by
        by_cases hij : i = j
        · subst hij; simp [hsz, his]
        · rw [getD_set_ne true hij, hL j hj]; simp; intro e; exact absurd e.symm hij
      by_cases him : i < m
      · -- one of the operations that make memory
        have hnc : ∀ j ∈ L, comesAfter ops m j i = false := fun j hj => by
          cases hx : comesAfter ops m j i
          · rfl
          · exact absurd (comesAfter_mem hcl m j i hj hx) hiL
        have hg := hstep i o him ho L vs W hiL hnc hE (fun e he hb => hR _ (hdepL e he (((hspec i o ho).2.1 e he).2 hb)) (Or.inr ⟨i, him, hiL, by unfold looksToG; rw [ho]; exact Array.any_eq_true'.2 ⟨e, he, by simp [hb]⟩⟩)) _ (sees_acts hda a m vs)
        have hex : execOp (acts ops a vs L).eval o = execOp (acts ops a vs (List.range m)).eval o := by
          refine execOp_congr o (Region.noSelect_spec hns i o · · ho) (fun x hx => ?_)
          cases x with
          | tmp t =>
            have hlook : t ∈ o.looksAt ops := List.mem_append_left _ (List.mem_filterMap.2 ⟨.tmp t, by simpa using hx, rfl⟩)
            by_cases hex : ∃ j, j < m ∧ dstAt ops j = some t
            · obtain ⟨j, hjm, hj⟩ := hex
              obtain ⟨e, he, hb, rfl⟩ := (hspec i o ho).2.2.1 him j t hjm hj hlook
              have hjL := hdepL e he hb
              rw [acts_eval_in hda hjL hj, acts_eval_in hda (by simpa using hLm _ hjL) hj]
            · have h1 : ∀ j, j < m → dstAt ops j ≠ some t := fun j hjm hj => hex ⟨j, hjm, hj⟩
              rw [acts_eval_out (fun j hjL => h1 j (hLm j hjL)), acts_eval_out (fun j hjr => h1 j (by simpa using hjr))]
          | const v => rfl
          | global g => rfl
          | func f => rfl
        unfold wpOp
        simp only [ho]
        rw [if_pos (by
          unfold Region.wanted
          cases hgd : o.guard with
          | none => rfl
          | some p =>
            obtain ⟨j, b⟩ := p
            obtain ⟨t, ht, htn, e, he, heD, rfl⟩ := (hspec i o ho).1 him j b hgd
            have hjL := hdepL e he (((hspec i o ho).2.1 e he).2 heD)
            have hv := hGd i o e.on b him ho hgd _ _ (hR e.on hjL (Or.inr ⟨i, him, hiL, by unfold looksToG; rw [ho]; exact Array.any_eq_true'.2 ⟨e, he, by simp [heD]⟩⟩))
            have hev := acts_eval_in hda (a := a) (vs := vs) hjL ht
            rw [if_pos (Nat.lt_of_lt_of_le htn hN), hv] at hev
            have hlt : t < (acts ops a vs L).tmps.size := by rw [acts_size]; exact Nat.lt_of_lt_of_le htn hN
            show (yielded ops (acts ops a vs L).tmps e.on == some b) = true
            simp only [Act.eval] at hev
            unfold yielded
            have hdd : (ops[e.on]?).bind (·.dst) = some t := ht
            rw [hdd]
            simp only [Option.bind_some]
            rw [Array.getD_eq_getD_getElem?, Array.getElem?_eq_getElem hlt, Option.getD_some] at hev
            rw [Array.getElem?_eq_getElem hlt, hev]
            simp)]
        left
        refine Oper.wp_mono ?_ (hg.wp hex)
        rintro a' W' ⟨v, rfl, hEW, hE', hRv⟩
        have e1 : (acts ops a vs L).put o.dst v = acts ops a (upd vs i v) (L ++ [i]) := by
          rw [acts_snoc, acts_congr (vs := upd vs i v) (vs' := vs) (fun j hj => by unfold upd; rw [if_neg (fun e => hiL (by rw [← e]; exact hj))])]
          simp [upd, dstAt, ho]
        rw [e1]
        refine ih (L ++ [i]) (upd vs i v) W' _ (by simpa using hsz) hlist ?_ ?_ ?_ hE' ?_ ?_
        · rw [List.nodup_append]
          exact ⟨hnd, by simp, fun x hx y hy e => by simp at hy; subst hy; subst e; exact hiL hx⟩
        · intro j hj
          rcases List.mem_append.1 hj with h | h
          · exact hLm j h
          · simp at h; omega
        · have h1 : (List.range ops.size).filter (fun j => !(L ++ [i]).contains j) = ((List.range ops.size).filter (fun j => !L.contains j)).filter (fun j => j != i) := by
            rw [List.filter_filter]
            congr 1
            funext j
            simp only [List.contains_append, Bool.not_or]
            rw [Bool.and_comm]
            congr 1
            rw [Bool.eq_iff_iff]; simp [bne]
          have h2 : (((List.range ops.size).filter (fun j => !L.contains j)).filter (fun j => j != i)).length < ((List.range ops.size).filter (fun j => !L.contains j)).length := by
            rw [List.length_filter_lt_length_iff_exists]
            exact ⟨i, by simp [his, hiL], by simp⟩
          rw [h1]; omega
        · intro j hj o' ho' e he hb
          rcases List.mem_append.1 hj with h | h
          · exact List.mem_append_left _ (hcl j h o' ho' e he hb)
          · simp at h; subst h
            rw [ho] at ho'
            cases ho'
            exact List.mem_append_left _ (hdepL e he hb)
        · intro j hj hlive
          rcases List.mem_append.1 hj with h | h
          · have : upd vs i v j = vs j := by unfold upd; rw [if_neg (fun e => hiL (by rw [← e]; exact h))]
            rw [this]
            have hlive' : j ∈ Kp ∨ ∃ c, c < m ∧ c ∉ L ∧ looksToG ops c j = true := hlive.imp id (fun ⟨c, h1, h2, h3⟩ => ⟨c, h1, fun hc => h2 (List.mem_append_left _ hc), h3⟩)
            refine hRE j i _ W W' (hLm j h) him (fun e => hiL (e ▸ h)) ?_ (hR j h hlive') hEW
            unfold outlastsG
            rw [Bool.and_eq_true, Bool.not_eq_true', Bool.or_eq_true]
            refine ⟨?_, ?_⟩
            · cases hx : comesAfter ops m j i
              · rfl
              · exact absurd (comesAfter_mem hcl m j i h hx) hiL
            · rcases hlive with hk | ⟨c, h1, h2, h3⟩
              · exact Or.inl (List.contains_iff_mem.2 hk)
              · refine Or.inr (List.any_eq_true.2 ⟨c, by simpa using h1, ?_⟩)
                rw [h3, Bool.and_true, Bool.and_eq_true, bne_iff_ne, Bool.not_eq_true']
                refine ⟨fun e => by subst e; exact h2 (by simp), ?_⟩
                cases hx : comesAfter ops m i c
                · rfl
                · exact absurd (List.mem_append_left _ (comesAfter_ready hcl ho hdepL m c hx)) h2
          · simp at h; subst h; simpa [upd] using hRv
      · -- the last one
        obtain rfl : i = m := by omega
        have hcov : ∀ j, j < i → j ∈ L := fun j hj => by
          obtain ⟨e, he, hb, rfl⟩ := (hspec i o ho).2.2.2 rfl j hj
          exact hdepL e he hb
        have hf := hfin L vs W hnd hLm hcov hE hR
        rw [if_neg (by omega)] at hf
        refine wpOp_mono (fun a' W' hq => ?_) hf
        refine wpAny_done ?_ hq fuel
        rw [List.eq_nil_iff_forall_not_mem]
        intro j hj
        obtain ⟨h0', o', ho', _⟩ := mem_ready.1 hj
        have hjs := (Array.getElem?_eq_some_iff.1 ho').1
        have : j ∈ L ++ [i] := by
          by_cases hji : j < i
          · exact List.mem_append_left _ (hcov j hji)
          · have : j = i := by omega
            simp [this]
        rw [(hlist j hjs).2 this] at h0'; cases h0'

/-- A region whose operations (but for the last one) only make memory, in whatever order; what holds of the world may depend on what has been done. -/
theorem wp_region_growLG {id : Nat} {w : World} (hm : P.follows .mixedOrders = true) {n : Nat} (hok : okGrowG ops m n = true) (hN : n ≤ a.tmps.size) (hGd : ∀ i o j b, i < m → ops[i]? = some o → o.guard = some (j, b) → ∀ v W, R j v W → v = .bool b) (hG : G [] (fun _ => undef) w.drew) (hRE : ∀ i k v W W', i < m → k < m → i ≠ k → outlastsG ops m Kp i k = true → R i v W → E k W W' → R i v W')
    (hstep : ∀ i o, i < m → ops[i]? = some o → ∀ L vs W, i ∉ L → (∀ j ∈ L, comesAfter ops m j i = false) → G L vs W → (∀ e ∈ o.after, isDataG e = true → R e.on (vs e.on) W) → ∀ ρ, Sees ops a m vs ρ → GivesOp P o ρ W (fun v W' => E i W W' ∧ G (L ++ [i]) (upd vs i v) W' ∧ R i v W'))
    (hend : ∀ L vs W, (∀ j, j < m → j ∈ L) → G L vs W → (∀ j ∈ Kp, j < m → R j (vs j) W) → if m = ops.size then Q .normal (acts ops a vs (List.range m)) W else wpOp P ops Q m (fun a w => Q .normal a w) (acts ops a vs (List.range m)) W) :
    (Code.region id ops true).wp P Q a w := by
  refine wp_region_any hm ?_
  refine wpAny_growG Kp G E R hok hN hGd hRE hstep hend ops.size [] (fun _ => undef) _ _ (by simp) (fun j hj => ?_) List.nodup_nil (fun j hj => by simp at hj) ?_ hG (fun j hj => by simp at hj) (fun j hj => by simp at hj)
  · simp [hj]
  · exact Nat.le_trans (List.length_filter_le _ _) (by simp)
end
end Go.Proofs.Ytfjlglefodndjaa
