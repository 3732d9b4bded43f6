/-
  Texts of the claim, joined: Defd, Before.
-/
import Derived.Test.YtfjlglefodndjaaBe11
import Derived.Test.YtfjlglefodndjaaBe12
import Derived.Test.YtfjlglefodndjaaBe02
import Derived.Deep.DeepCutAuto
namespace Go.Proofs.Ytfjlglefodndjaa
open Go.RowKit

theorem elemCla : ElemT 23 36 (.agg #[.int .i64 0, .string ⟨#[]⟩, .int .i64 0, .string ⟨#[]⟩, .slice none 0 0, .int .i64 0, .int .i64 0, .slice none 0 0, .slice none 0 0, .int .i64 0]) 10 144 := ⟨by kernel_rfl, by kernel_rfl, rfl, by decide⟩
/-- A name of one byte. -/
def Nm1 (s : ByteArray) : Prop := ∃ b : UInt8, s = ⟨#[b]⟩
/-- The conditions that defined makes. -/
def CondOk (e : Ex) : Prop := e = exTrue ∨ (∃ s, Nm1 s ∧ e = exNm s) ∨ ∃ ns : List ByteArray, (∀ s ∈ ns, Nm1 s) ∧ ns.length ≤ 3 ∧ e = .mk 7 ⟨#[]⟩ [] 0 0 (ns.map exNm)
def DfnOk (c : Cla) : Prop := (c.kind = 1 ∨ c.kind = 2) ∧ Nm1 c.name ∧ CondOk c.cond ∧ c.unl = [] ∧ c.amount = 0
/-- Clauses and their cells. -/
def ClasR (w : World) (l : List Cla) (vs : List ClV) : Prop := l.length = vs.length ∧ ∀ i (h1 : i < l.length) (h2 : i < vs.length), IsCla w l[i] vs[i]
theorem ClasR.mono {w w' : World} {l : List Cla} {vs : List ClV} (h : ClasR w l vs) (hs : Sub w w') : ClasR w' l vs := ⟨h.1, fun i h1 h2 => (h.2 i h1 h2).mono hs⟩
theorem ClasR.snoc {w : World} {l : List Cla} {vs : List ClV} {c : Cla} {v : ClV} (h : ClasR w l vs) (hc : IsCla w c v) : ClasR w (l ++ [c]) (vs ++ [v]) := by
  refine ⟨by simp [h.1], fun i h1 h2 => ?_⟩
  by_cases hi : i < l.length
  · have hi2 : i < vs.length := by rw [← h.1]; exact hi
    simp only [List.getElem_append_left hi, List.getElem_append_left hi2]
    exact h.2 i hi hi2
  · have e1 : i = l.length := by simp at h1; omega
    subst e1
    simp only [List.getElem_append_right (Nat.le_refl _), List.getElem_append_right (show vs.length ≤ l.length by rw [h.1]; exact Nat.le_refl _), Nat.sub_self, List.getElem_cons_zero]
    simpa [h.1] using hc
/-- Clauses in a row that the call owns. -/
theorem clas_owns {w : World} {M : List Nat} {base : Nat} {v : Value} {l : List Cla} {vs : List ClV} (h : w.ownsRow base 36 10 v l.length (vs.flatMap ClV.cells)) (hM : ∀ k, v.ownBlock = some k → k ∉ M) (hR : ClasR (mask w M) l vs) :
    ∃ a c, v = .slice a l.length c ∧ IsClas (mask w M) l a l.length c := by
  rw [hR.1] at h
  obtain ⟨a, c, rfl, hr⟩ := IsRows.of_owns ClV.len h
  refine ⟨a, c, by rw [hR.1], vs, ?_, hR.1, hR.2⟩
  refine ⟨hR.1, by rw [hR.1]; exact hr.2.1, hr.2.2.1, fun i hi => ?_⟩
  obtain ⟨b, off, e, hc⟩ := hr.2.2.2 i hi
  subst e
  refine ⟨b, off, rfl, fun j hj => ?_⟩
  rw [mask_cell, if_neg (hM b rfl)]
  exact hc j hj
def xvNs (ns : List ByteArray) : List ExV := ns.map xvN
/-- The clause that is being made, in its box. -/
def BoxC (w wr : World) (bd bc : Nat) (N : List Nat) (wx : World) : Prop := ∃ (c : ClV) (e : Ex), wx.heap[bc]? = some (.cells c.cells.toArray 36 (0, 0)) ∧ (c.kind = 1 ∨ c.kind = 2) ∧ Nm1 c.name ∧ CondOk e ∧ IsEx (mask wx (bd :: bc :: N)) e c.x.val ∧ c.au = none ∧ c.nu = 0 ∧ c.cu = 0 ∧ c.amount = 0 ∧ Chg [bd] wr wx ∧ DeckAt w wx bd
/-- What is made after k clauses. -/
def DefL (w : World) (bd : Nat) (v i : Value) (wr : World) : Prop := ∃ (k : Nat) (l : List Cla) (vs : List ClV), k ≤ 9 ∧ i = .int .i64 k ∧ l.length = k ∧ (∀ c ∈ l, DfnOk c) ∧ wr.ownsRow w.heap.size 36 10 v k (vs.flatMap ClV.cells) ∧ ClasR (mask wr ([bd] ++ rowOf v)) l vs ∧ DeckAt w wr bd ∧ bd ∉ rowOf v
/-- The arguments that are being made. -/
def ArgL (w wa : World) (bd : Nat) (v i : Value) (wr : World) : Prop := ∃ (ns : List ByteArray) (j : Int), i = .int .i64 j ∧ 0 ≤ j ∧ j + ns.length ≤ 3 ∧ (∀ s ∈ ns, Nm1 s) ∧ wr.ownsRow wa.heap.size 33 6 v ns.length ((xvNs ns).flatMap ExV.cells) ∧ DeckAt w wr bd ∧ Chg [bd] wa wr
/-- The clause in its box, and the row of its arguments. -/
def BoxR (w wr : World) (bd bc : Nat) (N : List Nat) (base : Nat) (ns : List ByteArray) (aa : Option Addr) (ac : Nat) (wx : World) : Prop := BoxC w wr bd bc N wx ∧ wx.ownsRow base 33 6 (.slice aa ns.length ac) ns.length ((xvNs ns).flatMap ExV.cells)
theorem BoxC.step {w wr wx wy : World} {bd bc : Nat} {N : List Nat} (h : BoxC w wr bd bc N wx) (hc : Chg [bd] wx wy) (hd : DeckAt w wy bd) (hne : bd ≠ bc) : BoxC w wr bd bc N wy := by
  obtain ⟨c, e, h1, h2, h3, h4, h5, h6, h7, h8, h9, h10, h11⟩ := h
  refine ⟨c, e, hc.blk h1 (by simpa using fun h => hne h.symm), h2, h3, h4, h5.mono (mask_sub_mask fun k hk hn => ⟨hn, hc.block k hk fun hm => hn (by simp only [List.mem_singleton] at hm; simp [hm])⟩), h6, h7, h8, h9, h10.then hc, hd⟩
theorem exs_names {w : World} (ns : List ByteArray) : ExsR w (ns.map exNm) (xvNs ns) := by
  refine ⟨by simp [xvNs], fun i h1 h2 => ?_⟩
  simp only [List.getElem_map, xvNs]
  exact isEx_plain w 3 0 0 _
def DefQ (w : World) (e : Ending) (w' : World) : Prop := ∃ l a n c, e = .returned (.slice a n c) ∧ IsClas w' l a n c ∧ (∀ x ∈ l, DfnOk x) ∧ l.length ≤ 9 ∧ Ext w w'
set_option maxRecDepth 100000 in
set_option maxHeartbeats 4000000 in
theorem defined_calls (la : Option Addr) (ln lc : Nat) (w : World) (h : IntsAt w la ln) (hl : ln ≤ 1000000000000000) : Calls Try.prog 5 #[.slice la ln lc] w (DefQ w) := by
  have HI := Lib.hid h
  clear h
  go_enter Try.func5, Try.ntmps5
  go_wp2_with fail
  refine (new_calls la ln lc w HI.out hl).mono ?_
  rintro r w1 ⟨bd, rfl, hd, hx, hbd⟩
  have HD := Lib.hid hd
  clear hd hx
  go_wp2_with fail
  refine (next_calls HD.out 9 (by omega) (by omega)).mono ?_
  rintro r w2 ⟨n0, rfl, hn0, hn9, hd2, hc2⟩
  have HD2 := Lib.hid hd2
  clear hd2 hc2 HD
  go_wp2_with fail
  go_loopw [4, 6] (DefL w bd) (fun _ i _ => (1 + n0 - intOf i).toNat)
  case atStart => exact ⟨0, [], [], by omega, rfl, rfl, by simp, World.ownsRow_nil _ _ _ _, ⟨rfl, fun i h => by simp at h⟩, HD2.out, by simp [rowOf, Value.ownBlock]⟩
  case round =>
    obtain ⟨k, l, vs, hk, rfl, hlk, hok, hown, hR, hdk, hbr⟩ := hrel
    obtain ⟨wo, rfl⟩ : ∃ wo : World, wo = wr := ⟨_, rfl⟩
    have HDK := Lib.hid hdk
    have HLK := Lib.hid hlk
    have HOK := Lib.hid hok
    have HOW := Lib.hid hown
    have HR := Lib.hid hR
    have HBR := Lib.hid hbr
    obtain ⟨va, vc, hv⟩ := owns_form hown
    subst hv
    obtain ⟨la', ln', lc', kd, hdb, _⟩ := hdk
    have hbdw := blk_lt hdb
    clear HD2 hlk hok hown hR hbr hdb
    by_cases hkn : (k : Int) < 1 + n0
    · have t1 : decide ((k : Int) < 1 + n0) = true := by simp; omega
      have kc := conv_byte
      go_wp2_with fail
      clear kc
      obtain ⟨wa, hwa⟩ : ∃ wa, wa = (wo.alloc (Obj.cells #[Value.int .u8 (97 + (k : Int))] 5)).alloc (Obj.cells #[.int .i64 1, .string ⟨#[97 + UInt8.ofNat k]⟩, .int .i64 1, .string ⟨#[]⟩, .slice none 0 0, .int .i64 0, .int .i64 0, .slice none 0 0, .slice none 0 0, .int .i64 0] 36) := ⟨_, rfl⟩
      rw [← hwa]
      have hxa : Ext wo wa := by rw [hwa]; exact ((Ext.refl _).alloc _).alloc _
      obtain ⟨bc, hbc⟩ : ∃ bc, bc = wo.heap.size + 1 := ⟨_, rfl⟩
      rw [← hbc]
      have hbca : wa.heap[bc]? = some (.cells #[.int .i64 1, .string ⟨#[97 + UInt8.ofNat k]⟩, .int .i64 1, .string ⟨#[]⟩, .slice none 0 0, .int .i64 0, .int .i64 0, .slice none 0 0, .slice none 0 0, .int .i64 0] 36 (0, 0)) := by rw [hwa, hbc]; exact alloc_at2 (by simp)
      have HBC := Lib.hid hbca
      have HXA := Lib.hid hxa
      have hza := hxa.size
      have hne : bd ≠ bc := by omega
      have hbcr : wo.heap.size ≤ bc := by omega
      clear hwa hbca hbc hxa
      refine (next_calls (HDK.out.ext HXA.out) 8 (by omega) (by omega)).mono ?_
      rintro r w3 ⟨r3, rfl, hr30, hr38, hd3, hc3⟩
      have hb3 := hc3.blk HBC.out (by simp; omega)
      have HB3 := Lib.hid hb3
      have HD3 := Lib.hid hd3
      have HC3 := Lib.hid (((HXA.out.chg [bd]).then hc3))
      have hz3 := HC3.out.size
      clear hd3 hc3 hb3 HBC HXA HDK hza
      go_upto_if 29 with fail
      go_cut [] (BoxC w wo bd bc (rowOf (.slice va k vc)))
      case first =>
        obtain ⟨b0, b1, b2, b3, b4, b5, b6, b7, b8, b9, bf⟩ := blk10 HB3.out
        have hlt3 := blk_lt HB3.out
        by_cases h7 : r3 = 7
        · have t7 : (r3 == 7) = true := by simp [h7]
          clear h7
          go_wp2_with fail
          go_meet
          case rel =>
            refine ⟨⟨1, nmA, xvT, none, 0, 0, 0⟩, exTrue, ?_, Or.inl rfl, ⟨97, rfl⟩, Or.inl rfl, isEx_plain _ 1 0 0 ⟨#[]⟩, rfl, rfl, rfl, rfl, HC3.out.setCell (Or.inr hbcr) _, ?_⟩
            · have := heap_setCell_same w3 bc 1 _ _ (.string ⟨#[97]⟩) HB3.out
              simp at this
              exact this
            · exact HD3.out.chg ((Chg.refl [bc] w3).setCell (Or.inl (by simp)) _) (by simpa using hne) (by simp; omega)
        · have t7 : (r3 == 7) = false := by simp [h7]
          clear h7
          go_wp2_with fail
          go_meet
          case rel => exact ⟨⟨1, ⟨#[97 + UInt8.ofNat k]⟩, xvT, none, 0, 0, 0⟩, exTrue, HB3.out, Or.inl rfl, ⟨_, rfl⟩, Or.inl rfl, isEx_plain _ 1 0 0 ⟨#[]⟩, rfl, rfl, rfl, rfl, HC3.out, HD3.out⟩
      case rest =>
        obtain ⟨wx, rfl⟩ : ∃ wx : World, wx = wc := ⟨_, rfl⟩
        obtain ⟨c4, e4, hb4, hk4, hn4, he4, hx4, hu4, hu4', hu4'', ha4, hc4, hd4⟩ := hcut
        have HB4 := Lib.hid hb4
        have HK4 := Lib.hid hk4
        have HN4 := Lib.hid hn4
        have HE4 := Lib.hid he4
        have HX4 := Lib.hid hx4
        have HU4 := Lib.hid (show c4.au = none ∧ c4.nu = 0 ∧ c4.cu = 0 ∧ c4.amount = 0 from ⟨hu4, hu4', hu4'', ha4⟩)
        have HC4 := Lib.hid hc4
        have HD4 := Lib.hid hd4
        have hz4 := hc4.size
        clear hb4 hk4 hn4 he4 hx4 hu4 hu4' hu4'' ha4 hc4 hd4 HB3 HD3 HC3
        go_wp2_with fail
        refine (next_calls HD4.out 4 (by omega) (by omega)).mono ?_
        rintro r w5 ⟨r5, rfl, hr50, hr54, hd5, hc5⟩
        have HD5 := Lib.hid hd5
        have HC5 := Lib.hid hc5
        have hz5 := hc5.size
        clear hd5 hc5
        go_wp2_with fail
        go_loopw [8, 9] (ArgL w w5 bd) (fun _ i _ => (intOf i).toNat)
        case atStart => exact ⟨[], r5, rfl, hr50, by simp; omega, by simp, World.ownsRow_nil _ _ _ _, HD5.out, Chg.refl _ _⟩
        case round =>
          obtain ⟨ns, j, rfl, hj0, hj3, hns, hown, hdk, hca⟩ := hrel
          have HNS := Lib.hid hns
          have HOA := Lib.hid hown
          have HDA := Lib.hid hdk
          have HCA := Lib.hid hca
          have hzw := hca.size
          obtain ⟨aa, ac, hv⟩ := owns_form hown
          subst hv
          clear hns hown hdk hca HD5
          by_cases hjp : 0 < j
          · have tj : decide (0 < j) = true := by simp [hjp]
            have kc := conv_byte
            go_wp2_with fail
            refine (next_calls HDA.out _ (by omega) (by omega)).mono ?_
            rintro r w6 ⟨r6, rfl, hr60, hr61, hd6, hc6⟩
            have HD6 := Lib.hid hd6
            have HC6 := Lib.hid hc6
            have hz6 := hc6.size
            have HOA6 := Lib.hid (owns_chg HOA.out hc6 (fun q hq hm => by
              have h1 := (HOA.out.lt q hq).1
              simp only [List.mem_singleton] at hm
              omega))
            clear hd6 hc6
            go_wp2_with (at_builtin; refine wpList_append_at elemEx rfl _ _ rfl w5.heap.size _ ns.length _ rfl (HOA6.out.alloc _) _ 1 1 rfl ?e0 rfl ?e1 ?e2 ?e3 ?e4 ?_)
            case e0 => simp
            case e1 => simp [Value.oneCell']
            case e2 => unfold maxLen; omega
            case e3 => omega
            case e4 => simp; omega
            intro v7 w7 hown7 hc7 hw7
            obtain ⟨s7, hs7, hown7⟩ : ∃ s, Nm1 s ∧ w7.ownsRow w5.heap.size 33 6 v7 (ns ++ [s]).length ((xvNs (ns ++ [s])).flatMap ExV.cells) := ⟨_, ⟨_, rfl⟩, by simpa [xvNs, xvN, ExV.cells] using hown7⟩
            have HO7 := Lib.hid hown7
            have HNS7 := Lib.hid (show ∀ s ∈ ns ++ [s7], Nm1 s by
              intro s hs
              rcases List.mem_append.1 hs with h | h
              · exact HNS.out s h
              · simp at h; subst h; exact hs7)
            have hc67 : Chg (rowOf (.slice aa ns.length ac)) w6 w7 := (((Ext.refl w6).alloc _).chg _).trans hc7 fun x hx => Or.inl hx
            have HC7 := Lib.hid (show Chg [bd] w5 w7 from (HCA.out.then HC6.out).trans hc67 fun q hq => Or.inr (HOA.out.lt q (mem_rowOf.1 hq)).1)
            have HD7 := Lib.hid (HD6.out.chg hc67 (fun hm => by have := (HOA.out.lt bd (mem_rowOf.1 hm)).1; omega) (fun q hq => by have := (HOA.out.lt q (mem_rowOf.1 hq)).1; have := HC4.out.size; omega))
            obtain ⟨a7, c7, hv7⟩ := owns_form hown7
            subst hv7
            clear hown7 hc7 hw7 hs7 hc67 kc
            go_wp2_with fail
            go_roundw
            case rel => exact ⟨ns ++ [s7], j - 1, by go_num, by omega, by simp; omega, HNS7.out, HO7.out, HD7.out, HC7.out⟩
            case measure => simp [intOf]; omega
          · have tj : decide (0 < j) = false := by simp; omega
            have HBX := Lib.hid (show BoxC w wo bd bc (rowOf (.slice va k vc)) wx from ⟨c4, e4, HB4.out, HK4.out, HN4.out, HE4.out, HX4.out, HU4.out.1, HU4.out.2.1, HU4.out.2.2.1, HU4.out.2.2.2, HC4.out, HD4.out⟩)
            have HBY := Lib.hid ((HBX.out.step (HC5.out.then HCA.out) HDA.out hne))
            have hbcx := blk_lt HB4.out
            have hnl : ns.length ≤ 3 := by omega
            have HOAL := Lib.hid (show ∀ q, (Value.slice aa ns.length ac).ownBlock = some q → w5.heap.size ≤ q from fun q hq => (HOA.out.lt q hq).1)
            have HROL := Lib.hid (show ∀ q ∈ rowOf (Value.slice va k vc), q < wo.heap.size from fun q hq => (HOW.out.lt q (mem_rowOf.1 hq)).2)
            clear HB4 HK4 HN4 HE4 HX4 HU4 HBX hjp hj0 hj3 HC5 HCA HC4 HD4 HDA hzw
            go_upto_if 51 with fail
            go_cut [] (BoxR w wo bd bc (rowOf (.slice va k vc)) w5.heap.size ns aa ac)
            case first =>
              by_cases h1 : ns.length = 1
              · have t51 : (((ns.length : Nat) : Int) == 1) = true := by rw [h1]; rfl
                obtain ⟨s1, hs1⟩ : ∃ s1, ns = [s1] := List.length_eq_one_iff.1 h1
                subst hs1
                obtain ⟨c5, e5, hb5, hk5, hn5, he5, hx5, hu5, hu5', hu5'', ha5, hc5, hd5⟩ := HBY.out
                obtain ⟨b0, b1, b2, b3, b4, b5, b6, b7, b8, b9, bf⟩ := blk10 (show wr.heap[bc]? = some (.cells #[.int .i64 c5.kind, .string c5.name, .int .i64 c5.x.op, .string c5.x.name, .slice c5.x.aw c5.x.nw c5.x.cw, .int .i64 c5.x.lo, .int .i64 c5.x.hi, .slice c5.x.aa c5.x.na c5.x.ca, .slice c5.au c5.nu c5.cu, .int .i64 c5.amount] 36 (0, 0)) from hb5)
                have hlt5 := blk_lt hb5
                have HB5 := Lib.hid hb5
                have HK5 := Lib.hid hk5
                have HN5 := Lib.hid hn5
                have HU5 := Lib.hid (show c5.au = none ∧ c5.nu = 0 ∧ c5.cu = 0 ∧ c5.amount = 0 from ⟨hu5, hu5', hu5'', ha5⟩)
                have HC5 := Lib.hid hc5
                have HD5 := Lib.hid hd5
                obtain ⟨g1, hg1, e0, e1, e2, e3, e4', e5'⟩ : ∃ g1, aa = some ⟨g1, 0, none⟩ ∧ wr.cell? ⟨g1, 0, none⟩ = some (.int .i64 3) ∧ wr.cell? ⟨g1, 1, none⟩ = some (.string s1) ∧ wr.cell? ⟨g1, 2, none⟩ = some (.slice none 0 0) ∧ wr.cell? ⟨g1, 3, none⟩ = some (.int .i64 0) ∧ wr.cell? ⟨g1, 4, none⟩ = some (.int .i64 0) ∧ wr.cell? ⟨g1, 5, none⟩ = some (.slice none 0 0) := by
                  have hO := HOA.out
                  rcases hO.2 with ⟨_, h0⟩ | ⟨g, cap, cur, hv, _⟩
                  · simp at h0
                  · simp only [Value.slice.injEq] at hv
                    obtain ⟨rfl, _, rfl⟩ := hv
                    refine ⟨g, rfl, ?_⟩
                    have key : ∀ j, j < 6 → wr.cell? ⟨g, j, none⟩ = ((xvNs [s1]).flatMap ExV.cells)[j]? := fun j hj => hO.cellAt j (by simp; omega)
                    exact ⟨key 0 (by omega), key 1 (by omega), key 2 (by omega), key 3 (by omega), key 4 (by omega), key 5 (by omega)⟩
                subst hg1
                have hgb : g1 ≠ bc := by have := HOAL.out g1 rfl; omega
                clear hb5 hk5 hn5 he5 hx5 hu5 hu5' hu5'' ha5 hc5 hd5 HBY
                go_wp2_with fail
                go_meet
                case rel =>
                  have hcs : Chg [bc] wr ((((((wr.setCell ⟨bc, 2, none⟩ (.int .i64 3)).setCell ⟨bc, 3, none⟩ (.string s1)).setCell ⟨bc, 4, none⟩ (.slice none 0 0)).setCell ⟨bc, 5, none⟩ (.int .i64 0)).setCell ⟨bc, 6, none⟩ (.int .i64 0)).setCell ⟨bc, 7, none⟩ (.slice none 0 0)) := by
                    repeat (with_reducible (refine Chg.setCell ?_ (Or.inl (by simp)) _))
                    exact Chg.refl _ _
                  refine ⟨⟨⟨c5.kind, c5.name, xvN s1, none, 0, 0, 0⟩, exNm s1, ?_, HK5.out, HN5.out, Or.inr (Or.inl ⟨s1, HNS.out s1 (by simp), rfl⟩), isEx_plain _ 3 0 0 s1, rfl, rfl, rfl, rfl, ?_, ?_⟩, ?_⟩
                  · have hh := heap_setCell_same _ bc 7 _ _ (.slice none 0 0) (heap_setCell_same _ bc 6 _ _ (.int .i64 0) (heap_setCell_same _ bc 5 _ _ (.int .i64 0) (heap_setCell_same _ bc 4 _ _ (.slice none 0 0) (heap_setCell_same _ bc 3 _ _ (.string s1) (heap_setCell_same _ bc 2 _ _ (.int .i64 3) HB5.out)))))
                    obtain ⟨q1, q2, q3, q4⟩ := HU5.out
                    rw [hh]
                    simp [ClV.cells, xvN, q1, q2, q3, q4]
                  · exact (HC5.out.trans hcs fun q hq => Or.inr (by simp only [List.mem_singleton] at hq; omega))
                  · exact HD5.out.chg hcs (by simpa using hne) (fun q hq => by simp only [List.mem_singleton] at hq; omega)
                  · exact owns_chg HOA.out hcs (fun q hq hm => by
                      have h1 := HOAL.out q hq
                      simp only [List.mem_singleton] at hm
                      omega)
              · have t51 : (((ns.length : Nat) : Int) == 1) = false := by simp; omega
                go_wp2_with fail
                go_meet
                case rel => exact ⟨HBY.out, HOA.out⟩
            case rest =>
              obtain ⟨wy, rfl⟩ : ∃ wy : World, wy = wc := ⟨_, rfl⟩
              obtain ⟨hby, hoy⟩ := hcut
              have HBY2 := Lib.hid hby
              have HOY := Lib.hid hoy
              clear hby hoy HBY HOA
              go_upto_if 58 with fail
              go_cut [] (BoxC w wo bd bc (rowOf (.slice va k vc)))
              case first =>
                by_cases h1 : 1 < ns.length
                · have t58 : decide ((1 : Int) < ((ns.length : Nat) : Int)) = true := decide_eq_true (by omega)
                  obtain ⟨c5, e5, hb5, hk5, hn5, he5, hx5, hu5, hu5', hu5'', ha5, hc5, hd5⟩ := HBY2.out
                  obtain ⟨b0, b1, b2, b3, b4, b5, b6, b7, b8, b9, bf⟩ := blk10 (show wy.heap[bc]? = some (.cells #[.int .i64 c5.kind, .string c5.name, .int .i64 c5.x.op, .string c5.x.name, .slice c5.x.aw c5.x.nw c5.x.cw, .int .i64 c5.x.lo, .int .i64 c5.x.hi, .slice c5.x.aa c5.x.na c5.x.ca, .slice c5.au c5.nu c5.cu, .int .i64 c5.amount] 36 (0, 0)) from hb5)
                  have hlt5 := blk_lt hb5
                  have HB5 := Lib.hid hb5
                  have HK5 := Lib.hid hk5
                  have HN5 := Lib.hid hn5
                  have HU5 := Lib.hid (show c5.au = none ∧ c5.nu = 0 ∧ c5.cu = 0 ∧ c5.amount = 0 from ⟨hu5, hu5', hu5'', ha5⟩)
                  have HC5 := Lib.hid hc5
                  have HD5 := Lib.hid hd5
                  clear hb5 hk5 hn5 he5 hx5 hu5 hu5' hu5'' ha5 hc5 hd5 HBY2
                  go_wp2_with fail
                  go_meet
                  case rel =>
                    have hcs : Chg [bc] wy ((((((wy.setCell ⟨bc, 2, none⟩ (.int .i64 7)).setCell ⟨bc, 3, none⟩ (.string ⟨#[]⟩)).setCell ⟨bc, 4, none⟩ (.slice none 0 0)).setCell ⟨bc, 5, none⟩ (.int .i64 0)).setCell ⟨bc, 6, none⟩ (.int .i64 0)).setCell ⟨bc, 7, none⟩ (.slice aa ns.length ac)) := by
                      repeat (with_reducible (refine Chg.setCell ?_ (Or.inl (by simp)) _))
                      exact Chg.refl _ _
                    have hown9 := owns_chg HOY.out hcs (fun q hq hm => by
                      have h1 := HOAL.out q hq
                      simp only [List.mem_singleton] at hm
                      omega)
                    refine ⟨⟨c5.kind, c5.name, ⟨7, ⟨#[]⟩, none, 0, 0, 0, 0, aa, ns.length, ac⟩, none, 0, 0, 0⟩, .mk 7 ⟨#[]⟩ [] 0 0 (ns.map exNm), ?_, HK5.out, HN5.out, Or.inr (Or.inr ⟨ns, HNS.out, hnl, rfl⟩), ?_, rfl, rfl, rfl, rfl, ?_, ?_⟩
                    · have hh := heap_setCell_same _ bc 7 _ _ (.slice aa ns.length ac) (heap_setCell_same _ bc 6 _ _ (.int .i64 0) (heap_setCell_same _ bc 5 _ _ (.int .i64 0) (heap_setCell_same _ bc 4 _ _ (.slice none 0 0) (heap_setCell_same _ bc 3 _ _ (.string ⟨#[]⟩) (heap_setCell_same _ bc 2 _ _ (.int .i64 7) HB5.out)))))
                      obtain ⟨q1, q2, q3, q4⟩ := HU5.out
                      rw [hh]
                      simp [ClV.cells, q1, q2, q3, q4]
                    · obtain ⟨a', c', hv, h1, h2, h3⟩ := exs_owns (l := ns.map exNm) (M := bd :: bc :: rowOf (.slice va k vc)) (by rw [List.length_map]; exact hown9) (fun q hq hm => by
                        have h1 := HOAL.out q hq
                        rcases List.mem_cons.1 hm with rfl | hm
                        · omega
                        · rcases List.mem_cons.1 hm with rfl | hm
                          · omega
                          · have := HROL.out q hm; omega) (exs_names ns)
                      simp only [Value.slice.injEq] at hv
                      obtain ⟨rfl, _, rfl⟩ := hv
                      exact IsEx.mk (isStrs_nil _) (by simp) (by simpa using h1) h2 h3
                    · exact (HC5.out.trans hcs fun q hq => Or.inr (by simp only [List.mem_singleton] at hq; omega))
                    · exact HD5.out.chg hcs (by simpa using hne) (fun q hq => by simp only [List.mem_singleton] at hq; omega)
                · have t58 : decide ((1 : Int) < ((ns.length : Nat) : Int)) = false := decide_eq_false (by omega)
                  go_wp2_with fail
                  go_meet
                  case rel => exact HBY2.out
              case rest =>
                obtain ⟨wz, rfl⟩ : ∃ wz : World, wz = wc := ⟨_, rfl⟩
                have HBZ := Lib.hid hcut
                obtain ⟨_, _, _, _, _, _, _, _, _, _, _, _, hdz⟩ := hcut
                have HDZ := Lib.hid hdz
                clear hdz HOY HBY2 HOAL HNS hnl
                go_wp2_with fail
                refine (next_calls HDZ.out 9 (by omega) (by omega)).mono ?_
                rintro r w9 ⟨r9, rfl, hr90, hr99, hd9, hc9⟩
                obtain ⟨c5, e5, hb5, hk5, hn5, he5, hx5, hu5, hu5', hu5'', ha5, hc5, hd5⟩ := HBZ.out.step hc9 hd9 hne
                obtain ⟨b0, b1, b2, b3, b4, b5, b6, b7, b8, b9, bf⟩ := blk10 (show w9.heap[bc]? = some (.cells #[.int .i64 c5.kind, .string c5.name, .int .i64 c5.x.op, .string c5.x.name, .slice c5.x.aw c5.x.nw c5.x.cw, .int .i64 c5.x.lo, .int .i64 c5.x.hi, .slice c5.x.aa c5.x.na c5.x.ca, .slice c5.au c5.nu c5.cu, .int .i64 c5.amount] 36 (0, 0)) from hb5)
                have hlt5 := blk_lt hb5
                have HB5 := Lib.hid hb5
                have HK5 := Lib.hid hk5
                have HN5 := Lib.hid hn5
                have HE5 := Lib.hid he5
                have HX5 := Lib.hid hx5
                have HU5 := Lib.hid (show c5.au = none ∧ c5.nu = 0 ∧ c5.cu = 0 ∧ c5.amount = 0 from ⟨hu5, hu5', hu5'', ha5⟩)
                have HC5 := Lib.hid hc5
                have HD5 := Lib.hid hd5
                clear hd9 hc9 hb5 hk5 hn5 he5 hx5 hu5 hu5' hu5'' ha5 hc5 hd5 HBZ HDZ
                go_upto_if 64 with fail
                go_cut [] (BoxC w wo bd bc (rowOf (.slice va k vc)))
                case first =>
                  by_cases h8 : r9 = 8
                  · have t8 : (r9 == 8) = true := by simp [h8]
                    clear h8
                    go_wp2_with fail
                    go_meet
                    case rel =>
                      have hcs : Chg [bc] w9 (w9.setCell ⟨bc, 0, none⟩ (.int .i64 2)) := (Chg.refl _ _).setCell (Or.inl (by simp)) _
                      refine ⟨⟨2, c5.name, c5.x, none, 0, 0, 0⟩, e5, ?_, Or.inr rfl, HN5.out, HE5.out, ?_, rfl, rfl, rfl, rfl, ?_, ?_⟩
                      · have hh := heap_setCell_same w9 bc 0 _ _ (.int .i64 2) HB5.out
                        obtain ⟨q1, q2, q3, q4⟩ := HU5.out
                        rw [hh]
                        simp [ClV.cells, q1, q2, q3, q4]
                      · refine HX5.out.mono (mask_sub_mask fun q hq hn => ⟨hn, hcs.block q hq fun hm => hn (by simp only [List.mem_singleton] at hm; simp [hm])⟩)
                      · exact (HC5.out.trans hcs fun q hq => Or.inr (by simp only [List.mem_singleton] at hq; omega))
                      · exact HD5.out.chg hcs (by simpa using hne) (fun q hq => by simp only [List.mem_singleton] at hq; omega)
                  · have t8 : (r9 == 8) = false := by simp [h8]
                    clear h8
                    go_wp2_with fail
                    go_meet
                    case rel => exact ⟨c5, e5, HB5.out, HK5.out, HN5.out, HE5.out, HX5.out, HU5.out.1, HU5.out.2.1, HU5.out.2.2.1, HU5.out.2.2.2, HC5.out, HD5.out⟩
                case rest =>
                  obtain ⟨wq, rfl⟩ : ∃ wq : World, wq = wc := ⟨_, rfl⟩
                  clear b0 b1 b2 b3 b4 b5 b6 b7 b8 b9 bf HB5 HK5 HN5 HE5 HX5 HU5 HC5 HD5 hlt5
                  obtain ⟨c6, e6, hb6, hk6, hn6, he6, hx6, hu6, hu6', hu6'', ha6, hc6, hd6⟩ := hcut
                  obtain ⟨b0, b1, b2, b3, b4, b5, b6, b7, b8, b9, bf⟩ := blk10 (show wq.heap[bc]? = some (.cells #[.int .i64 c6.kind, .string c6.name, .int .i64 c6.x.op, .string c6.x.name, .slice c6.x.aw c6.x.nw c6.x.cw, .int .i64 c6.x.lo, .int .i64 c6.x.hi, .slice c6.x.aa c6.x.na c6.x.ca, .slice c6.au c6.nu c6.cu, .int .i64 c6.amount] 36 (0, 0)) from hb6)
                  have hlt6 := blk_lt hb6
                  have HIC := Lib.hid (show IsCla (mask wq (bd :: bc :: rowOf (.slice va k vc))) ⟨c6.kind, c6.name, e6, [], 0⟩ c6 from ⟨rfl, rfl, hx6, by simpa using hu6', by omega, Or.inl ⟨hu6'', hu6''⟩, by simp only; unfold WbsD; trivial, ha6⟩)
                  have HOKC := Lib.hid (show DfnOk ⟨c6.kind, c6.name, e6, [], 0⟩ from ⟨hk6, hn6, he6, rfl, rfl⟩)
                  have HC6 := Lib.hid hc6
                  have HD6 := Lib.hid hd6
                  have hz6 := hc6.size
                  have HOW6 := Lib.hid (owns_chg HOW.out hc6 (fun q hq hm => HBR.out (by simp only [List.mem_singleton] at hm; rw [← hm]; exact mem_rowOf.2 hq)))
                  have hb0w := HD6.out
                  obtain ⟨_, _, _, _, _, _, _, _, hxw, _⟩ := hb0w
                  have hww := hxw.size
                  clear hb6 hk6 hn6 he6 hx6 hu6 hu6' hu6'' ha6 hc6 hd6 hxw
                  go_wp2_with (at_builtin; refine wpList_append_at elemCla rfl _ _ rfl w.heap.size _ k _ rfl HOW6.out _ 1 1 rfl ?f0 rfl ?f1 ?f2 ?f3 ?f4 ?_)
                  case f0 => simp
                  case f1 => simp [Value.oneCell']
                  case f2 => unfold maxLen; omega
                  case f3 => omega
                  case f4 => omega
                  intro v8 w8 hown8 hc8 hw8
                  have HO8 := Lib.hid (show w8.ownsRow w.heap.size 36 10 v8 (k + 1) ((vs ++ [c6]).flatMap ClV.cells) by simpa [ClV.cells] using hown8)
                  have hb8 : bd ∉ rowOf v8 := fun hm => by
                    rcases hw8 bd (mem_rowOf.1 hm) with e | e
                    · exact HBR.out (mem_rowOf.2 e)
                    · omega
                  have hbc8 : bc ∉ rowOf (.slice va k vc) := fun hm => by have := HROL.out bc hm; omega
                  have s1 : Sub (mask wo ([bd] ++ rowOf (.slice va k vc))) (mask wq ([bd] ++ rowOf (.slice va k vc))) := mask_sub_mask fun q hq hn => ⟨hn, HC6.out.block q hq fun hm => hn (List.mem_append_left _ hm)⟩
                  have s2 : Sub (mask wq ([bd] ++ rowOf (.slice va k vc))) (mask w8 ([bd] ++ rowOf v8)) := row_keeps (hc8.weak (fun x hx => List.mem_append_right _ hx)) hw8
                  have s3 : Sub (mask wq (bd :: bc :: rowOf (.slice va k vc))) (mask wq ([bd] ++ rowOf (.slice va k vc))) := mask_less _ (fun y hy => by
                    rcases List.mem_append.1 hy with h | h
                    · simp only [List.mem_singleton] at h; simp [h]
                    · simp [h])
                  have HR8 := Lib.hid ((HR.out.mono (fun p q h => s2 p q (s1 p q h))).snoc (HIC.out.mono (fun p q h => s2 p q (s3 p q h))))
                  have HD8 := Lib.hid (HD6.out.chg hc8 (fun hm => HBR.out hm) (fun q hq => (HOW.out.lt q (mem_rowOf.1 hq)).1))
                  have HOK8 := Lib.hid (show ∀ c ∈ l ++ [⟨c6.kind, c6.name, e6, [], 0⟩], DfnOk c by
                    intro c hc
                    rcases List.mem_append.1 hc with h | h
                    · exact HOK.out c h
                    · simp only [List.mem_singleton] at h; rw [h]; exact HOKC.out)
                  have HLK8 := Lib.hid (show (l ++ [(⟨c6.kind, c6.name, e6, [], 0⟩ : Cla)]).length = k + 1 by simp [HLK.out])
                  obtain ⟨a8, c8, hv8⟩ := owns_form hown8
                  subst hv8
                  clear hown8 hc8 hw8 s1 s2 s3
                  have HB8 := Lib.hid hb8
                  clear hb8
                  go_wp2_with fail
                  go_roundw
                  case rel => exact ⟨k + 1, _, _, by omega, by go_num, HLK8.out, HOK8.out, HO8.out, HR8.out, HD8.out, HB8.out⟩
                  case measure => simp [intOf]; omega
    · have t1 : decide ((k : Int) < 1 + n0) = false := by simp; omega
      obtain ⟨a', c', hv, hcl⟩ := clas_owns (M := [bd]) (by rw [HLK.out]; exact HOW.out) (fun q hq hm => HBR.out (by simp only [List.mem_singleton] at hm; rw [← hm]; exact mem_rowOf.2 hq)) (HR.out.mono (mask_less _ (fun y hy => List.mem_append_left _ hy)))
      have HCL := Lib.hid hcl
      have HV := Lib.hid hv
      obtain ⟨_, _, _, _, _, _, _, _, hxw, _⟩ := HDK.out
      have HXW := Lib.hid hxw
      clear hcl hv hxw
      go_wp2_with fail
      go_ret
      rw [HV.out]
      exact ⟨l, a', _, c', rfl, HCL.out.mono (mask_sub _ _), HOK.out, by have := HLK.out; omega, HXW.out⟩
end Go.Proofs.Ytfjlglefodndjaa

namespace Go.Proofs.Ytfjlglefodndjaa
open Go.RowKit

/-- Marks in a row of its own. -/
structure SeenAt (bs : Nat) (L : List Bool) (w : World) : Prop where
  row : ∃ cur : Array Value, w.heap[bs]? = some (.cells cur 4 (0, 0)) ∧ cur.toList = L.map Value.bool
theorem SeenAt.cell {bs : Nat} {L : List Bool} {w : World} (h : SeenAt bs L w) {i : Nat} (hi : i < L.length) : w.cell? ⟨bs, i, none⟩ = some (.bool L[i]) := by
  obtain ⟨cur, h1, h2⟩ := h.row
  rw [blk_cell h1]
  have : cur.toList[i]? = some (.bool L[i]) := by rw [h2]; simp [hi]
  simpa using this
theorem SeenAt.free {bs : Nat} {L : List Bool} {w : World} (h : SeenAt bs L w) (i : Nat) : w.frozen? ⟨bs, i, none⟩ = false := by
  obtain ⟨cur, h1, h2⟩ := h.row
  exact blk_free h1 i
theorem SeenAt.lt {bs : Nat} {L : List Bool} {w : World} (h : SeenAt bs L w) : bs < w.heap.size := by
  obtain ⟨cur, h1, h2⟩ := h.row
  exact blk_lt h1
theorem SeenAt.ext {bs : Nat} {L : List Bool} {w w' : World} (h : SeenAt bs L w) (hx : Ext w w') : SeenAt bs L w' := by
  obtain ⟨cur, h1, h2⟩ := h.row
  exact ⟨cur, hx.blk h1, h2⟩
theorem SeenAt.set {bs : Nat} {L : List Bool} {w : World} (h : SeenAt bs L w) (i : Nat) (b : Bool) : SeenAt bs (L.set i b) (w.setCell ⟨bs, i, none⟩ (.bool b)) := by
  obtain ⟨cur, h1, h2⟩ := h.row
  refine ⟨_, heap_setCell_same w bs i _ _ (.bool b) h1, ?_⟩
  simp [h2, List.map_set]
theorem SeenAt.of_owns {w : World} {base bs n : Nat} (h : w.ownsRow base 4 1 (.slice (some ⟨bs, 0, none⟩) n n) n (madeCells #[Value.bool false] n).toList) : SeenAt bs (List.replicate n false) w := by
  rcases h.2 with ⟨h0, _⟩ | ⟨g, cap, cur, hv, _, hg, _, _, hs, ht⟩
  · simp at h0
  · simp only [Value.slice.injEq, Option.some.injEq, Addr.mk.injEq, and_true, true_and] at hv
    obtain ⟨rfl, rfl⟩ := hv
    refine ⟨cur, hg, ?_⟩
    have e1 : cur.toList.take (n * 1) = cur.toList := List.take_of_length_le (by simp; omega)
    rw [e1] at ht
    rw [ht]
    simp only [madeCells, List.map_replicate]
    apply List.ext_getElem
    · simp
    · intro i h1 h2
      simp [Nat.mod_one]
/-- What is seen after p of the order. -/
def seenL (o : List Nat) (n p : Nat) : List Bool := (List.range n).map fun j => decide (j ∈ o.take p)
theorem seenL_zero (o : List Nat) (n : Nat) : seenL o n 0 = List.replicate n false := by
  unfold seenL
  simp [List.map_const']
theorem seenL_len (o : List Nat) (n p : Nat) : (seenL o n p).length = n := by simp [seenL]
theorem seenL_at {o : List Nat} {n p j : Nat} (hj : j < n) : (seenL o n p)[j]'(by rw [seenL_len]; exact hj) = decide (j ∈ o.take p) := by simp [seenL]
theorem seenL_succ {o : List Nat} {n p : Nat} (hp : p < o.length) : (seenL o n p).set o[p] true = seenL o n (p + 1) := by
  apply List.ext_getElem
  · simp [seenL]
  · intro j h1 h2
    simp only [List.getElem_set]
    have hj : j < n := by simpa [seenL] using h2
    have e1 : (seenL o n (p + 1))[j] = decide (j ∈ o.take (p + 1)) := seenL_at hj
    have e2 : (seenL o n p)[j]'(by rw [seenL_len]; exact hj) = decide (j ∈ o.take p) := seenL_at hj
    rw [e1, List.take_succ_eq_append_getElem hp]
    by_cases e : o[p] = j
    · rw [if_pos e]
      symm
      rw [decide_eq_true_eq, ← e]
      exact List.mem_append.2 (Or.inr (by simp))
    · rw [if_neg e, e2]
      congr 1
      simp only [List.mem_append, List.mem_singleton]
      exact propext ⟨Or.inl, fun h => h.resolve_right fun h => e h.symm⟩
theorem elemBools : ElemT 29 4 (.bool false) 1 1 := ⟨by kernel_rfl, by kernel_rfl, rfl, by omega⟩
theorem cond_sizes {e : Ex} (h : CondOk e) : e.size ≤ 4 ∧ e.fits := by
  rcases h with rfl | ⟨s, ⟨b, rfl⟩, rfl⟩ | ⟨ns, h1, h2, rfl⟩
  · exact ⟨by unfold exTrue; rw [size_plain]; omega, fits_plain (by show 0 ≤ _; omega)⟩
  · exact ⟨by unfold exNm; rw [size_plain]; omega, fits_plain (by rw [size1]; omega)⟩
  · have hs : sizes (ns.map exNm) = ns.length := by
      clear h1 h2
      induction ns with
      | nil => simp [sizes]
      | cons x r ih => simp only [List.map_cons, sizes, ih]; rw [exNm, size_plain]; simp; omega
    refine ⟨by simp [Ex.size, hs]; omega, ?_⟩
    unfold Ex.fits
    refine ⟨by show 0 ≤ _; omega, by simp, ?_⟩
    clear h2 hs
    induction ns with
    | nil => simp only [List.map_nil]; unfold fitsAll; trivial
    | cons x r ih =>
      simp only [List.map_cons]
      unfold fitsAll
      obtain ⟨b, rfl⟩ := h1 x (by simp)
      exact ⟨fits_plain (by rw [size1]; omega), ih fun s hs => h1 s (by simp [hs])⟩
theorem defs_sizes {l : List Cla} (h : ∀ x ∈ l, DfnOk x) : ∀ x ∈ l.map Cla.cl, x.cond.size ≤ 100000 ∧ x.cond.fits ∧ x.name.size ≤ 1000000000000000 := by
  intro x hx
  obtain ⟨c, hc, rfl⟩ := List.mem_map.1 hx
  obtain ⟨_, ⟨b, hb⟩, h3, _⟩ := h c hc
  obtain ⟨s1, s2⟩ := cond_sizes h3
  refine ⟨by simp only [Cla.cl]; omega, s2, ?_⟩
  simp only [Cla.cl]
  rw [hb, size1]; omega
def B1 (w2 : World) (bs n : Nat) (o : List Nat) (i : Value) (wr : World) : Prop := ∃ p : Nat, p ≤ o.length ∧ i = .int .i64 p ∧ SeenAt bs (seenL o n p) wr ∧ Ext w2 wr
def B2 (w5 : World) (m : Nat) (i : Value) (wr : World) : Prop := ∃ k : Nat, k ≤ m ∧ i = .int .i64 k ∧ Ext w5 wr
def B3 (w5 : World) (l : List Cla) (x : ByteArray) (n : Nat) (i : Value) (wr : World) : Prop := ∃ j : Nat, j ≤ n ∧ i = .int .i64 j ∧ (∀ q (h : q < l.length), q < j → ¬ (l[q].kind = 1 ∧ l[q].name = x)) ∧ Ext w5 wr
theorem first_is {l : List Cla} {dl : List Dfn} (hdl : dl = (l.map Cla.cl).map Cl.dfn) {j : Nat} (hj : j < l.length) {x : ByteArray} (h1 : l[j].kind = 1 ∧ l[j].name = x) (h2 : ∀ q (h : q < l.length), q < j → ¬ (l[q].kind = 1 ∧ l[q].name = x)) : firstAt dl x = some j := by
  unfold firstAt
  rw [List.findIdx?_eq_some_iff_getElem]
  subst hdl
  refine ⟨by simpa using hj, ?_, fun q hq => ?_⟩
  · simp [Cla.cl, Cl.dfn, h1.1, h1.2]
  · have := h2 q (by omega) hq
    simp only [List.getElem_map, Cla.cl, Cl.dfn, Bool.not_eq_true, Bool.and_eq_false_iff, beq_eq_false_iff_ne, ne_eq, decide_eq_false_iff_not]
    by_cases e : l[q].kind = 1
    · exact Or.inr fun h => this ⟨e, h⟩
    · exact Or.inl e
theorem isDef_cla {l : List Cla} {dl : List Dfn} (hdl : dl = (l.map Cla.cl).map Cl.dfn) {j : Nat} (hj : j < l.length) : isDef dl j = (l[j].kind == 1) := by
  subst hdl
  unfold isDef
  simp [hj, Cla.cl, Cl.dfn]
theorem uses_cla {l : List Cla} {dl : List Dfn} (hdl : dl = (l.map Cla.cl).map Cl.dfn) {j : Nat} (hj : j < l.length) : usesAt dl j = refNames (namesE l[j].cond) := by
  subst hdl
  unfold usesAt
  simp [hj, Cla.cl, Cl.dfn]
set_option maxRecDepth 100000 in
set_option maxHeartbeats 4000000 in
theorem before_calls (la : Option Addr) (ln lc : Nat) (w : World) (h : IntsAt w la ln) (hl : ln ≤ 1000000000000000) : Calls Try.prog 3 #[.slice la ln lc] w (GivesE (.bool true) w) := by
  have HI := Lib.hid h
  clear h
  go_enter Try.func3, Try.ntmps3
  go_wp2_with fail
  refine (defined_calls la ln lc w HI.out hl).mono ?_
  rintro r w1 ⟨l, a, n, c, rfl, hcl, hok, hl9, hx1⟩
  have HCL := Lib.hid hcl
  have HN := Lib.hid hcl.len
  have HOK := Lib.hid hok
  have HX1 := Lib.hid hx1
  have hn9 : n ≤ 9 := by have := hcl.len; omega
  clear hcl hok hx1 HI hl9
  go_wp2_with fail
  refine (order_calls (l.map Cla.cl) a n c w1 HCL.out.cls (by omega) (defs_sizes HOK.out)).mono ?_
  obtain ⟨dl, hdl⟩ : ∃ dl, dl = (l.map Cla.cl).map Cl.dfn := ⟨_, rfl⟩
  rw [← hdl]
  have HDL := Lib.hid hdl
  clear hdl
  rintro r w2 ⟨hx2, ⟨o, oa, oc, ht, rfl, hoi⟩ | ⟨o, h1, h2, rfl⟩⟩
  · have HT := Lib.hid ht
    have HX2 := Lib.hid hx2
    have HOI := Lib.hid hoi
    have hol : o.length ≤ 9 := by
      have h1 := nodup_le o (List.range dl.length) ht.nodup fun x hx => List.mem_range.2 (isDef_lt ((ht.all x).1 hx))
      have h2 := HN.out
      have h3 : dl.length = l.length := by rw [HDL.out]; simp
      simp at h1
      omega
    have HCL2 := Lib.hid (HCL.out.ext hx2)
    obtain ⟨i0, hi0, hz0, hz1, hz2⟩ := info_parts elemBools.info
    clear ht hx2 hoi HCL
    go_wp2_with (at_make; refine wpList_make_full _ rfl _ _ 29 rfl w2.heap.size 4 i0 (.bool false) 1 elemBools.ht hi0 hz0 hz1 _ _ _ _ n rfl rfl rfl rfl ?c1 ?c2 ?c3 ?_)
    case c1 => rw [hz2]; omega
    case c2 => unfold maxLen; omega
    case c3 => omega
    intro w3 hown3 hgrow3
    obtain ⟨bs, hbs⟩ : ∃ bs, bs = w2.heap.size := ⟨_, rfl⟩
    rw [← hbs] at hown3 ⊢
    have HS3 := Lib.hid (SeenAt.of_owns hown3)
    have HX3 := Lib.hid (show Ext w2 w3 from ⟨hgrow3.os, hgrow3.tape, hgrow3.output, hgrow3.size, fun k hk => hgrow3.block k hk (by simp)⟩)
    have HBS := Lib.hid hbs
    clear hown3 hgrow3 hbs
    go_wp2_with fail
    have HXW := Lib.hid (HX1.out.trans HX2.out)
    go_loopw [7] (B1 w2 bs n o) (fun i _ => o.length - (intOf i).toNat)
    case atStart => exact ⟨0, by omega, rfl, by rw [seenL_zero]; exact HS3.out, HX3.out⟩
    case round =>
      obtain ⟨p, hp, rfl, hseen, hx⟩ := hrel
      obtain ⟨wo, rfl⟩ : ∃ wo : World, wo = wr := ⟨_, rfl⟩
      have HSE := Lib.hid hseen
      have HX := Lib.hid hx
      have hbslt := hseen.lt
      clear hseen hx HS3 HX3
      by_cases hpo : p < o.length
      · have t1 : decide ((p : Int) < (o.length : Int)) = true := decide_eq_true (by omega)
        have hpi : p < (ints o).length := by simpa [ints] using hpo
        obtain ⟨ob, ooff, rfl, co⟩ := (HOI.out.mono HX.out.sub).2.2.2 p hpi
        obtain ⟨d, hd⟩ : ∃ d, d = o[p] := ⟨_, rfl⟩
        have e1 : (ints o)[p] = (d : Int) := by simp [ints, hd]
        rw [e1] at co
        have hdd := (HT.out.all d).1 (by rw [hd]; exact List.getElem_mem hpo)
        have hdn : d < l.length := by have := isDef_lt hdd; rw [HDL.out] at this; simpa using this
        have hdn' : d < n := by have := HN.out; omega
        obtain ⟨cb, coff, v, rfl, hcla, hrow⟩ := (HCL2.out.ext HX.out).at hdn
        obtain ⟨c0, c1, c2, c3, c4, c5, c6, c7, c8, c9⟩ := hrow.ten
        have hk1 : v.kind = 1 := by
          have := hdd
          rw [isDef_cla HDL.out hdn] at this
          rw [hcla.1]; simpa using this
        rw [hk1] at c0
        have hLn : d < (seenL o n p).length := by rw [seenL_len]; exact hdn'
        have hcs := HSE.out.cell hLn
        have hns : (seenL o n p)[d] = false := by
          rw [seenL_at hdn', decide_eq_false_iff_not, hd]
          exact not_take HT.out.nodup hpo
        rw [hns] at hcs
        have td0 : decide ((d : Int) < 0) = false := decide_eq_false (by omega)
        have td1 : decide (n ≤ d) = false := decide_eq_false (by omega)
        have HEX := Lib.hid hcla.2.2.1
        have hpo2 : (o[p]? = some d) := by rw [hd]; exact List.getElem?_eq_getElem hpo
        have HAF := Lib.hid (fun s hs q hq => HT.out.after p d hpo2 s hs q hq)
        have HDD := Lib.hid hd
        have HUS := Lib.hid (uses_cla HDL.out hdn)
        have hszc := (cond_sizes (HOK.out _ (List.getElem_mem hdn)).2.2.1)
        have hsz1 := hszc.1
        clear e1 hcla hrow hk1 hns hd hszc
        go_wp2_with fail
        obtain ⟨nm, hnm⟩ : ∃ nm, nm = refNames (namesE l[d].cond) := ⟨_, rfl⟩
        refine (rnames_calls l[d].cond _ _ (by omega) HEX.out).mono ?_
        rw [← hnm]
        rw [← hnm] at HUS
        rintro r w5 ⟨na, nc, rfl, hst, hx5⟩
        have HST := Lib.hid hst
        have HX5 := Lib.hid hx5
        have hnml : nm.length ≤ 4 := by
          rw [hnm]
          exact Nat.le_trans (refNames_len2 _) (Nat.le_trans (namesE_len _) hsz1)
        clear hst hx5 hnm c0 c1 c2 c3 c4 c5 c6 c7 c8 c9 hcs co HEX
        go_wp2_with fail
        go_loopw [9, 10] (fun i _ wr => B2 w5 nm.length i wr) (fun i _ _ => nm.length - (intOf i).toNat)
        case atStart => exact ⟨0, by omega, rfl, Ext.refl _⟩
        case round =>
          obtain ⟨k, hk, rfl, hxk⟩ := hrel
          obtain ⟨wk, rfl⟩ : ∃ wk : World, wk = wr := ⟨_, rfl⟩
          have HXK := Lib.hid hxk
          clear hxk
          by_cases hkm : k < nm.length
          · have t2 : decide ((k : Int) < (nm.length : Int)) = true := decide_eq_true (by omega)
            have HMEM := Lib.hid (List.getElem_mem hkm)
            go_wp2_with fail
            go_loopw [10] (B3 wk l nm[k] n) (fun i _ => n - (intOf i).toNat)
            case atStart => exact ⟨0, by omega, rfl, fun q _ h => by omega, Ext.refl _⟩
            case round =>
              obtain ⟨j, hj, rfl, hnot, hxj⟩ := hrel
              have HNOT := Lib.hid hnot
              have HXJ := Lib.hid hxj
              clear hnot hxj
              by_cases hjn : j < n
              · have t3 : decide ((j : Int) < (n : Int)) = true := decide_eq_true (by omega)
                have hjl : j < l.length := by have := HN.out; omega
                have hXall := (HX.out.trans HX5.out).trans (HXK.out.trans HXJ.out)
                obtain ⟨cb', coff', v', e', hcla, hrow⟩ := (HCL2.out.ext hXall).at hjl
                simp only [Option.some.injEq, Addr.mk.injEq, and_true] at e'
                obtain ⟨rfl, rfl⟩ := e'
                obtain ⟨c0, c1, -, -, -, -, -, -, -, -⟩ := hrow.ten
                have hq1 := hcla.1
                have hq2 := hcla.2.1
                rw [hq1] at c0
                rw [hq2] at c1
                obtain ⟨nb, noff, rfl, cn⟩ := ((HST.out.ext HXK.out).ext HXJ.out).2.2.2 k hkm
                have ti0 : (0 : Int) ≤ (j : Int) := by omega
                have ti1 : (j : Int) < (n : Int) := by omega
                have tk0 : (0 : Int) ≤ (k : Int) := by omega
                have tk1 : (k : Int) < (nm.length : Int) := by omega
                have hLj : j < (seenL o n p).length := by rw [seenL_len]; exact hjn
                have hcs := (HSE.out.ext (HX5.out.trans (HXK.out.trans HXJ.out))).cell hLj
                cases hnq : (l[j].name.toList == nm[k].toList)
                · have HNQ := Lib.hid (show ¬ (l[j].kind = 1 ∧ l[j].name = nm[k]) from fun h => by rw [h.2] at hnq; simp at hnq)
                  clear hcla hrow hq1 hq2 hXall
                  go_wp2_with fail
                  go_quiet (fail)
                  go_wp2_with fail
                  go_roundw
                  case rel =>
                    refine ⟨j + 1, by omega, by go_num, fun q hq hqj => ?_, HXJ.out.drewN _⟩
                    by_cases e : q = j
                    · subst e; exact HNQ.out
                    · exact HNOT.out q hq (by omega)
                  case measure => simp [intOf]; omega
                · have hnm2 := toList_inj (beq_iff_eq.1 hnq)
                  cases hkq : (l[j].kind == 1)
                  · have HNQ := Lib.hid (show ¬ (l[j].kind = 1 ∧ l[j].name = nm[k]) from fun h => by rw [h.1] at hkq; simp at hkq)
                    clear hcla hrow hq1 hq2 hnm2 hXall
                    go_wp2_with fail
                    go_quiet (fail)
                    go_wp2_with fail
                    go_roundw
                    case rel =>
                      refine ⟨j + 1, by omega, by go_num, fun q hq hqj => ?_, HXJ.out.drewN _⟩
                      by_cases e : q = j
                      · subst e; exact HNQ.out
                      · exact HNOT.out q hq (by omega)
                    case measure => simp [intOf]; omega
                  · have hseen1 : (seenL o n p)[j] = true := by
                      rw [seenL_at hjn, decide_eq_true_eq]
                      refine HAF.out nm[k] (by rw [HUS.out]; exact HMEM.out) j (first_is HDL.out hjl ⟨by simpa using hkq, hnm2⟩ HNOT.out)
                    rw [hseen1] at hcs
                    clear hcla hrow hq1 hq2 hnm2 hseen1 hXall
                    go_wp2_with fail
                    go_quiet (fail)
                    go_wp2_with fail
                    go_roundw
                    case rel => exact ⟨k + 1, by omega, by go_num, HXK.out.trans (HXJ.out.drewN _)⟩
                    case measure => simp [intOf]; omega
              · have t3 : decide ((j : Int) < (n : Int)) = false := decide_eq_false (by omega)
                go_wp2_with fail
                go_roundw
                case rel => exact ⟨k + 1, by omega, by go_num, HXK.out.trans HXJ.out⟩
                case measure => simp [intOf]; omega
          · have t2 : decide ((k : Int) < (nm.length : Int)) = false := decide_eq_false (by omega)
            obtain ⟨ob', ooff', e', co⟩ := (HOI.out.mono ((HX.out.trans HX5.out).trans HXK.out).sub).2.2.2 p hpi
            simp only [Option.some.injEq, Addr.mk.injEq, and_true] at e'
            obtain ⟨rfl, rfl⟩ := e'
            have e1 : (ints o)[p] = (d : Int) := by simp [ints, HDD.out]
            rw [e1] at co
            have HSK := Lib.hid (HSE.out.ext (HX5.out.trans HXK.out))
            have hcs := HSK.out.cell hLn
            have hfs := HSK.out.free d
            have HSN := Lib.hid (HSK.out.set d true)
            have e2 : (seenL o n p).set d true = seenL o n (p + 1) := by rw [HDD.out]; exact seenL_succ hpo
            rw [e2] at HSN
            have tn0 : (0 : Int) ≤ (d : Int) := by omega
            have tn1 : (d : Int) < (n : Int) := by omega
            have hbl := HSK.out.lt
            clear e1 e2
            go_wp2_with fail
            go_roundw
            case rel => exact ⟨p + 1, by omega, by go_num, HSN.out, ((HX.out.trans HX5.out).trans HXK.out).setAbove (by simp; rw [HBS.out]; exact Nat.le_refl _) _⟩
            case measure => simp [intOf]; omega
      · have t1 : decide ((p : Int) < (o.length : Int)) = false := decide_eq_false (by omega)
        obtain rfl : p = o.length := by omega
        go_wp2_with fail
        go_loopw [11] (fun i wr => ∃ j : Nat, j ≤ n ∧ i = .int .i64 j ∧ Ext wo wr) (fun i _ => n - (intOf i).toNat)
        case atStart => exact ⟨0, by omega, rfl, Ext.refl _⟩
        case round =>
          obtain ⟨j, hj, rfl, hxj⟩ := hrel
          have HXJ := Lib.hid hxj
          clear hxj
          by_cases hjn : j < n
          · have t3 : decide ((j : Int) < (n : Int)) = true := decide_eq_true (by omega)
            have hjl : j < l.length := by have := HN.out; omega
            obtain ⟨cb', coff', v', rfl, hcla, hrow⟩ := (HCL2.out.ext (HX.out.trans HXJ.out)).at hjl
            obtain ⟨c0, c1, -, -, -, -, -, -, -, -⟩ := hrow.ten
            have hq1 := hcla.1
            rw [hq1] at c0
            have ti0 : (0 : Int) ≤ (j : Int) := by omega
            have ti1 : (j : Int) < (n : Int) := by omega
            have hLj : j < (seenL o n o.length).length := by rw [seenL_len]; exact hjn
            have hcs := (HSE.out.ext HXJ.out).cell hLj
            cases hkq : (l[j].kind == 1)
            · clear hcla hrow hq1 c1
              go_wp2_with fail
              go_roundw
              case rel => exact ⟨j + 1, by omega, by go_num, HXJ.out⟩
              case measure => simp [intOf]; omega
            · have hseen1 : (seenL o n o.length)[j] = true := by
                rw [seenL_at hjn, decide_eq_true_eq, List.take_length]
                exact (HT.out.all j).2 (by rw [isDef_cla HDL.out hjl]; exact hkq)
              rw [hseen1] at hcs
              clear hcla hrow hq1 c1 hseen1
              go_wp2_with fail
              go_roundw
              case rel => exact ⟨j + 1, by omega, by go_num, HXJ.out⟩
              case measure => simp [intOf]; omega
          · have t3 : decide ((j : Int) < (n : Int)) = false := decide_eq_false (by omega)
            go_wp2_with fail
            refine (awake10_calls _).mono ?_
            rintro r w9 ⟨rfl, hx9⟩
            have HX9 := Lib.hid (HXW.out.trans ((HX.out.trans HXJ.out).trans hx9))
            clear hx9
            go_wp2_with fail
            go_ret
            exact ⟨rfl, HX9.out⟩
  · have HX := Lib.hid (HX1.out.trans hx2)
    clear hx2 h1 h2
    go_wp2_with fail
    refine (awake10_calls _).mono ?_
    rintro r w3 ⟨rfl, hx3⟩
    have HX3 := Lib.hid (HX.out.trans hx3)
    clear hx3
    go_wp2_with fail
    go_ret
    exact ⟨rfl, HX3.out⟩
end Go.Proofs.Ytfjlglefodndjaa
