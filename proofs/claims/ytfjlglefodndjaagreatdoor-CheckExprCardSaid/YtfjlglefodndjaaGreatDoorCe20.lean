/-
  Texts of the claim, joined: Twist, Conv, Upto, MadeP, AppAt, GenB.
-/
import Derived.Test.YtfjlglefodndjaaGreatDoorCe19
import Derived.Test.YtfjlglefodndjaaGreatDoorCe07
import Derived.Deep.DeepCutAuto
import Derived.Test.YtfjlglefodndjaaGreatDoorCe01
import Derived.Laws.BytesString
import Derived.Test.YtfjlglefodndjaaGreatDoorCe18
import Derived.Test.YtfjlglefodndjaaGreatDoorCe09
import Derived.Test.YtfjlglefodndjaaGreatDoorCe14
import Derived.Test.YtfjlglefodndjaaGreatDoorCe02
import Derived.Test.YtfjlglefodndjaaGreatDoorCe03
import Derived.Maps.AppendAt
namespace Go.Proofs.YtfjlglefodndjaaGreatDoor
open Go.RowKit

/-! treatylaw10.twisted. -/
def TwOk (k : Nat) (e : Ex) : Prop := e.fits ∧ e.few ∧ e.size ≤ k
def TwDo (m : Nat) : Prop := ∀ (e : Ex) (ev : ExV) (w0 w : World) (bd : Nat) (M : List Nat), e.size ≤ m → e.fits → e.few → DeckAt w0 w bd → IsEx (mask w (bd :: M)) e ev.val → (∀ y ∈ M, y < w.heap.size) →
  Calls Tryz.prog 9 #[ev.val, .pointer (some ⟨bd, 0, none⟩)] w (MadeQ (TwOk e.size) w0 bd (bd :: M) w)
def twNames : List ByteArray := [⟨#[110]⟩, ⟨#[116]⟩, ⟨#[112, 101, 114, 105, 108]⟩, ⟨#[97]⟩, ⟨#[99, 45, 97, 98]⟩, ⟨#[99, 45, 97, 99]⟩, ⟨#[99, 45, 97, 100]⟩, ⟨#[114, 111, 108, 101]⟩, ⟨#[110, 111, 98, 111, 100, 121]⟩]
def twWords : List ByteArray := [⟨#[102, 105, 114, 101]⟩, ⟨#[99, 114, 101, 119]⟩, ⟨#[105, 99, 101]⟩]
theorem twNames_size : ∀ x ∈ twNames, x.size ≤ 16 := by decide +kernel
theorem twWords_size : ∀ x ∈ twWords, x.size ≤ 16 := by decide +kernel
theorem str_cell {w : World} {g : Nat} {l : List ByteArray} {t : TypeId} (h : w.heap[g]? = some (.cells (l.map Value.string).toArray t (0, 0))) {k : Nat} (hk : k < l.length) : w.cell? ⟨g, k, none⟩ = some (.string l[k]) := by
  rw [blk_cell h]; simp [hk]
theorem fits_leaf {op lo hi : Int} {nm : ByteArray} {words : List ByteArray} (h : nm.size ≤ 16) (hw : ∀ x ∈ words, x.size ≤ 16) : (Ex.mk op nm words lo hi []).fits := by
  unfold Ex.fits; exact ⟨by omega, fun x hx => by have := hw x hx; omega, by unfold fitsAll; trivial⟩
theorem few_leaf {op lo hi : Int} {nm : ByteArray} {words : List ByteArray} (h : words.length ≤ 16) : (Ex.mk op nm words lo hi []).few := by
  unfold Ex.few; exact ⟨by omega, by unfold fewAll; trivial⟩
theorem size_leaf {op lo hi : Int} {nm : ByteArray} {words : List ByteArray} : (Ex.mk op nm words lo hi []).size = 1 := by simp [Ex.size, sizes]
theorem fits_mkT {op lo hi : Int} {name : ByteArray} {words : List ByteArray} {args : List Ex} (h1 : name.size ≤ 1000000000000000) (h2 : ∀ x ∈ words, x.size ≤ 1000000000000000) (h3 : ∀ x ∈ args, x.fits) : (Ex.mk op name words lo hi args).fits := by
  unfold Ex.fits
  refine ⟨h1, h2, ?_⟩
  clear h1 h2
  induction args with
  | nil => unfold fitsAll; trivial
  | cons a r ih => unfold fitsAll; exact ⟨h3 a (by simp), ih (fun x hx => h3 x (List.mem_cons_of_mem _ hx))⟩
theorem few_mkT {op lo hi : Int} {name : ByteArray} {words : List ByteArray} {args : List Ex} (h2 : words.length ≤ 1000000000000000) (h3 : ∀ x ∈ args, x.few) : (Ex.mk op name words lo hi args).few := by
  unfold Ex.few
  refine ⟨h2, ?_⟩
  clear h2
  induction args with
  | nil => unfold fewAll; trivial
  | cons a r ih => unfold fewAll; exact ⟨h3 a (by simp), ih (fun x hx => h3 x (List.mem_cons_of_mem _ hx))⟩
theorem tw_args {e e' : Ex} {k : Nat} (hk : k < e.args.length) (hf : e.fits) (hw : e.few) (h : TwOk e.args[k].size e') : TwOk e.size (.mk e.op e.name e.words e.lo e.hi (e.args.set k e')) := by
  have f := fits_parts hf
  have g := few_parts hw
  have hs := sizes_set e.args k hk e'
  have hz := e.size_eq
  have hq := h.2.2
  refine ⟨fits_mkT f.1 f.2.1 fun y hy => ?_, few_mkT g.1 fun y hy => ?_, by simp only [Ex.size]; omega⟩
  · rcases List.mem_or_eq_of_mem_set hy with hy | rfl
    · exact fitsAll_memT f.2.2 y hy
    · exact h.1
  · rcases List.mem_or_eq_of_mem_set hy with hy | rfl
    · exact fewAll_memT g.2 y hy
    · exact h.2.1
/-- The row with one element set anew. -/
theorem tw_row {w w5 W6 W : World} {bd be B g k na : Nat} {M : List Nat} {l : List Ex} {xs : List ExV} {cur : Array Value} {e' : Ex} {v' : ExV} {t : TypeId}
    (hR : ExsR (mask w (bd :: M)) l xs) (hxl : xs.length = na) (hgb : w5.heap[g]? = some (.cells cur t (0, 0))) (hgc : ∀ j, j < na * 6 → cur[j]? = (xs.flatMap ExV.cells)[j]?) (hk6 : k * 6 + 6 ≤ cur.size) (hkx : k < xs.length)
    (hP : W6 = put6at w5 g (k * 6) v') (hcb : Chg [be] W6 W) (hc : Chg [bd] w w5) (he' : IsEx (mask w5 (bd :: (([w.heap.size, w.heap.size + 1, g] : List Nat) ++ M))) e' v'.val) (hbe : be = w.heap.size) (hB : B = w.heap.size + 1) (hg : g ≠ be ∧ g ≠ B ∧ g ≠ bd ∧ w.heap.size ≤ g ∧ g < w5.heap.size) (hM : ∀ y ∈ M, y < w.heap.size) :
    ExsD (mask W (B :: (bd :: M))) (l.set k e') (some ⟨g, 0, none⟩) := by
  subst hbe hB
  obtain ⟨hg1, hg2, hg3, hg4, hg5⟩ := hg
  have hPc : Chg [g] w5 W6 := by rw [hP]; exact put6at_chg _ _ _ _ (by simp)
  have hPcell := put6at_cell (x := v') hgb hk6
  rw [← hP] at hPcell
  have hgN : g ∉ (w.heap.size + 1) :: (bd :: M) := fun h => by
    simp only [List.mem_cons] at h
    rcases h with h | h | h
    · omega
    · omega
    · have := hM g h; omega
  refine ExsD.of (l.set k e') 0 (xs.set k v') (by simp [hR.1]) fun i h1 h2 => ⟨fun j hj => ?_, ?_⟩
  · have hi : i < xs.length := by simpa using h2
    rw [mask_cell, if_neg hgN, hcb.cell' (by simp; omega) (by simp only; have := hPc.size; omega), hPcell]
    by_cases hik : i = k
    · subst hik
      rw [if_pos (by omega)]
      simp only [List.getElem_set_self]
      congr 1
      omega
    · rw [if_neg (by omega), List.getElem_set_ne (fun h => hik h.symm)]
      rw [hgc (0 + i * 6 + j) (by omega)]
      have hq := flatMap_at ExV.cells 6 (fun _ => rfl) xs i hi j (by rw [exV_len]; exact hj)
      rw [Nat.zero_add, hq, List.getElem?_eq_getElem (by rw [exV_len]; exact hj)]
  · by_cases hik : i = k
    · subst hik
      simp only [List.getElem_set_self]
      refine he'.mono (mask_sub_mask fun y hy hn => ?_)
      simp only [List.mem_cons, List.mem_append, not_or, List.not_mem_nil, or_false] at hn ⊢
      exact ⟨⟨hn.2.1.2.1, hn.1, hn.2.2⟩, (hcb.block y (Nat.lt_of_lt_of_le hy hPc.size) (by simpa using hn.2.1.1)).trans (hPc.block y hy (by simpa using hn.2.1.2.2))⟩
    · simp only [List.getElem_set_ne (fun h => hik (Eq.symm h))]
      refine (hR.2 i (by simpa using h1) (by simpa using h2)).mono (mask_sub_mask fun y hy hn => ?_)
      simp only [List.mem_cons, not_or] at hn ⊢
      have h6 := hPc.size
      have h7 := hc.size
      exact ⟨⟨by omega, hn.1, hn.2⟩, (hcb.block y (by omega) (by simp; omega)).trans ((hPc.block y (by omega) (by simp; omega)).trans (hc.block y hy (by simpa using hn.1)))⟩
theorem put6_alloc {w : World} {B : Nat} (h : B < w.heap.size) (x : ExV) (o : Obj) : (put6 w B x).alloc o = put6 (w.alloc o) B x := by
  unfold put6
  simp [World.setCell_alloc_past, h]
set_option maxRecDepth 100000 in
set_option maxHeartbeats 8000000 in
theorem tw_step (m : Nat) (ih : TwDo m) (hm1 : m ≤ 1000) : TwDo (m + 1) := by
  intro e ev w0 w bd M hm hfit hfew hd he hM
  obtain ⟨aw, nw, cw, aa, na, ca, ee, hw, hna, hca, ha, hxs⟩ := he.parts
  have h0w : w0.heap.size ≤ w.heap.size := by obtain ⟨_, _, _, _, _, _, _, _, hx, _⟩ := hd; exact hx.size
  have h0d : w0.heap.size ≤ bd := by obtain ⟨_, _, _, _, _, _, _, _, _, h⟩ := hd; exact h
  have hbd : bd < w.heap.size := by obtain ⟨_, _, _, _, hb, _⟩ := hd; exact blk_lt hb
  have hS : e.size = 1 + sizes e.args := e.size_eq
  have hla := length_le_sizes e.args
  have hnaS : na ≤ 1001 := by omega
  have hsz1 : 1 ≤ e.size := by omega
  have hszm : sizes e.args ≤ m := by omega
  have IH := Lib.hid ih
  have HM := Lib.hid hM
  have HFIT := Lib.hid hfit
  have HFEW := Lib.hid hfew
  have HNA := Lib.hid hna
  have HST := Lib.hid hw
  have HXS := Lib.hid hxs
  have HOA := Lib.hid ha
  have HNAC := Lib.hid hca
  rw [ee]
  unfold exV
  obtain ⟨wb, hwb⟩ : ∃ wb, wb = (w.alloc (.cells #[.int .i64 e.op, .string e.name, .slice aw nw cw, .int .i64 e.lo, .int .i64 e.hi, .slice aa na ca] 29)).alloc (.cells #[.int .i64 0, .string ⟨#[]⟩, .slice none 0 0, .int .i64 0, .int .i64 0, .slice none 0 0] 29) := ⟨_, rfl⟩
  have hxw : Ext w wb := by rw [hwb]; exact ((Ext.refl w).alloc _).alloc _
  have hbe : wb.heap[w.heap.size]? = some (.cells #[.int .i64 e.op, .string e.name, .slice aw nw cw, .int .i64 e.lo, .int .i64 e.hi, .slice aa na ca] 29 (0, 0)) := by rw [hwb]; exact blk_alloc (alloc_new w _)
  have hbr : wb.heap[w.heap.size + 1]? = some (.cells #[.int .i64 0, .string ⟨#[]⟩, .slice none 0 0, .int .i64 0, .int .i64 0, .slice none 0 0] 29 (0, 0)) := by rw [hwb]; exact alloc_at (by simp)
  have HDW := Lib.hid (hd.ext hxw)
  have HXW := Lib.hid hxw
  have HBE := Lib.hid hbe
  have HBR := Lib.hid hbr
  have hle := blk_lt hbe
  have hlr := blk_lt hbr
  obtain ⟨b0, b1, b2, b3, b4, b5, bf⟩ := blk6 hbe
  clear ih hM hfit hfew hd ee hna hw hxs ha hca he hla hxw hbe hbr hS
  go_enter Tryz.func9, Tryz.ntmps9
  go_upto_region 1 with fail
  rw [← hwb]
  clear hwb
  go_cut [16] (fun s16 wx => ∃ c : Bool, s16 = .bool c ∧ (c = true → 0 < na) ∧ Chg [bd] wb wx ∧ DeckAt w0 wx bd)
  case first =>
    by_cases hp : 0 < na
    · have t1 : decide (0 < (na : Int)) = true := by simp; omega
      have t2 : decide (0 < na) = true := by simp; omega
      go_wp2_with fail
      refine (next_calls HDW.out _ (by omega) (by omega)).mono ?_
      rintro r w1 ⟨r1, rfl, hr0, hr1, hd1, hc1⟩
      have HD1 := Lib.hid hd1
      have HC1 := Lib.hid hc1
      clear hd1 hc1 b0 b1 b2 b3 b4 b5 bf
      go_wp2_with fail
      go_meet
      case rel => exact ⟨_, rfl, fun _ => hp, HC1.out, HD1.out⟩
    · have t1 : decide (0 < (na : Int)) = false := by simp; omega
      have t2 : decide (0 < na) = false := by simp; omega
      go_wp2_with fail
      go_meet
      case rel => exact ⟨false, rfl, fun h => by simp at h, Chg.refl _ _, HDW.out⟩
  case rest =>
  obtain ⟨c, rfl, hcn, hc1, hd1⟩ := hcut
  clear b0 b1 b2 b3 b4 b5 bf
  have HCW := Lib.hid (show Chg [bd] w wc from ((HXW.out.chg [bd]).then hc1))
  have HBE := Lib.hid (hc1.blk HBE.out (by simp; omega))
  have HBR := Lib.hid (hc1.blk HBR.out (by simp; omega))
  have HD1 := Lib.hid hd1
  have HCN := Lib.hid hcn
  have hz1 := hc1.size
  clear hc1 hd1 hcn HDW HXW
  cases c with
  | true =>
    have hnp : 0 < na := HCN.out rfl
    clear HCN
    obtain ⟨b0, b1, b2, b3, b4, b5, bf⟩ := blk6 HBE.out
    have hlE := blk_lt HBE.out
    go_wp2_with fail
    refine (next_calls HD1.out _ (by omega) (by omega)).mono ?_
    rintro r w2 ⟨q, rfl, hq0, hq1, hd2, hc2⟩
    obtain ⟨k, rfl⟩ : ∃ k : Nat, q = (k : Int) := ⟨q.toNat, by omega⟩
    have hkn : k < na := by omega
    have HCW := Lib.hid (HCW.out.then hc2)
    have HBE := Lib.hid (hc2.blk HBE.out (by simp; omega))
    have HBR := Lib.hid (hc2.blk HBR.out (by simp; omega))
    have HD2 := Lib.hid hd2
    have hz2 := hc2.size
    clear hc2 hd2 HD1 b0 b1 b2 b3 b4 b5 bf hlE
    obtain ⟨b0, b1, b2, b3, b4, b5, bf⟩ := blk6 HBE.out
    have hl2 := blk_lt HBR.out
    have hlE := blk_lt HBE.out
    obtain ⟨xs, hR, hcell⟩ := exs_list HXS.out
    have HR := Lib.hid hR
    have HXL := Lib.hid (show xs.length = na by rw [← hR.1, ← HNA.out])
    have HLEN := Lib.hid (show (xs.flatMap ExV.cells).length = na * 6 by rw [length_flatMap_of ExV.cells 6 (fun _ => rfl), ← hR.1, ← HNA.out])
    have HSL := Lib.hid (show 0 < na → ∃ b off, aa = some ⟨b, off, none⟩ ∧ ∀ j (hj : j < (xs.flatMap ExV.cells).length), (w2.alloc (.cells #[] 29)).cell? ⟨b, off + j, none⟩ = some (xs.flatMap ExV.cells)[j] from fun h => by
      obtain ⟨b, off, e1, e2⟩ := hcell (by have := HNA.out; omega)
      exact ⟨b, off, e1, fun j hj => mask_in_sub (HCW.out.alloc _) _ _ (e2 j hj)⟩)
    clear hR hcell
    go_wp2_with (at_builtin; refine wpList_append_all elemEx rfl _ _ rfl w2.heap.size _ 0 [] rfl ?o0 aa na ca (xs.flatMap ExV.cells) rfl ?o1 ?o2 ?o3 ?o4 ?o5 ?o6 ?_)
    case o0 => exact World.ownsRow_lit w2 #[] 0 (Nat.le_refl _) (by simp) rfl
    case o1 => exact HLEN.out
    case o2 => exact fun h => HSL.out h
    case o3 => exact cells_one xs
    case o4 => omega
    case o5 => omega
    case o6 => simp
    intro v3 w3 hown3 hgrow3 hat3
    have HCA := Lib.hid (show Chg [bd] w w3 from (HCW.out.alloc _).grown hgrow3 (fun y hy => by simp only [Value.ownBlock] at hy; injection hy with hy; subst hy; exact Or.inr (by omega)))
    have hrn : ∀ k, k < w2.heap.size → k ∉ rowOf (.slice (some ⟨w2.heap.size, 0, none⟩) 0 0) := fun k hk hm => by have := mem_rowOf.1 hm; simp only [Value.ownBlock] at this; injection this with this; omega
    have HBE := Lib.hid ((grown_chg hgrow3).blk (blk_alloc HBE.out) (hrn _ (by omega)))
    have HBR := Lib.hid ((grown_chg hgrow3).blk (blk_alloc HBR.out) (hrn _ (by omega)))
    have HD3 := Lib.hid ((HD2.out.ext ((Ext.refl w2).alloc _)).chg (grown_chg hgrow3) (hrn _ (by omega)) (fun y hy => by have := mem_rowOf.1 hy; simp only [Value.ownBlock] at this; injection this with this; omega))
    have HO3 := Lib.hid hown3
    have hz3 := hgrow3.size
    simp at hz3
    clear hown3 hgrow3 hat3 hrn b0 b1 b2 b3 b4 b5 bf hl2 hlE
    obtain ⟨g, cap, cur, hv3, hg1, hgb, hgn, hgc, hcapn⟩ : ∃ g cap cur, v3 = .slice (some ⟨g, 0, none⟩) na cap ∧ w2.heap.size ≤ g ∧ w3.heap[g]? = some (.cells cur 29 (0, 0)) ∧ na * 6 ≤ cur.size ∧ (∀ j, j < na * 6 → cur[j]? = (xs.flatMap ExV.cells)[j]?) ∧ na ≤ cap := by
      have h := HO3.out
      rcases h.2 with ⟨_, h0⟩ | ⟨g, cap, cur, h1, h2, h3, h4, h5, h6, h7⟩
      · omega
      · have hq : na ≤ cap := by simpa using h4
        refine ⟨g, cap, cur, by simpa using h1, h2, h3, ?_, fun j hj => ?_, hq⟩
        · rw [h6]
          omega
        · have h8 := congrArg (fun l => l[j]?) h7
          try simp only [Nat.zero_add] at h8
          rw [List.getElem?_take, if_pos hj] at h8
          simpa using h8
    subst hv3
    have HGC := Lib.hid hgc
    have hgl := blk_lt hgb
    have hk6 : k * 6 + 6 ≤ cur.size := by omega
    have hkx : k < xs.length := by have := HXL.out; omega
    have hka : k < e.args.length := by have := HNA.out; omega
    have HCK := Lib.hid (show ∀ j, j < 6 → cur[k * 6 + j]? = xs[k].cells[j]? from fun j hj => by
      have h1 := HGC.out (k * 6 + j) (by omega)
      rw [h1, flatMap_at ExV.cells 6 (fun _ => rfl) xs k hkx j (by rw [exV_len]; exact hj), List.getElem?_eq_getElem (by rw [exV_len]; exact hj)])
    have hsza := sizes_take_succ e.args k hka
    have hszb := sizes_take_le e.args (k + 1)
    have hkm : e.args[k].size ≤ m := by omega
    have HGB := Lib.hid hgb
    have hsub := sub_new (M := M) (N := [w.heap.size, w.heap.size + 1, g]) HCA.out (by simp; omega)
    have HC := Lib.hid (IH.out e.args[k] xs[k] w0 w3 bd ([w.heap.size, w.heap.size + 1, g] ++ M) hkm (fitsAll_memT (fits_parts HFIT.out).2.2 _ (List.getElem_mem hka)) (fewAll_memT (few_parts HFEW.out).2 _ (List.getElem_mem hka)) HD3.out ((HR.out.2 k hka hkx).mono hsub) (fun y hy => by
      rcases List.mem_append.1 hy with hy | hy
      · simp at hy; omega
      · have := HM.out y hy; omega))
    have c0 : w3.cell? ⟨g, k * 6, none⟩ = some (.int .i64 xs[k].op) := by rw [blk_cell hgb]; have := HCK.out 0 (by omega); simpa [ExV.cells] using this
    have c1 : w3.cell? ⟨g, k * 6 + 1, none⟩ = some (.string xs[k].name) := by rw [blk_cell hgb]; have := HCK.out 1 (by omega); simpa [ExV.cells] using this
    have c2 : w3.cell? ⟨g, k * 6 + 2, none⟩ = some (.slice xs[k].aw xs[k].nw xs[k].cw) := by rw [blk_cell hgb]; have := HCK.out 2 (by omega); simpa [ExV.cells] using this
    have c3 : w3.cell? ⟨g, k * 6 + 3, none⟩ = some (.int .i64 xs[k].lo) := by rw [blk_cell hgb]; have := HCK.out 3 (by omega); simpa [ExV.cells] using this
    have c4 : w3.cell? ⟨g, k * 6 + 4, none⟩ = some (.int .i64 xs[k].hi) := by rw [blk_cell hgb]; have := HCK.out 4 (by omega); simpa [ExV.cells] using this
    have c5 : w3.cell? ⟨g, k * 6 + 5, none⟩ = some (.slice xs[k].aa xs[k].na xs[k].ca) := by rw [blk_cell hgb]; have := HCK.out 5 (by omega); simpa [ExV.cells] using this
    unfold ExV.val exV at HC
    clear hsza hszb hgb hgc hsub
    go_wp2_with fail
    refine HC.out.mono ?_
    rintro r w5 ⟨e', v', rfl, hok', he', hd5, hc5⟩
    have HOK5 := Lib.hid hok'
    have HE5 := Lib.hid he'
    have HD5 := Lib.hid hd5
    have HC5 := Lib.hid hc5
    have HGB5 := Lib.hid (hc5.blk HGB.out (by simp; omega))
    have HBE5 := Lib.hid (hc5.blk HBE.out (by simp; omega))
    have HBR5 := Lib.hid (hc5.blk HBR.out (by simp; omega))
    have hz5 := hc5.size
    have cf : ∀ j, w5.frozen? ⟨g, j, none⟩ = false := fun j => frozen_of_row w5 g j cur _ HGB5.out
    clear hok' he' hd5 hc5 c0 c1 c2 c3 c4 c5 HC
    have c0 : w5.cell? ⟨g, k * 6, none⟩ = some (.int .i64 xs[k].op) := by rw [blk_cell HGB5.out]; have := HCK.out 0 (by omega); simpa [ExV.cells] using this
    have c1 : w5.cell? ⟨g, k * 6 + 1, none⟩ = some (.string xs[k].name) := by rw [blk_cell HGB5.out]; have := HCK.out 1 (by omega); simpa [ExV.cells] using this
    have c2 : w5.cell? ⟨g, k * 6 + 2, none⟩ = some (.slice xs[k].aw xs[k].nw xs[k].cw) := by rw [blk_cell HGB5.out]; have := HCK.out 2 (by omega); simpa [ExV.cells] using this
    have c3 : w5.cell? ⟨g, k * 6 + 3, none⟩ = some (.int .i64 xs[k].lo) := by rw [blk_cell HGB5.out]; have := HCK.out 3 (by omega); simpa [ExV.cells] using this
    have c4 : w5.cell? ⟨g, k * 6 + 4, none⟩ = some (.int .i64 xs[k].hi) := by rw [blk_cell HGB5.out]; have := HCK.out 4 (by omega); simpa [ExV.cells] using this
    have c5 : w5.cell? ⟨g, k * 6 + 5, none⟩ = some (.slice xs[k].aa xs[k].na xs[k].ca) := by rw [blk_cell HGB5.out]; have := HCK.out 5 (by omega); simpa [ExV.cells] using this
    unfold ExV.val exV
    go_upto_region 5 with fail
    obtain ⟨W6, hW6⟩ : ∃ W6, W6 = put6at w5 g (k * 6) v' := ⟨_, rfl⟩
    have HW6 := Lib.hid hW6
    have HP6 := Lib.hid (show Chg [g] w5 W6 by rw [hW6]; exact put6at_chg _ _ _ _ (by simp))
    unfold put6at at hW6
    rw [← hW6]
    have HBE6 := Lib.hid (HP6.out.blk HBE5.out (by simp; omega))
    have HBR6 := Lib.hid (HP6.out.blk HBR5.out (by simp; omega))
    have hz6 := HP6.out.size
    clear hW6 c0 c1 c2 c3 c4 c5 cf
    obtain ⟨b0, b1, b2, b3, b4, b5, bf⟩ := blk6 HBE6.out
    obtain ⟨r0, r1, r2, r3, r4, r5, rf⟩ := blk6 HBR6.out
    have hl2 := blk_lt HBR6.out
    have hlE := blk_lt HBE6.out
    go_wp2_with fail
    have HCB := Lib.hid (show Chg [w.heap.size] W6 (W6.setCell ⟨w.heap.size, 5, none⟩ (.slice (some ⟨g, 0, none⟩) na cap)) from (Chg.refl _ _).setCell (Or.inl (by simp)) _)
    have HROW := Lib.hid (tw_row (B := w.heap.size + 1) (t := 29) HR.out HXL.out HGB5.out HGC.out hk6 hkx HW6.out HCB.out (HCA.out.then HC5.out) HE5.out rfl rfl ⟨by omega, by omega, by omega, by omega, by omega⟩ HM.out)
    have HC7 := Lib.hid (show Chg [bd] w (W6.setCell ⟨w.heap.size, 5, none⟩ (.slice (some ⟨g, 0, none⟩) na cap)) from ((HCA.out.then HC5.out).trans HP6.out (by intro y hy; simp at hy; subst hy; exact Or.inr (by omega))).trans HCB.out (by intro y hy; simp at hy; subst hy; exact Or.inr (Nat.le_refl _)))
    have HD7 := Lib.hid (show DeckAt w0 (W6.setCell ⟨w.heap.size, 5, none⟩ (.slice (some ⟨g, 0, none⟩) na cap)) bd from (HD5.out.chg HP6.out (by simp; omega) (by simp; omega)).chg HCB.out (by simp; omega) (by simp; omega))
    refine bodyPost_ret (v := ExV.val ⟨e.op, e.name, aw, nw, cw, e.lo, e.hi, some ⟨g, 0, none⟩, na, cap⟩) (by simp [results, Tryz.results9, go_sem, ExV.val, exV, r0, r1, r2, r3, r4, r5]) rfl ?_
    refine made_fin (e := .mk e.op e.name e.words e.lo e.hi (e.args.set k e')) (B := w.heap.size + 1) (x := ⟨e.op, e.name, aw, nw, cw, e.lo, e.hi, some ⟨g, 0, none⟩, na, cap⟩) HC7.out HD7.out (by omega) hbd (tw_args hka HFIT.out HFEW.out HOK5.out) (IsEx.mk (HST.out.mono (mask_sub_mask fun y hy hn => ?_)) (by have := HNA.out; simp; omega) hcapn (Or.inr ⟨g, 0, rfl⟩) HROW.out)
    simp only [List.mem_cons, not_or] at hn ⊢
    exact ⟨⟨by omega, hn.1, hn.2⟩, HC7.out.block y hy (by simpa using hn.1)⟩
  | false =>
    clear HCN
    have hlE := blk_lt HBE.out
    have hlR := blk_lt HBR.out
    obtain ⟨wn, hwn⟩ : ∃ wn, wn = wc.alloc (.cells (twNames.map Value.string).toArray 9) := ⟨_, rfl⟩
    have hwn' : wn = wc.alloc (.cells #[.string ⟨#[110]⟩, .string ⟨#[116]⟩, .string ⟨#[112, 101, 114, 105, 108]⟩, .string ⟨#[97]⟩, .string ⟨#[99, 45, 97, 98]⟩, .string ⟨#[99, 45, 97, 99]⟩, .string ⟨#[99, 45, 97, 100]⟩, .string ⟨#[114, 111, 108, 101]⟩, .string ⟨#[110, 111, 98, 111, 100, 121]⟩] 9) := hwn
    have HBN := Lib.hid (show wn.heap[wc.heap.size]? = some (.cells (twNames.map Value.string).toArray 9 (0, 0)) by rw [hwn]; exact alloc_new wc _)
    have hxn : Ext wc wn := by rw [hwn]; exact (Ext.refl _).alloc _
    have HDN := Lib.hid (HD1.out.ext hxn)
    have HCN := Lib.hid (HCW.out.then (hxn.chg [bd]))
    have HBR := Lib.hid (hxn.blk HBR.out)
    have hzn := hxn.size
    have hln := blk_lt HBN.out
    clear hwn hxn HD1
    go_wp2_with fail
    rw [← hwn']
    clear hwn'
    refine (next_calls HDN.out _ (by omega) (by omega)).mono ?_
    rintro r w2 ⟨q, rfl, hq0, hq1, hd2, hc2⟩
    obtain ⟨k, rfl⟩ : ∃ k : Nat, q = (k : Int) := ⟨q.toNat, by omega⟩
    have hk9 : k < twNames.length := by show k < 9; omega
    have hkc := str_cell (hc2.blk HBN.out (by simp; omega)) hk9
    have hnmz := twNames_size _ (List.getElem_mem hk9)
    generalize twNames[k] = nm at hkc hnmz
    have HD2 := Lib.hid hd2
    have HC2 := Lib.hid (HCN.out.then hc2)
    have HBR := Lib.hid (hc2.blk HBR.out (by simp; omega))
    have hz2 := hc2.size
    clear hd2 hc2 HDN HCN HBN hk9
    go_wp2_with fail
    refine (next_calls HD2.out _ (by omega) (by omega)).mono ?_
    rintro r w3 ⟨q4, rfl, hr0, hr4, hd3, hc3⟩
    have HD3 := Lib.hid hd3
    have HC3 := Lib.hid (HC2.out.then hc3)
    have HBR3 := Lib.hid (hc3.blk HBR.out (by simp; omega))
    have hz3 := hc3.size
    clear hd3 hc3 HD2 HC2 HBR hkc
    have hq4 : q4 = 0 ∨ q4 = 1 ∨ q4 = 2 ∨ q4 = 3 := by omega
    clear hr0 hr4
    rcases hq4 with rfl | rfl | rfl | rfl
    · obtain ⟨wn, hwn⟩ : ∃ wn, wn = w3.alloc (.cells (twWords.map Value.string).toArray 9) := ⟨_, rfl⟩
      have hwn' : wn = w3.alloc (.cells #[.string ⟨#[102, 105, 114, 101]⟩, .string ⟨#[99, 114, 101, 119]⟩, .string ⟨#[105, 99, 101]⟩] 9) := hwn
      have HBN := Lib.hid (show wn.heap[w3.heap.size]? = some (.cells (twWords.map Value.string).toArray 9 (0, 0)) by rw [hwn]; exact alloc_new w3 _)
      have hxn : Ext w3 wn := by rw [hwn]; exact (Ext.refl _).alloc _
      have HDN := Lib.hid (HD3.out.ext hxn)
      have HCN := Lib.hid (HC3.out.then (hxn.chg [bd]))
      have HBR := Lib.hid (hxn.blk HBR3.out)
      have hzn := hxn.size
      have hln := blk_lt HBN.out
      clear hwn hxn HD3
      go_wp2_with fail
      rw [← hwn']
      clear hwn'
      refine (next_calls HDN.out _ (by omega) (by omega)).mono ?_
      rintro r w4 ⟨q, rfl, hq0, hq1, hd4, hc4⟩
      obtain ⟨k3, rfl⟩ : ∃ k : Nat, q = (k : Int) := ⟨q.toNat, by omega⟩
      have hk3 : k3 < twWords.length := by show k3 < 3; omega
      have hkc := str_cell (hc4.blk HBN.out (by simp; omega)) hk3
      have hwdz := twWords_size _ (List.getElem_mem hk3)
      generalize twWords[k3] = wd at hkc hwdz
      have HD4 := Lib.hid hd4
      have HC4 := Lib.hid (HCN.out.then hc4)
      have HBR := Lib.hid (hc4.blk HBR.out (by simp; omega))
      have hz4 := hc4.size
      clear hd4 hc4 HDN HCN HBN hk3
      obtain ⟨wz, hwz⟩ : ∃ wz, wz = w4.alloc (.cells #[.string wd] 9) := ⟨_, rfl⟩
      have HBZ := Lib.hid (show wz.heap[w4.heap.size]? = some (.cells #[.string wd] 9 (0, 0)) by rw [hwz]; exact alloc_new w4 _)
      have hxz : Ext w4 wz := by rw [hwz]; exact (Ext.refl _).alloc _
      have HDZ := Lib.hid (HD4.out.ext hxz)
      have HCZ := Lib.hid (HC4.out.then (hxz.chg [bd]))
      have HBRZ := Lib.hid (hxz.blk HBR.out)
      have hzz := hxz.size
      clear hxz
      obtain ⟨r0, r1, r2, r3, r4, r5, rf⟩ := blk6 HBR.out
      have hl2 := blk_lt HBR.out
      go_wp2_with fail
      clear r0 r1 r2 r3 r4 r5 rf hl2
      obtain ⟨r0, r1, r2, r3, r4, r5, rf⟩ := blk6 HBRZ.out
      have hl2 := blk_lt HBRZ.out
      have hpa := put6_alloc (B := w.heap.size + 1) (w := w4) (by omega) ⟨4, nm, some ⟨w4.heap.size, 0, none⟩, 1, 1, 0, 0, none, 0, 0⟩ (.cells #[.string wd] 9)
      unfold put6 at hpa
      dsimp only at hpa
      rw [hpa, ← hwz]
      clear hwz hpa
      refine bodyPost_ret (v := ExV.val ⟨4, nm, some ⟨w4.heap.size, 0, none⟩, 1, 1, 0, 0, none, 0, 0⟩) (by simp [results, Tryz.results9, go_sem, ExV.val, exV, r0, r1, r2, r3, r4, r5]) rfl ?_
      refine made_fin (e := .mk 4 nm [wd] 0 0 []) (B := w.heap.size + 1) (x := ⟨4, nm, some ⟨w4.heap.size, 0, none⟩, 1, 1, 0, 0, none, 0, 0⟩) HCZ.out HDZ.out (by omega) hbd ⟨fits_leaf hnmz (by simpa using hwdz), few_leaf (by simp), by rw [size_leaf]; omega⟩ (IsEx.mk (isStrs_mask (isStrs_block (l := [wd]) HBZ.out rfl) fun b off h => ?_) rfl (Nat.le_refl _) (Or.inl ⟨rfl, rfl⟩) (by unfold ExsD; trivial))
      simp only [Option.some.injEq, Addr.mk.injEq] at h
      obtain ⟨rfl, _⟩ := h
      intro hm'
      simp only [List.mem_cons] at hm'
      rcases hm' with h | h | h
      · omega
      · omega
      · have := HM.out _ h; omega
    · go_wp2_with fail
      refine (range_calls HD3.out (-9) 9 (by omega) (by omega) (by omega)).mono ?_
      rintro r w4 ⟨q, rfl, hq0, hq1, hd4, hc4⟩
      have HD4 := Lib.hid hd4
      have HC4 := Lib.hid (HC3.out.then hc4)
      have HBR4 := Lib.hid (hc4.blk HBR3.out (by simp; omega))
      have hz4 := hc4.size
      clear hd4 hc4 HD3 HC3 HBR3
      go_wp2_with fail
      refine (next_calls HD4.out _ (by omega) (by omega)).mono ?_
      rintro r w5 ⟨q5, rfl, hq50, hq51, hd5, hc5⟩
      have HD5 := Lib.hid hd5
      have HC5 := Lib.hid (HC4.out.then hc5)
      have HBR5 := Lib.hid (hc5.blk HBR4.out (by simp; omega))
      clear hd5 hc5 HD4 HC4 HBR4
      obtain ⟨r0, r1, r2, r3, r4, r5, rf⟩ := blk6 HBR5.out
      have hl2 := blk_lt HBR5.out
      go_wp2_with fail
      refine bodyPost_ret (v := ExV.val ⟨5, nm, none, 0, 0, q, 9 + q5, none, 0, 0⟩) (by simp [results, Tryz.results9, go_sem, ExV.val, exV, r0, r1, r2, r3, r4, r5]) rfl ?_
      exact made_fin (e := .mk 5 nm [] q (9 + q5) []) (B := w.heap.size + 1) (x := ⟨5, nm, none, 0, 0, q, 9 + q5, none, 0, 0⟩) HC5.out HD5.out (by omega) hbd ⟨fits_leaf hnmz (by simp), few_leaf (by simp), by rw [size_leaf]; omega⟩ (IsEx.mk (isStrs_nil _) rfl (Nat.le_refl _) (Or.inl ⟨rfl, rfl⟩) (by unfold ExsD; trivial))
    all_goals
      obtain ⟨r0, r1, r2, r3, r4, r5, rf⟩ := blk6 HBR3.out
      have hl2 := blk_lt HBR3.out
      go_wp2_with fail
      refine bodyPost_ret (v := ExV.val ⟨3, nm, none, 0, 0, 0, 0, none, 0, 0⟩) (by simp [results, Tryz.results9, go_sem, ExV.val, exV, r0, r1, r2, r3, r4, r5]) rfl ?_
      exact made_fin (e := .mk 3 nm [] 0 0 []) (B := w.heap.size + 1) (x := ⟨3, nm, none, 0, 0, 0, 0, none, 0, 0⟩) HC3.out HD3.out (by omega) hbd ⟨fits_leaf hnmz (by simp), few_leaf (by simp), by rw [size_leaf]; omega⟩ (IsEx.mk (isStrs_nil _) rfl (Nat.le_refl _) (Or.inl ⟨rfl, rfl⟩) (by unfold ExsD; trivial))
theorem twisted_calls (m : Nat) (hm : m ≤ 1001) : TwDo m := by
  induction m with
  | zero => intro e ev w0 w bd M h; have := size_pos e; omega
  | succ m ih => exact tw_step m (ih (by omega)) (by omega)
end Go.Proofs.YtfjlglefodndjaaGreatDoor

namespace Go.Proofs.YtfjlglefodndjaaGreatDoor
open Go.RowKit

theorem uBy : Tryz.prog.underlying 5 = some (.int .u8) := by kernel_rfl
theorem uBs : Tryz.prog.underlying 121 = some (.slice 5) := by kernel_rfl
theorem uSt : Tryz.prog.underlying 9 = some .string := by kernel_rfl
/-- string([]byte{c}) -/
theorem conv_byte (w : World) (x : Nat) (hx : x = w.heap.size) (c : Int) (t : TypeId) : Sem.run Tryz.prog (convert 121 9 (.slice (some ⟨x, 0, none⟩) 1 1)) (w.alloc (.cells #[.int .u8 c] t)) = .ok (.string ⟨#[UInt8.ofNat c.toNat]⟩) (w.alloc (.cells #[.int .u8 c] t)) := by
  subst hx
  rw [run_convert_bytes_string _ _ _ 5 _ _ _ uBs uBy uSt]
  have := run_bytesToString (P := Tryz.prog) (w.alloc (.cells #[.int .u8 c] t)) ⟨w.heap.size, 0, none⟩ 1 1 [c] (by
    refine run_loadCells_list (P := Tryz.prog) _ _ [.int .u8 c] (fun j v hj => ?_)
    have hj0 : j = 0 := by
      have := (List.getElem?_eq_some_iff.1 hj).1
      simpa using this
    subst hj0
    have : (⟨w.heap.size, 0, none⟩ : Addr).add 0 = ⟨w.heap.size, 0, none⟩ := by unfold Addr.add; split <;> simp_all
    rw [this, World.cell?_alloc_at _ _ _ _ rfl]
    simpa using hj)
  rw [this]
  rfl
end Go.Proofs.YtfjlglefodndjaaGreatDoor

namespace Go.Proofs.YtfjlglefodndjaaGreatDoor
open Go.RowKit

/-! The generator: Upto, Left, letters. -/
set_option maxRecDepth 100000 in
set_option maxHeartbeats 4000000 in
theorem upto_calls {w0 w : World} {bd : Nat} (h : DeckAt w0 w bd) (most : Int) (h0 : 0 ≤ most) (h1 : most ≤ 10000000000000) :
    Calls Tryz.prog 74 #[.pointer (some ⟨bd, 0, none⟩), .int .i64 most] w (NextQ 0 (most + 1) w0 bd w) := by
  go_enter Tryz.func74, Tryz.ntmps74
  go_wp2_with fail
  refine (next_calls h 6 (by omega) (by omega)).mono ?_
  rintro e w1 ⟨r, rfl, hr0, hr1, hd, hc⟩
  have HC := Lib.hid hc
  have h4 : ∀ (k : Int), 0 < k → k ≤ 10000000000001 → Calls Tryz.prog 19 #[.pointer (some ⟨bd, 0, none⟩), .int .i64 k] w1 (NextQ 0 k w0 bd w1) := fun k hk hk2 => next_calls hd k hk (by omega)
  have H4 := Lib.hid h4
  clear hc hd h4
  have hr : r = 0 ∨ r = 1 ∨ r = 2 ∨ r = 3 ∨ r = 4 ∨ r = 5 := by omega
  clear hr0 hr1
  rcases hr with rfl | rfl | rfl | rfl | rfl | rfl
  all_goals
    go_wp2_with fail
    all_goals
      refine (H4.out _ (by omega) (by omega)).mono ?_
      rintro e w2 ⟨q, rfl, hq0, hq1, hd2, hc2⟩
      have HC2 := Lib.hid (HC.out.then hc2)
      have HD2 := Lib.hid hd2
      clear hc2 hd2 H4 HC
      go_wp2_with fail
      all_goals
        go_ret
        exact ⟨_, rfl, by omega, by omega, HD2.out, HC2.out⟩
def LeftQ (w : World) (e : Ending) (w' : World) : Prop := ∃ b : Bool, e = .returned (.bool b) ∧ Ext w w'
set_option maxRecDepth 100000 in
set_option maxHeartbeats 4000000 in
theorem left_calls {w0 w : World} {bd : Nat} (h : DeckAt w0 w bd) : Calls Tryz.prog 48 #[.pointer (some ⟨bd, 0, none⟩)] w (LeftQ w) := by
  obtain ⟨la, ln, lc, k, hb, hk, hln, hL, hx, hbd⟩ := h
  obtain ⟨c0, c1, cf⟩ := blk2 hb
  clear hL hx hb
  go_enter Tryz.func48, Tryz.ntmps48
  go_wp2_with fail
  go_quiet (fail)
  go_wp2_with fail
  go_ret
  exact ⟨_, rfl, (Ext.refl w).drewN _⟩
/-- string([]byte{a, b}) -/
theorem conv_two (w : World) (x : Nat) (hx : x = w.heap.size) (c d : Int) (t : TypeId) : Sem.run Tryz.prog (convert 121 9 (.slice (some ⟨x, 0, none⟩) 2 2)) (w.alloc (.cells #[.int .u8 c, .int .u8 d] t)) = .ok (.string ⟨#[UInt8.ofNat c.toNat, UInt8.ofNat d.toNat]⟩) (w.alloc (.cells #[.int .u8 c, .int .u8 d] t)) := by
  subst hx
  rw [run_convert_bytes_string _ _ _ 5 _ _ _ uBs uBy uSt]
  have := run_bytesToString (P := Tryz.prog) (w.alloc (.cells #[.int .u8 c, .int .u8 d] t)) ⟨w.heap.size, 0, none⟩ 2 2 [c, d] (by
    refine run_loadCells_list (P := Tryz.prog) _ _ [.int .u8 c, .int .u8 d] (fun j v hj => ?_)
    have : (⟨w.heap.size, 0, none⟩ : Addr).add j = ⟨w.heap.size, j, none⟩ := by unfold Addr.add; split <;> simp_all
    rw [this, World.cell?_alloc_at _ _ _ _ rfl]
    simpa using hj)
  rw [this]
  rfl
def lettersB (p : ByteArray) (k : Nat) : ByteArray := p ++ ⟨#[97 + UInt8.ofNat (k / 26 % 26), 97 + UInt8.ofNat (k % 26)]⟩
theorem lettersB_size (p : ByteArray) (k : Nat) : (lettersB p k).size = p.size + 2 := by unfold lettersB; rw [ByteArray.size_append]; rfl
def LettersQ (p : ByteArray) (k : Nat) (w : World) (e : Ending) (w' : World) : Prop := e = .returned (.string (lettersB p k)) ∧ Ext w w'
set_option maxRecDepth 100000 in
set_option maxHeartbeats 4000000 in
theorem letters_calls (p : ByteArray) (k : Nat) (hk : k ≤ 1000) (hp : p.size ≤ 1000) (w : World) : Calls Tryz.prog 47 #[.string p, .int .i64 k] w (LettersQ p k w) := by
  have kc := conv_two
  go_enter Tryz.func47, Tryz.ntmps47
  go_wp2_with fail
  go_ret
  exact ⟨rfl, (Ext.refl w).alloc _⟩
end Go.Proofs.YtfjlglefodndjaaGreatDoor

namespace Go.Proofs.YtfjlglefodndjaaGreatDoor

/-! Plain bounds of the expressions that are made, whatever the names are. -/
def bndS : Nat → Nat | 0 => 0 | 1 => 1 | d + 2 => 3 * bndS (d + 1) + 1
theorem schemas_ok3 : (schemas.all fun l => l.all fun a => decide (a.name.size ≤ 1000) && (decide (a.words.length ≤ 1000) && a.words.all fun x => decide (x.size ≤ 1000))) = true := by decide +kernel
theorem fitsAll_of : (l : List Ex) → (∀ x ∈ l, x.fits) → fitsAll l
  | [], _ => by unfold fitsAll; trivial
  | e :: r, h => by unfold fitsAll; exact ⟨h e (by simp), fitsAll_of r fun x hx => h x (by simp [hx])⟩
theorem fewAll_of : (l : List Ex) → (∀ x ∈ l, x.few) → fewAll l
  | [], _ => by unfold fewAll; trivial
  | e :: r, h => by unfold fewAll; exact ⟨h e (by simp), fewAll_of r fun x hx => h x (by simp [hx])⟩
theorem bareL_of : (l : List Ex) → (∀ x ∈ l, bareE x = true) → bareL l = true
  | [], _ => by unfold bareL; rfl
  | e :: r, h => by unfold bareL; rw [h e (by simp), bareL_of r fun x hx => h x (by simp [hx])]; rfl
theorem sizes_of {k : Nat} : (l : List Ex) → (∀ x ∈ l, x.size ≤ k) → sizes l ≤ l.length * k
  | [], _ => by simp [sizes]
  | e :: r, h => by
    have h1 := h e (by simp)
    have h2 := sizes_of r fun x hx => h x (by simp [hx])
    simp only [sizes, List.length_cons, Nat.succ_mul]
    omega
structure MadeOk (d : Nat) (e : Ex) : Prop where
  fits : e.fits
  few : e.few
  size : e.size ≤ bndS d
  bare : bareE e = true
theorem bndS_pos (d : Nat) : 1 ≤ bndS (d + 1) := by cases d with | zero => exact Nat.le_refl _ | succ d => simp only [bndS]; omega
theorem atom_okay {attrs : List Attr} (hs : attrs ∈ schemas) {names : List ByteArray} (hn : ∀ x ∈ names, x.size ≤ 1000) {e : Ex} (h : AtomOf attrs names e) (d : Nat) : MadeOk (d + 1) e := by
  have hat : ∀ a ∈ attrs, _ := fun a ha => List.all_eq_true.1 (List.all_eq_true.1 schemas_ok3 attrs hs) a ha
  obtain ⟨op, name, words, lo, hi, args⟩ := e
  obtain ⟨ha, h⟩ := h
  simp only [Ex.args] at ha
  subst ha
  simp only [Ex.op, Ex.name, Ex.words, Ex.lo, Ex.hi] at h
  have key : name.size ≤ 1000 ∧ words.length ≤ 1000 ∧ ∀ x ∈ words, x.size ≤ 1000 := by
    rcases h with ⟨h1, h2, h3, h4, h5⟩ | ⟨h1, h2, h3, h4, h5⟩ | ⟨h1, h2, h3, h4, h5⟩ | ⟨h1, ⟨a, haa, hk, hnm, hne, hnd, hin⟩, h4, h5⟩ | ⟨h1, ⟨a, haa, hk, hnm, hl1, hl2, hl3⟩, h3⟩
    · subst h2 h3; exact ⟨by decide, by simp, by simp⟩
    · subst h2 h3; exact ⟨by decide, by simp, by simp⟩
    · subst h3
      refine ⟨?_, by simp, by simp⟩
      rcases h2 with h2 | ⟨a, haa, _, h2⟩
      · exact hn _ h2
      · have := hat a haa
        simp only [Bool.and_eq_true, decide_eq_true_eq] at this
        rw [h2]; exact this.1
    · have hq := hat a haa
      simp only [Bool.and_eq_true, decide_eq_true_eq, List.all_eq_true] at hq
      exact ⟨by rw [hnm]; exact hq.1, Nat.le_trans (List.Nodup.length_le_of_subset hnd (fun x hx => hin x hx)) hq.2.1, fun x hx => hq.2.2 x (hin x hx)⟩
    · have hq := hat a haa
      simp only [Bool.and_eq_true, decide_eq_true_eq] at hq
      subst h3
      exact ⟨by rw [hnm]; exact hq.1, by simp, by simp⟩
  obtain ⟨k1, k2, k3⟩ := key
  have hb := bndS_pos d
  refine ⟨?_, ?_, ?_, ?_⟩
  · unfold Ex.fits; exact ⟨by omega, fun x hx => by have := k3 x hx; omega, by unfold fitsAll; trivial⟩
  · unfold Ex.few; exact ⟨by omega, by unfold fewAll; trivial⟩
  · simp [Ex.size, sizes]; omega
  · unfold bareE; simp [bareL]
theorem made_okay {attrs : List Attr} (hs : attrs ∈ schemas) {names : List ByteArray} (hn : ∀ x ∈ names, x.size ≤ 1000) : (d : Nat) → (e : Ex) → MadeE attrs names d e → MadeOk d e
  | 0, e, h => h.elim
  | d + 1, e, h => by
    rcases h with h | ⟨hl, h1, h2, h3, h4, h⟩
    · exact atom_okay hs hn h d
    · have ih := fun x hx => made_okay hs hn d x (h x hx)
      have hne : e.args ≠ [] := by intro e0; rw [e0] at hl; simp at hl
      obtain ⟨d, rfl⟩ : ∃ k, d = k + 1 := by
        cases d with
        | succ k => exact ⟨k, rfl⟩
        | zero =>
          obtain ⟨x, hx⟩ := List.exists_mem_of_ne_nil _ hne
          exact (h x hx).elim
      have h3l : e.args.length ≤ 3 := by omega
      have hop : e.op ≠ 3 := by omega
      clear hl
      obtain ⟨op, name, words, lo, hi, args⟩ := e
      simp only [Ex.args, Ex.name, Ex.words, Ex.op] at *
      subst h1 h2
      refine ⟨?_, ?_, ?_, ?_⟩
      · unfold Ex.fits; exact ⟨by show (0 : Nat) ≤ _; omega, by simp, fitsAll_of _ fun x hx => (ih x hx).fits⟩
      · unfold Ex.few; exact ⟨by simp, fewAll_of _ fun x hx => (ih x hx).few⟩
      · have := sizes_of args fun x hx => (ih x hx).size
        have h5 : args.length * bndS (d + 1) ≤ 3 * bndS (d + 1) := Nat.mul_le_mul_right _ h3l
        simp only [Ex.size, bndS]; omega
      · unfold bareE; rw [bareL_of _ fun x hx => (ih x hx).bare]; simp [hop]
end Go.Proofs.YtfjlglefodndjaaGreatDoor

namespace Go.Proofs.YtfjlglefodndjaaGreatDoor
open Go.RowKit

/-- append of elements that were just laid into a block of their own; where the row lies then. -/
theorem wpList_append_at {t e : TypeId} {z : Value} {size bytes : Nat} (E : ElemT t e z size bytes) {ops : Array Oper} {rest : List Oper} {o : Oper} {a : Act} {Q : Exit → Act → World → Prop} {X : World} {arr : Array Value} {tt : TypeId}
    (hgd : o.guard = none) (s x : Operand) (ho : o.op = .call { callee := .builtin .append, args := #[s, x], argTypes := #[t, t] }) (base : Nat) (v : Value) (n : Nat) (xs : List Value) (hs : a.eval s = v) (hown : X.ownsRow base e size v n xs)
    (B m c : Nat) (hx : a.eval x = .slice (some ⟨B, 0, none⟩) m c) (hB : B = X.heap.size) (hl : arr.size = m * size) (h1 : ∀ u ∈ arr.toList, u.oneCell' = true) (hm : n + m ≤ maxLen) (hb : (n + m) * bytes ≤ 140737488355328) (hbase : base ≤ X.heap.size)
    (h : ∀ v' w', w'.ownsRow base e size v' (n + m) (xs ++ arr.toList) → Chg (rowOf v) X w' → (∀ k, v'.ownBlock = some k → v.ownBlock = some k ∨ X.heap.size ≤ k) → wpList Tryz.prog ops Q rest (a.put o.dst v') w') : wpList Tryz.prog ops Q (o :: rest) a (X.alloc (.cells arr tt)) := by
  subst hB
  obtain ⟨i, hi, hz, hsz, hby⟩ := info_parts E.info
  refine wpList_append_own_at (w := X.alloc (.cells arr tt)) hgd s x t ho base e i z size bytes E.ht hi hz hsz hby E.hzs E.hsz v n xs hs (hown.alloc _) ⟨X.heap.size, 0, none⟩ m c arr.toList hx (by simpa using hl) ?_ h1 hm hb (by simp; omega) ?_
  · intro j u hu
    have : (⟨X.heap.size, 0, none⟩ : Addr).add j = ⟨X.heap.size, j, none⟩ := by unfold Addr.add; split <;> simp_all
    rw [this, World.cell?_alloc_at _ _ _ _ rfl]
    simpa using hu
  · intro v' w' h2 h3 _ h5
    refine h v' w' h2 ((((Ext.refl X).alloc _).chg _).trans (grown_chg h3) fun x hx => Or.inl hx) fun k hk => ?_
    rcases h5 with e | e
    · exact Or.inl (e ▸ hk)
    · rw [e] at hk; simp at hk; exact Or.inr (by omega)
theorem Chg.weak {N M : List Nat} {w w' : World} (h : Chg N w w') (hs : ∀ x ∈ N, x ∈ M) : Chg M w w' := ⟨h.os, h.tape, h.output, h.size, fun k hk hn => h.block k hk fun hm => hn (hs k hm)⟩
/-- Under a mask that the row left for a new block, or not. -/
theorem row_keeps {w w' : World} {N : List Nat} {v v' : Value} (hc : Chg (N ++ rowOf v) w w') (hw : ∀ k, v'.ownBlock = some k → v.ownBlock = some k ∨ w.heap.size ≤ k) : Sub (mask w (N ++ rowOf v)) (mask w' (N ++ rowOf v')) := by
  refine mask_sub_mask fun k hk hn => ⟨fun hm => ?_, hc.block k hk hn⟩
  rcases List.mem_append.1 hm with h | h
  · exact hn (List.mem_append_left _ h)
  · rcases hw k (mem_rowOf.1 h) with e | e
    · exact hn (List.mem_append_right _ (mem_rowOf.2 e))
    · omega
end Go.Proofs.YtfjlglefodndjaaGreatDoor

namespace Go.Proofs.YtfjlglefodndjaaGreatDoor
open Go.RowKit

/-! The generator: write-backs. -/
theorem owns_formG {w : World} {base : Nat} {e : TypeId} {size : Nat} {v : Value} {n : Nat} {xs : List Value} (h : w.ownsRow base e size v n xs) : ∃ a c, v = .slice a n c := by
  rcases h.2 with ⟨rfl, rfl⟩ | ⟨g, cap, cur, rfl, _⟩
  · exact ⟨none, 0, rfl⟩
  · exact ⟨_, cap, rfl⟩
def IsWb (w : World) (x : Wb) (v : WbV) : Prop := v.name = x.name ∧ IsEx w x.cond v.x.val ∧ v.nu = x.unl.length ∧ v.nu ≤ v.cu ∧ OkAddr v.au v.cu ∧ WbsD w x.unl v.au
theorem IsWb.mono {w w' : World} {x : Wb} {v : WbV} (h : IsWb w x v) (hs : Sub w w') : IsWb w' x v := ⟨h.1, h.2.1.mono hs, h.2.2.1, h.2.2.2.1, h.2.2.2.2.1, WbsD.mono hs _ _ h.2.2.2.2.2⟩
def WbsR (w : World) (l : List Wb) (vs : List WbV) : Prop := l.length = vs.length ∧ ∀ i (h1 : i < l.length) (h2 : i < vs.length), IsWb w l[i] vs[i]
theorem WbsR.mono {w w' : World} {l : List Wb} {vs : List WbV} (h : WbsR w l vs) (hs : Sub w w') : WbsR w' l vs := ⟨h.1, fun i h1 h2 => (h.2 i h1 h2).mono hs⟩
theorem WbsR.nil (w : World) : WbsR w [] [] := ⟨rfl, fun i h => by simp at h⟩
theorem WbsR.snoc {w : World} {l : List Wb} {vs : List WbV} {c : Wb} {v : WbV} (h : WbsR w l vs) (hc : IsWb w c v) : WbsR w (l ++ [c]) (vs ++ [v]) := by
  refine ⟨by simp [h.1], fun i h1 h2 => ?_⟩
  by_cases hi : i < l.length
  · have hi2 : i < vs.length := by rw [← h.1]; exact hi
    simp only [List.getElem_append_left hi, List.getElem_append_left hi2]
    exact h.2 i hi hi2
  · have e1 : i = l.length := by simp at h1; omega
    subst e1
    simp only [List.getElem_append_right (Nat.le_refl _), List.getElem_append_right (show vs.length ≤ l.length by rw [h.1]; exact Nat.le_refl _), Nat.sub_self, List.getElem_cons_zero]
    simpa [h.1] using hc
theorem elemWb : ElemT 36 77 (.agg #[.string ⟨#[]⟩, .int .i64 0, .string ⟨#[]⟩, .slice none 0 0, .int .i64 0, .int .i64 0, .slice none 0 0, .slice none 0 0]) 8 128 := ⟨by kernel_rfl, by kernel_rfl, rfl, by decide⟩
theorem wbs_owns {w : World} {M : List Nat} {base : Nat} {v : Value} {l : List Wb} {vs : List WbV} (h : w.ownsRow base 77 8 v l.length (vs.flatMap WbV.cells)) (hM : ∀ k, v.ownBlock = some k → k ∉ M) (hR : WbsR (mask w M) l vs) :
    ∃ a c, v = .slice a l.length c ∧ l.length ≤ c ∧ OkAddr a c ∧ WbsD (mask w M) l a := by
  rw [hR.1] at h
  obtain ⟨a, c, rfl, hr⟩ := IsRows.of_owns WbV.len h
  refine ⟨a, c, by rw [hR.1], by rw [hR.1]; exact hr.2.1, hr.2.2.1, ?_⟩
  match l, hR with
  | [], _ => unfold WbsD; trivial
  | e :: r, hR =>
    obtain ⟨b, off, rfl, h1⟩ := hr.2.2.2 0 (by rw [← hR.1]; simp)
    refine WbsD.of (e :: r) off vs hR.1 fun i h3 h4 => ?_
    obtain ⟨q1, q2, q3, q4, q5, q6⟩ := hR.2 i h3 h4
    refine ⟨q1, fun j hj => ?_, q2, q3, q4, q5, q6⟩
    obtain ⟨b', off', e1, h5⟩ := hr.2.2.2 i h4
    simp only [Option.some.injEq, Addr.mk.injEq, and_true] at e1
    obtain ⟨rfl, rfl⟩ := e1
    rw [mask_cell, if_neg (hM _ rfl), h5 j hj]
theorem wbOk_snoc : (l : List Wb) → (n : ByteArray) → (c : Ex) → (u : List Wb) → wbOk l → n.size ≤ 1000000000000000 → c.fits → c.few → c.size ≤ 1000000000000000 → wbOk u → wbOk (l ++ [.mk n c u])
  | [], n, c, u, _, h1, h2, h3, h4, h5 => by simp only [List.nil_append, wbOk]; exact ⟨h1, h2, h3, h4, h5, trivial⟩
  | .mk n' c' u' :: r, n, c, u, h, h1, h2, h3, h4, h5 => by
    rw [wbOk] at h
    rw [List.cons_append, wbOk]
    exact ⟨h.1, h.2.1, h.2.2.1, h.2.2.2.1, h.2.2.2.2.1, wbOk_snoc r n c u h.2.2.2.2.2 h1 h2 h3 h4 h5⟩
theorem wbN_snoc : (l : List Wb) → (n : ByteArray) → (c : Ex) → (u : List Wb) → wbN (l ++ [.mk n c u]) = wbN l + 1 + wbN u
  | [], n, c, u => by simp [wbN]
  | .mk n' c' u' :: r, n, c, u => by rw [List.cons_append, wbN, wbN, wbN_snoc r n c u]; omega
def bndB : Nat → Nat | 0 => 0 | d + 1 => 2 * (1 + bndB d)
def BacksQ (d : Nat) (w0 : World) (bd : Nat) (M : List Nat) (w : World) (e : Ending) (w' : World) : Prop := ∃ l a n c, e = .returned (.slice a n c) ∧ n = l.length ∧ n ≤ c ∧ OkAddr a c ∧ WbsD (mask w' M) l a ∧ wbOk l ∧ wbN l ≤ bndB d ∧ DeckAt w0 w' bd ∧ Chg [bd] w w'
def GnG (w0 wr : World) (bd : Nat) (W : World) : Prop := DeckAt w0 W bd ∧ Chg [bd] wr W
def GnE (bd : Nat) (_ : Nat) (W W' : World) : Prop := Chg [bd] W W'
def GnB (bd q : Nat) (N : List Nat) (k : Nat) (W W' : World) : Prop := Chg (if k = q then bd :: N else [bd]) W W'
/-- The deck, and what has changed: until operation q only the deck, then the row too. -/
def GnL (w0 wr : World) (bd q : Nat) (N : List Nat) (L : List Nat) (W : World) : Prop := DeckAt w0 W bd ∧ Chg (bd :: N) wr W ∧ (q ∉ L → Chg [bd] wr W)
theorem gnl {w0 wr W W' : World} {bd q : Nat} {N L : List Nat} (h : DeckAt w0 W bd ∧ Chg [bd] wr W) (hd : DeckAt w0 W' bd) (hc : Chg [bd] W W') : GnL w0 wr bd q N L W' :=
  ⟨hd, (h.2.then hc).weak (fun y hy => by simp at hy; simp [hy]), fun _ => h.2.then hc⟩
theorem mask_step {W W' : World} {bd : Nat} {N : List Nat} (h : Chg [bd] W W') (hb : bd ∈ N) : Sub (mask W N) (mask W' N) := mask_sub_mask fun k hk hn => ⟨hn, h.block k hk fun hm => hn (by simp only [List.mem_singleton] at hm; rw [hm]; exact hb)⟩
/-- The loop. -/
def BkL (w0 w : World) (d bd bw : Nat) (M : List Nat) (sa : Option Addr) (sn sc : Nat) (v k : Value) (wr : World) : Prop := ∃ (l : List Wb) (vs : List WbV) (q : Int), k = .int .i64 q ∧ q + l.length ≤ 2 ∧ 0 ≤ q ∧ wr.ownsRow (bw + 1) 77 8 v l.length (vs.flatMap WbV.cells) ∧ WbsR (mask wr (bd :: rowOf v ++ M)) l vs ∧
  wbOk l ∧ wbN l ≤ l.length * (1 + bndB d) ∧ DeckAt w0 wr bd ∧ Chg [bd] w wr ∧ wr.heap[bw]? = some (.cells #[.slice sa sn sc] 24 (0, 0))
end Go.Proofs.YtfjlglefodndjaaGreatDoor
