/-
  Texts of the claim, joined: Made2, LawExpr, Ref1, Slim, Ref2.
-/
import Derived.Test.YtfjlglefodndjaaGreatDoorCc08
import Derived.Test.YtfjlglefodndjaaGreatDoorCc03
import Derived.Test.YtfjlglefodndjaaGreatDoorCc01
import Derived.Test.YtfjlglefodndjaaGreatDoorCc06
namespace Go.Proofs.YtfjlglefodndjaaGreatDoor
open Go.RowKit

/-- An expression of at most a depth over a schema and names, as the generator makes it. -/
def MadeE (attrs : List Attr) (names : List ByteArray) : Nat → Ex → Prop
  | 0, _ => False
  | d + 1, e => AtomOf attrs names e ∨ ((e.op = 6 ∧ e.args.length = 1 ∨ (e.op = 7 ∨ e.op = 8) ∧ 2 ≤ e.args.length ∧ e.args.length ≤ 3) ∧ e.name = ⟨#[]⟩ ∧ e.words = [] ∧ e.lo = 0 ∧ e.hi = 0 ∧ ∀ x ∈ e.args, MadeE attrs names d x)
theorem MadeE.atom {attrs : List Attr} {names : List ByteArray} {d : Nat} {e : Ex} (h : AtomOf attrs names e) (hd : 0 < d) : MadeE attrs names d e := by
  obtain ⟨d, rfl⟩ : ∃ k, d = k + 1 := ⟨d - 1, by omega⟩
  exact Or.inl h
theorem MadeQ.mono {P P' : Ex → Prop} {w0 : World} {bd : Nat} {M : List Nat} {w : World} {e : Ending} {w' : World} (h : MadeQ P w0 bd M w e w') (hp : ∀ x, P x → P' x) : MadeQ P' w0 bd M w e w' := by
  obtain ⟨x, v, h1, h2, h3⟩ := h
  exact ⟨x, v, h1, hp x h2, h3⟩

/-- What the operations of 'e.Args = append(e.Args, d.Expr(s, names, deep-1))' leave. -/
def Rd15 (attrs : List Attr) (names : List ByteArray) (d be bd : Nat) (v : Value) (a : Option Addr) (n c : Nat) (an : Option Addr) (nn cn : Nat) (j : Nat) (xs : List ExV) (K : List Nat) (wr : World) : Nat → Value → World → Prop
  | 0, u, _ => u = .pointer (some ⟨be, 5, none⟩)
  | 1, u, _ => u = v
  | 2, u, _ => u = .pointer (some ⟨bd, 0, none⟩)
  | 3, u, _ => u = .agg #[.slice a n c]
  | 4, u, _ => u = .slice an nn cn
  | 5, u, _ => u = .int .i64 ((d : Int) + 1)
  | 6, u, _ => u = .int .i64 (d : Int)
  | 7, u, W => ∃ (e : Ex) (x : ExV), u = x.val ∧ MadeE attrs names d e ∧ IsEx (mask W K) e x.val
  | 8, u, W => ∃ (x0 : Nat) (e : Ex) (x : ExV), u = .slice (some ⟨x0, 0, none⟩) 1 1 ∧ W.heap[x0]? = some (.cells x.cells.toArray 29 (0, 0)) ∧ MadeE attrs names d e ∧ IsEx (mask W K) e x.val ∧ W.ownsRow (be + 1) 29 6 v j (xs.flatMap ExV.cells)
  | 9, u, W => ∃ (g cap : Nat) (e : Ex) (x : ExV), u = .slice (some ⟨g, 0, none⟩) (j + 1) cap ∧ W.ownsRow (be + 1) 29 6 (.slice (some ⟨g, 0, none⟩) (j + 1) cap) (j + 1) ((xs ++ [x]).flatMap ExV.cells) ∧ MadeE attrs names d e ∧ IsEx (mask W (K ++ [g])) e x.val ∧ (v.ownBlock = some g ∨ wr.heap.size ≤ g)
  | 10, u, _ => u = .pointer (some ⟨be, 5, none⟩)
  | _, _, _ => True
def E15 (k : Nat) (W W' : World) : Prop := k = 7 ∨ k = 8 ∨ k = 9 ∨ W = W'
def G15 (v : Value) (w0 wr : World) (bd : Nat) (L : List Nat) (W : World) : Prop := Chg (bd :: rowOf v) wr W ∧ DeckAt w0 W bd ∧ (9 ∉ L → Chg [bd] wr W)
theorem rd15_keeps {ops : Array Oper} {attrs : List Attr} {names : List ByteArray} {d be bd : Nat} {v : Value} {a : Option Addr} {n c : Nat} {an : Option Addr} {nn cn j : Nat} {xs : List ExV} {K : List Nat} {wr : World}
    (hops : (!outlasts ops 11 [9, 10] 7 8 && !outlasts ops 11 [9, 10] 7 9 && !outlasts ops 11 [9, 10] 8 7 && !outlasts ops 11 [9, 10] 8 9 && !outlasts ops 11 [9, 10] 9 7 && !outlasts ops 11 [9, 10] 9 8) = true) :
    ∀ i k u W W', i < 11 → k < 11 → i ≠ k → outlasts ops 11 [9, 10] i k = true → Rd15 attrs names d be bd v a n c an nn cn j xs K wr i u W → E15 k W W' → Rd15 attrs names d be bd v a n c an nn cn j xs K wr i u W' := by
  intro i k u W W' hi hk hne ho hR hE
  simp only [Bool.and_eq_true, Bool.not_eq_true'] at hops
  obtain ⟨⟨⟨⟨⟨q1, q2⟩, q3⟩, q4⟩, q5⟩, q6⟩ := hops
  have hi' : i = 0 ∨ i = 1 ∨ i = 2 ∨ i = 3 ∨ i = 4 ∨ i = 5 ∨ i = 6 ∨ i = 7 ∨ i = 8 ∨ i = 9 ∨ i = 10 := by omega
  have key : ∀ (h : i = 7 ∨ i = 8 ∨ i = 9), W = W' := by
    intro h
    rcases hE with rfl | rfl | rfl | e
    · rcases h with rfl | rfl | rfl
      · exact absurd rfl hne
      · rw [q3] at ho; cases ho
      · rw [q5] at ho; cases ho
    · rcases h with rfl | rfl | rfl
      · rw [q1] at ho; cases ho
      · exact absurd rfl hne
      · rw [q6] at ho; cases ho
    · rcases h with rfl | rfl | rfl
      · rw [q2] at ho; cases ho
      · rw [q4] at ho; cases ho
      · exact absurd rfl hne
    · exact e
  rcases hi' with rfl | rfl | rfl | rfl | rfl | rfl | rfl | rfl | rfl | rfl | rfl
  case inr.inr.inr.inr.inr.inr.inr.inl => rw [← key (by simp)]; exact hR
  case inr.inr.inr.inr.inr.inr.inr.inr.inl => rw [← key (by simp)]; exact hR
  case inr.inr.inr.inr.inr.inr.inr.inr.inr.inl => rw [← key (by simp)]; exact hR
  all_goals exact hR

/-- After j rounds: j arguments have been made. -/
def ArgsI (attrs : List Attr) (names : List ByteArray) (d : Nat) (op k0 : Int) (be bd : Nat) (K0 : List Nat) (w0 wa : World) (k : Value) (wr : World) : Prop := ∃ (l : List Ex) (xs : List ExV) (v : Value), (l.length : Int) ≤ k0 ∧ k = .int .i64 (k0 - l.length) ∧ (∀ e ∈ l, MadeE attrs names d e) ∧
  wr.heap[be]? = some (.cells #[.int .i64 op, .string ⟨#[]⟩, .slice none 0 0, .int .i64 0, .int .i64 0, v] 29 (0, 0)) ∧ wr.ownsRow (be + 1) 29 6 v l.length (xs.flatMap ExV.cells) ∧ ExsR (mask wr (K0 ++ rowOf v)) l xs ∧ Chg [bd] wa wr ∧ DeckAt w0 wr bd

def notV (g : Nat) : ExV := ⟨6, ⟨#[]⟩, none, 0, 0, 0, 0, some ⟨g, 0, none⟩, 1, 1⟩
theorem not_fin {attrs : List Attr} {names : List ByteArray} {d : Nat} {w0 w W : World} {bd B : Nat} {M : List Nat} {v : ExV} {x : Ex} (hc : Chg [bd] w W) (hd : DeckAt w0 W bd) (hB : w.heap.size ≤ B) (hBW : B < W.heap.size) (hbd : bd < w.heap.size) (hm : MadeE attrs names d x) (hx : IsEx (mask W (B :: M)) x v.val) (hM : ∀ y ∈ M, y < W.heap.size) :
    MadeQ (MadeE attrs names (d + 1)) w0 bd M w (.returned (notV W.heap.size).val) ((put6 W B (notV W.heap.size)).alloc (.cells v.cells.toArray 29)) := by
  have h0 : w0.heap.size ≤ bd := by obtain ⟨_, _, _, _, _, _, _, _, _, h⟩ := hd; exact h
  have hp := put6_chg W B (notV W.heap.size) (N := B :: M) (by simp)
  have hp1 := put6_chg W B (notV W.heap.size) (N := [B]) (by simp)
  have hs := put6_size W B (notV W.heap.size)
  generalize put6 W B (notV W.heap.size) = W6 at *
  refine ⟨.mk 6 ⟨#[]⟩ [] 0 0 [x], notV W.heap.size, rfl, ?_, ?_, ?_, ?_⟩
  · exact Or.inr ⟨Or.inl ⟨rfl, rfl⟩, rfl, rfl, rfl, rfl, fun y hy => by simp only [Ex.args, List.mem_singleton] at hy; subst hy; exact hm⟩
  · refine isEx_not (t := 29) (x := v) (alloc_at hs.symm) (fun h => by have := hM _ h; omega) ?_
    exact hx.mono ((hp.alloc _).sub.trans (mask_less _ (fun y hy => List.mem_cons_of_mem _ hy)))
  · exact hd.chg (hp1.alloc _) (by simp; omega) (by simp; omega)
  · exact hc.trans (hp1.alloc _) (by intro y hy; simp at hy; subst hy; exact Or.inr hB)

set_option maxRecDepth 100000 in
set_option maxHeartbeats 8000000 in
theorem dexpr_calls (attrs : List Attr) (names : List ByteArray) (hok : ∀ a ∈ attrs, OkAttr a) (hne : attrs ≠ []) (hl : attrs.length ≤ 1000) (hnl : names.length ≤ 1000) : ∀ (d : Nat), d ≤ 100 → ∀ {w0 w : World} {bd : Nat} (_ : DeckAt w0 w bd) (a : Option Addr) (n c : Nat) (an : Option Addr) (nn cn : Nat) (M : List Nat) (_ : IsSchema (mask w [bd]) attrs (.agg #[.slice a n c])) (_ : IsStrs (mask w [bd]) names an nn cn) (_ : ∀ y ∈ M, y < w.heap.size),
    Calls Tryz.prog 8 #[.pointer (some ⟨bd, 0, none⟩), .agg #[.slice a n c], .slice an nn cn, .int .i64 ((d : Int) + 1)] w (MadeQ (MadeE attrs names (d + 1)) w0 bd M w) := by
  intro d
  induction d using Nat.strongRecOn with
  | _ d ih =>
    intro hd100 w0 w bd hd a n c an nn cn M hs hn hM
    have IH := Lib.hid ih
    have HS := Lib.hid hs
    have HN := Lib.hid hn
    have HM := Lib.hid hM
    have HOK := Lib.hid hok
    have hbd : bd < w.heap.size := by obtain ⟨_, _, _, _, hb, _⟩ := hd; exact blk_lt hb
    have hbd0 : w0.heap.size ≤ bd := by obtain ⟨_, _, _, _, _, _, _, _, _, h⟩ := hd; exact h
    have HDW := Lib.hid (hd.ext (((Ext.refl w).alloc (.cells #[.slice a n c] 24)).alloc (.cells exV0.cells.toArray 29)))
    have HB1 := Lib.hid (blk_alloc (o' := .cells exV0.cells.toArray 29) (alloc_new w (.cells #[.slice a n c] 24)))
    have HB2 := Lib.hid (alloc_at (w := w.alloc (.cells #[.slice a n c] 24)) (o := .cells exV0.cells.toArray 29) (n := w.heap.size + 1) (by simp))
    have HE2 := Lib.hid (fun (W : World) (h : Chg [bd] ((w.alloc (.cells #[.slice a n c] 24)).alloc (.cells exV0.cells.toArray 29)) W) => (((Chg.refl [bd] w).alloc (.cells #[.slice a n c] 24)).alloc (.cells exV0.cells.toArray 29)).then h)
    clear ih hs hn hM hd hok
    go_enter Tryz.func8, Tryz.ntmps8
    go_wp2_with fail
    refine (next_calls HDW.out _ (by omega) (by omega)).mono ?_
    rintro r w1 ⟨r1, rfl, hr0, hr1, hd1, hc1⟩
    have HD1 := Lib.hid hd1
    have HC1 := Lib.hid (HE2.out _ hc1)
    have HB11 := Lib.hid (hc1.blk HB1.out (by simp; omega))
    have HB21 := Lib.hid (hc1.blk HB2.out (by simp; omega))
    clear hd1 hc1 HDW HB1 HB2 HE2
    have hz1 := HC1.out.size
    have hzb := blk_lt HB21.out
    have cs0 := blk_cell HB11.out 0
    simp at cs0
    by_cases hleaf : d = 0 ∨ r1 < 4
    · rcases hleaf with hd0 | hr4
      case' inl =>
        have t1 : decide ((d : Int) + 1 < 2) = true := by simp; omega
        go_wp2_with fail
      case' inr =>
        cases t1 : decide ((d : Int) + 1 < 2)
        all_goals
          have t2 : decide (r1 < 4) = true := by simpa using hr4
          go_wp2_with fail
      all_goals
        refine (next_calls HD1.out _ (by omega) (by omega)).mono ?_
        rintro r w2 ⟨r2, rfl, hs0, hs1, hd2, hc2⟩
        have HD2 := Lib.hid hd2
        have HC2 := Lib.hid (HC1.out.then hc2)
        have HB12 := Lib.hid (hc2.blk HB11.out (by simp; omega))
        have HB22 := Lib.hid (hc2.blk HB21.out (by simp; omega))
        clear hd2 hc2 cs0
        have cs0 := blk_cell HB12.out 0
        simp at cs0
        have hz2 := blk_lt HB22.out
        have hb2 := HB22.out
        unfold exV0 ExV.cells at hb2
        obtain ⟨b0, b1, b2, b3, b4, b5, bf⟩ := blk6 hb2
        clear hb2
        by_cases h10 : r2 = 10
        · subst h10
          go_wp2_with fail
          refine bodyPost_ret (v := (ExV.mk 1 ⟨#[]⟩ none 0 0 0 0 none 0 0).val) (by simp [results, Tryz.results8, go_sem, ExV.val, exV, b0, b1, b2, b3, b4, b5]) rfl ?_
          exact made_fin (e := .mk 1 ⟨#[]⟩ [] 0 0 []) (x := ⟨1, ⟨#[]⟩, none, 0, 0, 0, 0, none, 0, 0⟩) HC2.out HD2.out (by omega) hbd (MadeE.atom ⟨rfl, Or.inl ⟨rfl, rfl, rfl, rfl, rfl⟩⟩ (by omega)) (isEx_plain _ 1 0 0 ⟨#[]⟩)
        · have e10 : (r2 == 10) = false := by simpa using h10
          by_cases h11 : r2 = 11
          · subst h11
            go_wp2_with fail
            refine bodyPost_ret (v := (ExV.mk 2 ⟨#[]⟩ none 0 0 0 0 none 0 0).val) (by simp [results, Tryz.results8, go_sem, ExV.val, exV, b0, b1, b2, b3, b4, b5]) rfl ?_
            exact made_fin (e := .mk 2 ⟨#[]⟩ [] 0 0 []) (x := ⟨2, ⟨#[]⟩, none, 0, 0, 0, 0, none, 0, 0⟩) HC2.out HD2.out (by omega) hbd (MadeE.atom ⟨rfl, Or.inr (Or.inl ⟨rfl, rfl, rfl, rfl, rfl⟩)⟩ (by omega)) (isEx_plain _ 2 0 0 ⟨#[]⟩)
          · have e11 : (r2 == 11) = false := by simpa using h11
            go_wp2_with fail
            refine (atom_calls HD2.out attrs names a n c an nn cn ((w.heap.size + 1) :: M) (HS.out.mono HC2.out.sub) (HN.out.mono HC2.out.sub) HOK.out hne hl hnl (fun q hq => by
              rcases List.mem_cons.1 hq with rfl | hq
              · exact hz2
              · have := HM.out q hq; have := HC2.out.size; omega)).mono ?_
            rintro r w3 ⟨x, v, rfl, hat, hix, hd3, hc3⟩
            have HAT := Lib.hid hat
            have HIX := Lib.hid hix
            have HD3 := Lib.hid hd3
            have HC3 := Lib.hid (HC2.out.then hc3)
            have hb3 := hc3.blk HB22.out (by simp; omega)
            clear hat hix hd3 hc3 b0 b1 b2 b3 b4 b5 bf cs0
            have hz3 := blk_lt hb3
            unfold exV0 ExV.cells at hb3
            obtain ⟨b0, b1, b2, b3, b4, b5, bf⟩ := blk6 hb3
            clear hb3
            unfold ExV.val exV
            go_wp2_with fail
            refine bodyPost_ret (v := v.val) (by simp [results, Tryz.results8, go_sem, ExV.val, exV, b0, b1, b2, b3, b4, b5]) rfl ?_
            exact made_fin (e := x) (x := v) HC3.out HD3.out (by omega) hbd (MadeE.atom HAT.out (by omega)) HIX.out
    · obtain ⟨d', rfl⟩ : ∃ d', d = d' + 1 := ⟨d - 1, by omega⟩
      have t1 : decide (((d' + 1 : Nat) : Int) + 1 < 2) = false := by simp; omega
      have t2 : decide (r1 < 4) = false := by simp; omega
      have hr4 : 4 ≤ r1 := by omega
      clear hleaf
      by_cases h6 : r1 < 6
      · have t3 : decide (r1 < 6) = true := by simpa using h6
        go_wp2_with fail
        refine (IH.out d' (by omega) (by omega) HD1.out a n c an nn cn ((w.heap.size + 1) :: M) (HS.out.mono HC1.out.sub) (HN.out.mono HC1.out.sub) (fun q hq => by
          rcases List.mem_cons.1 hq with rfl | hq
          · exact hzb
          · have := HM.out q hq; omega)).mono ?_
        rintro r w2 ⟨x, v, rfl, hmx, hix, hd2, hc2⟩
        have HMX := Lib.hid hmx
        have HIX := Lib.hid hix
        have HD2 := Lib.hid hd2
        have HC2 := Lib.hid (HC1.out.then hc2)
        have HB22 := Lib.hid (hc2.blk HB21.out (by simp; omega))
        have hz2 := blk_lt HB22.out
        have hb2 := HB22.out
        unfold exV0 ExV.cells at hb2
        clear hmx hix hd2 hc2 cs0
        obtain ⟨b0, b1, b2, b3, b4, b5, bf⟩ := blk6 hb2
        clear hb2
        have HFIN := Lib.hid (not_fin HC2.out HD2.out (show w.heap.size ≤ w.heap.size + 1 by omega) hz2 hbd HMX.out HIX.out (fun q hq => by have := HM.out q hq; have := HC2.out.size; omega))
        unfold ExV.val exV
        go_wp2_with fail
        refine bodyPost_ret (v := (notV w2.heap.size).val) (by simp [results, Tryz.results8, go_sem, notV, ExV.val, exV, b0, b1, b2, b3, b4, b5, hz2]) rfl ?_
        exact HFIN.out
      · have t3 : decide (r1 < 6) = false := by simpa using h6
        have HNB := Lib.hid (alloc_new w1 (.cells #[.int .i64 (r1 + 1), .string ⟨#[]⟩, .slice none 0 0, .int .i64 0, .int .i64 0, .slice none 0 0] 29))
        have HEB := Lib.hid (fun (W : World) (h : Chg [bd] (w1.alloc (.cells #[.int .i64 (r1 + 1), .string ⟨#[]⟩, .slice none 0 0, .int .i64 0, .int .i64 0, .slice none 0 0] 29)) W) => ((Chg.refl [bd] w1).alloc (.cells #[.int .i64 (r1 + 1), .string ⟨#[]⟩, .slice none 0 0, .int .i64 0, .int .i64 0, .slice none 0 0] 29)).then h)
        go_wp2_with fail
        refine (range_calls (HD1.out.ext ((Ext.refl w1).alloc _)) _ _ (by omega) (by omega) (by omega)).mono ?_
        rintro r w2 ⟨k0, rfl, hk0, hk1, hd2, hc2⟩
        have HD2 := Lib.hid hd2
        have HC2 := Lib.hid (HEB.out _ hc2)
        have HX2 := Lib.hid (hc2.blk HNB.out (by simp; omega))
        clear hd2 hc2 HNB HEB cs0
        go_wp2_with fail
        go_loopw [11] (ArgsI attrs names (d' + 1) (r1 + 1) k0 w1.heap.size bd ((w.heap.size + 1) :: w1.heap.size :: bd :: M) w0 w1) (fun k _ => (intOf k).toNat)
        case atStart => exact ⟨[], [], .slice none 0 0, by simp; omega, by simp, by simp, HX2.out, World.ownsRow_nil _ _ _ _, ExsR.nil _, HC2.out, HD2.out⟩
        case round =>
          obtain ⟨l, xs, v, hlk, rfl, hml, hbe, hown, hex, hcr, hdr⟩ := hrel
          clear HD2 HC2 HX2
          have HML := Lib.hid hml
          have HBX := Lib.hid hbe
          have HOW := Lib.hid hown
          have HEX := Lib.hid hex
          have HCR := Lib.hid hcr
          have HDR := Lib.hid hdr
          have hrow : ∀ q ∈ rowOf v, w1.heap.size + 1 ≤ q := fun q hq => (hown.lt q (mem_rowOf.1 hq)).1
          have hrowlt : ∀ q ∈ rowOf v, q < wr.heap.size := fun q hq => (hown.lt q (mem_rowOf.1 hq)).2
          have HROW := Lib.hid hrow
          have HROWL := Lib.hid hrowlt
          have hbel := blk_lt hbe
          have hzr := hcr.size
          obtain ⟨e0, e1, e2, e3, e4, e5, ef⟩ := blk6 hbe
          have cs0 := blk_cell (hcr.blk HB11.out (by simp; omega)) 0
          simp at cs0
          clear hml hbe hown hex hcr hdr hrow hrowlt
          by_cases hlt : (l.length : Int) < k0
          · have t4 : decide (0 < k0 - (l.length : Int)) = true := by simp; omega
            have hl3 : l.length ≤ 3 := by omega
            go_wp2_with fail
            refine wp_region_growL (m := 11) [9, 10] (G15 v w0 wr bd) E15 (Rd15 attrs names (d' + 1) w1.heap.size bd v a n c an nn cn l.length xs (((w.heap.size + 1) :: w1.heap.size :: bd :: M) ++ rowOf v) wr) (by kernel_rfl) (by kernel_rfl) ⟨(Chg.refl _ _).drew, HDR.out.ext ((Ext.refl wr).drew), fun _ => (Chg.refl _ _).drew⟩ (rd15_keeps (by kernel_rfl)) ?_ ?_
            · intro i o hi ho L vs W hiL hnc hG hd ρ hρ
              have hi' : i = 0 ∨ i = 1 ∨ i = 2 ∨ i = 3 ∨ i = 4 ∨ i = 5 ∨ i = 6 ∨ i = 7 ∨ i = 8 ∨ i = 9 ∨ i = 10 := by omega
              clear hi
              have o10 : ρ (.tmp 10) = .pointer (some ⟨w1.heap.size, 0, none⟩) := hρ.out 10 rfl
              have i0 := hρ.ins 0 53 (by omega) rfl (Nat.le_of_ble_eq_true rfl)
              have o0 : ρ (.tmp 0) = .pointer (some ⟨bd, 0, none⟩) := hρ.out 0 rfl
              have o5 : ρ (.tmp 5) = .pointer (some ⟨w.heap.size, 0, none⟩) := hρ.out 5 rfl
              have o2 : ρ (.tmp 2) = .slice an nn cn := hρ.out 2 rfl
              have o3 : ρ (.tmp 3) = .int .i64 ((d' : Int) + 1 + 1) := hρ.out 3 rfl
              have i5 := hρ.ins 5 58 (by omega) rfl (Nat.le_of_ble_eq_true rfl)
              have i2 := hρ.ins 2 55 (by omega) rfl (Nat.le_of_ble_eq_true rfl)
              have i3 := hρ.ins 3 56 (by omega) rfl (Nat.le_of_ble_eq_true rfl)
              have i4 := hρ.ins 4 57 (by omega) rfl (Nat.le_of_ble_eq_true rfl)
              have i6 := hρ.ins 6 59 (by omega) rfl (Nat.le_of_ble_eq_true rfl)
              have i7 := hρ.ins 7 60 (by omega) rfl (Nat.le_of_ble_eq_true rfl)
              have i1 := hρ.ins 1 54 (by omega) rfl (Nat.le_of_ble_eq_true rfl)
              have i8 := hρ.ins 8 61 (by omega) rfl (Nat.le_of_ble_eq_true rfl)
              have i10 := hρ.ins 10 63 (by omega) rfl (Nat.le_of_ble_eq_true rfl)
              have i9 := hρ.ins 9 62 (by omega) rfl (Nat.le_of_ble_eq_true rfl)
              have hcs := hρ.const
              have hfn := hρ.func
              clear hρ
              have HGN := Lib.hid (show ∀ i, i ≠ 9 → G15 v w0 wr bd (L ++ [i]) W from fun i hi => ⟨hG.1, hG.2.1, fun h => hG.2.2 (fun h' => h (List.mem_append_left _ h'))⟩)
              have HG := Lib.hid hG
              have cE := hG.1.cell e5 (fun h => by
                rcases List.mem_cons.1 h with h | h
                · have h2 : w1.heap.size = bd := h; omega
                · have h2 : w1.heap.size + 1 ≤ w1.heap.size := HROW.out _ h; omega)
              have cS := hG.1.cell cs0 (fun h => by
                rcases List.mem_cons.1 h with h | h
                · have h2 : w.heap.size = bd := h; omega
                · have h2 : w1.heap.size + 1 ≤ w.heap.size := HROW.out _ h; omega)
              have hws := hG.1.size
              clear hG e0 e1 e2 e3 e4 e5 ef cs0
              rcases hi' with rfl | rfl | rfl | rfl | rfl | rfl | rfl | rfl | rfl | rfl | rfl
              · cases ho
                unfold GivesOp
                go_simp
                exact ⟨Or.inr (Or.inr (Or.inr rfl)), HGN.out _ (by simp), rfl⟩
              · cases ho
                have h0 : vs 0 = _ := hd ⟨0, .data⟩ (by simp) rfl
                rw [h0] at i0
                unfold GivesOp
                go_simp
                exact ⟨Or.inr (Or.inr (Or.inr rfl)), HGN.out _ (by simp), rfl⟩
              · cases ho
                unfold GivesOp
                go_simp
                exact ⟨Or.inr (Or.inr (Or.inr rfl)), HGN.out _ (by simp), rfl⟩
              · cases ho
                unfold GivesOp
                go_simp
                exact ⟨Or.inr (Or.inr (Or.inr rfl)), HGN.out _ (by simp), rfl⟩
              · cases ho
                unfold GivesOp
                go_simp
                exact ⟨Or.inr (Or.inr (Or.inr rfl)), HGN.out _ (by simp), rfl⟩
              · cases ho
                unfold GivesOp
                go_simp
                exact ⟨Or.inr (Or.inr (Or.inr rfl)), HGN.out _ (by simp), rfl⟩
              · cases ho
                have h5 : vs 5 = _ := hd ⟨5, .data⟩ (by simp) rfl
                rw [h5] at i5
                have ew : IntKind.i64.wrap ((d' : Int) + 1) = (d' : Int) + 1 := IntWalk.i64_in _ (by omega)
                unfold GivesOp
                go_simp
                exact ⟨Or.inr (Or.inr (Or.inr rfl)), HGN.out _ (by simp), rfl⟩
              · cases ho
                have h2 : vs 2 = _ := hd ⟨2, .data⟩ (by simp) rfl
                have h3 : vs 3 = _ := hd ⟨3, .data⟩ (by simp) rfl
                have h4 : vs 4 = _ := hd ⟨4, .data⟩ (by simp) rfl
                have h6' : vs 6 = _ := hd ⟨6, .data⟩ (by simp) rfl
                rw [h2] at i2
                rw [h3] at i3
                rw [h4] at i4
                rw [h6'] at i6
                unfold GivesOp
                go_simp
                have hno : 9 ∉ L := fun h => by have := hnc 9 h; revert this; decide +kernel
                have hCW := HG.out.2.2 hno
                have hCw := HC1.out.then (HCR.out.then hCW)
                refine (IH.out d' (by omega) (by omega) HG.out.2.1 a n c an nn cn (((w.heap.size + 1) :: w1.heap.size :: bd :: M) ++ rowOf v) (HS.out.mono hCw.sub) (HN.out.mono hCw.sub) (fun q hq => by
                  have hz := hCw.size
                  rcases List.mem_append.1 hq with hq | hq
                  · simp only [List.mem_cons] at hq
                    rcases hq with rfl | rfl | rfl | hq
                    · omega
                    · omega
                    · omega
                    · have := HM.out q hq; omega
                  · have := HROWL.out q hq; omega)).mono ?_
                rintro e W' ⟨x, xv, rfl, hmx, hix, hd', hc'⟩
                refine ⟨_, rfl, Or.inl rfl, ⟨HG.out.1.trans hc' (fun q hq => Or.inl (by simp at hq; subst hq; simp)), hd', fun _ => hCW.then hc'⟩, x, xv, rfl, hmx, ?_⟩
                simpa using hix
              · cases ho
                obtain ⟨x, xv, h7, hmx, hix⟩ := hd ⟨7, .data⟩ (by simp) rfl
                rw [h7] at i7
                unfold ExV.val exV at i7
                have hno : 9 ∉ L := fun h => by have := hnc 9 h; revert this; decide +kernel
                have HCW := Lib.hid (HG.out.2.2 hno)
                have HMX := Lib.hid hmx
                have HIX := Lib.hid hix
                clear hmx hix
                unfold GivesOp
                go_simp
                refine ⟨Or.inr (Or.inl rfl), ⟨HG.out.1.alloc _, HG.out.2.1.ext ((Ext.refl W).alloc _), fun _ => HCW.out.alloc _⟩, W.heap.size, x, xv, rfl, alloc_new W _, HMX.out, HIX.out.mono (mask_ext _ ((Ext.refl W).alloc _)), ?_⟩
                exact owns_ext (owns_chg HOW.out HCW.out (fun q hq h => by have h2 : q = bd := List.mem_singleton.1 h; have := (HOW.out.lt q hq).1; omega)) ((Ext.refl W).alloc _)
              · cases ho
                have h1 : vs 1 = _ := hd ⟨1, .data⟩ (by simp) rfl
                obtain ⟨x0, x, xv, h8, hx0, hmx, hix, hxo⟩ := hd ⟨8, .data⟩ (by simp) rfl
                rw [h1] at i1
                rw [h8] at i8
                have hnew : ∀ q (hq : q < xv.cells.length), W.cell? ⟨x0, q, none⟩ = some xv.cells[q] := by
                  intro q hq
                  rw [blk_cell hx0]
                  simp [hq]
                refine gives_append elemEx _ _ (w1.heap.size + 1) _ l.length _ i1 x0 1 1 xv.cells i8 rfl (by simp [ExV.cells, Value.oneCell']) (by omega) (by omega) (by omega) hxo hnew (by omega) ?_
                intro g cap w' ho' hg' hl' _
                have hgc : Chg (rowOf v) W w' := grown_chg hg'
                refine ⟨Or.inr (Or.inr (Or.inl rfl)), ⟨HG.out.1.trans hgc (fun q hq => Or.inl (List.mem_cons_of_mem _ hq)), HG.out.2.1.chg hgc (fun h => by have := HROW.out _ h; omega) (fun q hq => by have := HROW.out q hq; omega), fun h => absurd (by simp) h⟩, g, cap, x, xv, rfl, by rw [List.flatMap_append]; simpa using ho', hmx, hix.mono (mask_sub_mask fun q hq hn => ⟨fun h => by
                  rcases List.mem_append.1 h with h | h
                  · exact hn h
                  · have h2 : q = g := List.mem_singleton.1 h
                    rcases hl' with h3 | h3
                    · exact hn (List.mem_append_right _ (mem_rowOf.2 (h2 ▸ h3)))
                    · omega, hgc.block q hq (fun h => hn (List.mem_append_right _ h))⟩), ?_⟩
                rcases hl' with h | h
                · exact Or.inl h
                · exact Or.inr (by omega)
              · cases ho
                unfold GivesOp
                go_simp
                exact ⟨Or.inr (Or.inr (Or.inr rfl)), HGN.out _ (by simp), rfl⟩
            · intro L vs W _ hG hR
              rw [if_neg (by decide +kernel)]
              obtain ⟨g, cap, x, xv, h9, hown2, hmx, hix, hgl⟩ := hR 9 (by simp) (by omega)
              have h10 : vs 10 = _ := hR 10 (by simp) (by omega)
              have hC := hG.1
              have hbx2 := hC.blk HBX.out (fun h => by
                rcases List.mem_cons.1 h with h | h
                · have h2 : w1.heap.size = bd := h; omega
                · have h2 : w1.heap.size + 1 ≤ w1.heap.size := HROW.out _ h; omega)
              have hbl2 := blk_lt hbx2
              have HBX2 := Lib.hid hbx2
              have HOW2 := Lib.hid hown2
              have HC := Lib.hid hC
              have HDK := Lib.hid hG.2.1
              have HMX := Lib.hid hmx
              have HIX := Lib.hid hix
              have HGL := Lib.hid hgl
              clear e0 e1 e2 e3 e4 e5 ef cs0
              obtain ⟨e0, e1, e2, e3, e4, e5, ef⟩ := blk6 hbx2
              clear hG hR hC hbx2 hown2 hmx hix hgl
              unfold wpOp
              simp only [acts, dstAt, List.range, List.range.loop, List.foldl_cons, List.foldl_nil, h9, h10]
              clear h9 h10
              go_simp
              refine Or.inl ?_
              go_wp2_with fail
              go_roundw
              case rel =>
                have hset := (Chg.refl [w1.heap.size] W).setCell (p := ⟨w1.heap.size, 5, none⟩) (Or.inl (by simp)) (.slice (some ⟨g, 0, none⟩) (l.length + 1) cap)
                have hg1 := (HOW2.out.lt g rfl).1
                have hg2 := (HOW2.out.lt g rfl).2
                refine ⟨l ++ [x], xs ++ [xv], .slice (some ⟨g, 0, none⟩) (l.length + 1) cap, by simp; omega, (by simp; omega), ?_, ?_, ?_, ?_, ?_, ?_⟩
                · intro e he
                  rcases List.mem_append.1 he with he | he
                  · exact HML.out e he
                  · simp at he; subst he; exact HMX.out
                · rw [heap_setCell_same _ _ _ _ _ _ HBX2.out]; rfl
                · rw [List.length_append, List.length_singleton]
                  exact owns_chg HOW2.out hset (fun q hq h => by cases hq; have h2 : g = w1.heap.size := List.mem_singleton.1 h; omega)
                · have hrg : rowOf (.slice (some ⟨g, 0, none⟩) (l.length + 1) cap) = [g] := rfl
                  rw [hrg]
                  refine ExsR.snoc (HEX.out.mono (mask_sub_mask fun q hq hn => ⟨fun h => ?_, ?_⟩)) (HIX.out.mono (mask_sub_mask fun q hq hn => ⟨fun h => ?_, ?_⟩))
                  · rcases List.mem_append.1 h with h | h
                    · exact hn (List.mem_append_left _ h)
                    · have h2 : q = g := List.mem_singleton.1 h
                      rcases HGL.out with h3 | h3
                      · exact hn (List.mem_append_right _ (mem_rowOf.2 (h2 ▸ h3)))
                      · omega
                  · rw [hset.block q (by have := HC.out.size; omega) (fun h => hn (by have h2 : q = w1.heap.size := List.mem_singleton.1 h; simp [h2]))]
                    exact HC.out.block q hq (fun h => hn (by
                      rcases List.mem_cons.1 h with h | h
                      · simp [h]
                      · exact List.mem_append_right _ h))
                  · rcases List.mem_append.1 h with h | h
                    · exact hn (List.mem_append_left _ (List.mem_append_left _ h))
                    · exact hn (List.mem_append_right _ h)
                  · exact hset.block q hq (fun h => hn (by have h2 : q = w1.heap.size := List.mem_singleton.1 h; simp [h2]))
                · refine (HCR.out.trans HC.out (fun q hq => ?_)).trans hset (fun q hq => by have h2 : q = w1.heap.size := List.mem_singleton.1 hq; exact Or.inr (by omega))
                  rcases List.mem_cons.1 hq with rfl | hq
                  · exact Or.inl (by simp)
                  · exact Or.inr (by have := HROW.out q hq; omega)
                · exact HDK.out.chg hset (by rw [List.mem_singleton]; omega) (fun q hq => by have h2 : q = w1.heap.size := List.mem_singleton.1 hq; omega)
              case measure => simp [intOf]; omega
          · have hll : (l.length : Int) = k0 := by omega
            have t4 : decide (0 < k0 - (l.length : Int)) = false := by simp; omega
            have hrb := (HCR.out.blk HB21.out (by simp; omega))
            have hra2 := blk_lt hrb
            unfold exV0 ExV.cells at hrb
            obtain ⟨b0, b1, b2, b3, b4, b5, bf⟩ := blk6 hrb
            obtain ⟨sa, sc, hv, hq1, hq2, hq3⟩ := exs_owns (M := (w.heap.size + 1) :: M) HOW.out (fun q hq h => by
              have h1 := (HOW.out.lt q hq).1
              rcases List.mem_cons.1 h with h | h
              · omega
              · have := HM.out q h; omega) (HEX.out.mono (mask_less _ (fun q hq => List.mem_append_left _ (by
                rcases List.mem_cons.1 hq with h | h
                · simp [h]
                · simp [h]))))
            subst hv
            have HFX := Lib.hid (show IsEx (mask wr ((w.heap.size + 1) :: M)) (.mk (r1 + 1) ⟨#[]⟩ [] 0 0 l) (exV (r1 + 1) ⟨#[]⟩ none 0 0 0 0 sa l.length sc) from IsEx.mk ⟨rfl, by omega, Or.inl ⟨rfl, rfl⟩, fun i hi => by simp at hi⟩ rfl hq1 hq2 hq3)
            have HFM := Lib.hid (show MadeE attrs names (d' + 1 + 1) (.mk (r1 + 1) ⟨#[]⟩ [] 0 0 l) from Or.inr ⟨Or.inr ⟨by simp only [Ex.op]; omega, by simp only [Ex.args]; omega, by simp only [Ex.args]; omega⟩, rfl, rfl, rfl, rfl, HML.out⟩)
            clear hrb hq1 hq2 hq3 hll cs0
            go_wp2_with fail
            refine bodyPost_ret (v := (ExV.mk (r1 + 1) ⟨#[]⟩ none 0 0 0 0 sa l.length sc).val) (by simp [results, Tryz.results8, go_sem, ExV.val, exV, b0, b1, b2, b3, b4, b5]) rfl ?_
            exact made_fin (e := .mk (r1 + 1) ⟨#[]⟩ [] 0 0 l) (x := ⟨r1 + 1, ⟨#[]⟩, none, 0, 0, 0, 0, sa, l.length, sc⟩) (HC1.out.then HCR.out) HDR.out (by omega) hbd HFM.out HFX.out
end Go.Proofs.YtfjlglefodndjaaGreatDoor

namespace Go.Proofs.YtfjlglefodndjaaGreatDoor
open Go.RowKit

instance okAttrDec (a : Attr) : Decidable (OkAttr a) := by unfold OkAttr; infer_instance
theorem schemas_ok : ∀ l ∈ schemas, (∀ a ∈ l, OkAttr a) ∧ l ≠ [] ∧ l.length ≤ 1000 := by
  have h : ∀ l ∈ schemas, (∀ a ∈ l, OkAttr a) ∧ l.length ≠ 0 ∧ l.length ≤ 1000 := by decide +kernel
  intro l hl
  obtain ⟨h1, h2, h3⟩ := h l hl
  exact ⟨h1, fun e => h2 (by rw [e]; rfl), h3⟩
def defOld : List ByteArray := [⟨#[100, 101, 102]⟩, ⟨#[111, 108, 100]⟩]
/-- An expression was made; nothing that was there has changed. -/
def LawExprQ (M : List Nat) (w : World) (e : Ending) (w' : World) : Prop := ∃ (x : Ex) (v : ExV) (attrs : List Attr), e = .returned v.val ∧ attrs ∈ schemas ∧ MadeE attrs defOld 5 x ∧ IsEx (mask w' M) x v.val ∧ Ext w w'

end Go.Proofs.YtfjlglefodndjaaGreatDoor

namespace Go.Proofs.YtfjlglefodndjaaGreatDoor
open Go.RowKit

theorem rletter_calls (c : Int) (w : World) : Calls Tryz.prog 98 #[.int .u8 c] w (Gives (.bool (letterB c)) w) := by
  go_enter Tryz.func98, Tryz.ntmps98
  go_wp2_with fail
  all_goals (go_ret; exact gives_bool (by simp [letterB]; omega))
theorem rdigit_calls (c : Int) (w : World) : Calls Tryz.prog 99 #[.int .u8 c] w (Gives (.bool (digitB c)) w) := by
  go_enter Tryz.func99, Tryz.ntmps99
  go_wp2_with fail
  all_goals (go_ret; exact gives_bool (by simp [digitB]; omega))
theorem far_calls (n : Int) (w : World) : Calls Tryz.prog 84 #[.int .i64 n] w (Gives (.bool (!numberB n)) w) := by
  go_enter Tryz.func84, Tryz.ntmps84
  go_wp2_with fail
  all_goals (go_ret; exact gives_bool (by rw [Bool.eq_iff_iff]; simp [numberB]; omega))
set_option maxHeartbeats 1000000 in
theorem rreserved_calls (s : ByteArray) (w : World) : Calls Tryz.prog 81 #[.string s] w (Gives (.bool (reservedB s)) w) := by
  go_enter Tryz.func81, Tryz.ntmps81
  go_wp2_with fail
  all_goals (go_ret; exact gives_bool (by simp_all [reservedB, reservedWords]))

theorem spanF_every (p : Int → Bool) (s : ByteArray) : ∀ (m k : Nat), s.size - k = m → k ≤ s.size → (spanF p s (s.size - k) k = s.size ↔ ∀ j (h : j < s.size), k ≤ j → p (s[j].toNat : Int) = true) := by
  intro m
  induction m with
  | zero =>
    intro k hm hk
    rw [spanF_end (by omega)]
    exact ⟨fun _ j h hj => by omega, fun _ => by omega⟩
  | succ m ih =>
    intro k hm hk
    have hlt : k < s.size := by omega
    cases hp : p (s[k].toNat : Int)
    · rw [spanF_stop hlt hp]
      exact ⟨fun h => by omega, fun h => by rw [h k hlt (Nat.le_refl _)] at hp; cases hp⟩
    · rw [spanF_step hlt hp, ih (k + 1) (by omega) (by omega)]
      refine ⟨fun h j hj hkj => ?_, fun h j hj hkj => h j hj (by omega)⟩
      by_cases e : j = k
      · subst e; exact hp
      · exact h j hj (by omega)
theorem wordB_of {s : ByteArray} (h0 : s.size ≠ 0) (h1 : s.size ≤ 16) (h2 : letterB (byteAt s 0) = true) (h3 : byteAt s (s.size - 1) ≠ 45) (h : ∀ j (hj : j < s.size), inWordB (s[j].toNat : Int) = true) : wordB s = true := by
  have := (spanF_every inWordB s _ 0 rfl (by omega)).2 (fun j hj _ => h j hj)
  rw [Nat.sub_zero] at this
  simp [wordB, h0, h1, h2, h3, this]
theorem wordB_no {s : ByteArray} {j : Nat} (hj : j < s.size) (h : inWordB (s[j].toNat : Int) = false) : wordB s = false := by
  cases hb : wordB s
  · rfl
  simp only [wordB, Bool.and_eq_true, beq_iff_eq] at hb
  have := (spanF_every inWordB s _ 0 rfl (by omega)).1 (by rw [Nat.sub_zero]; exact hb.2) j hj (by omega)
  rw [h] at this; cases this

set_option maxRecDepth 100000 in
set_option maxHeartbeats 1000000 in
theorem rword_calls (s : ByteArray) (w : World) (hs : s.size ≤ 1000000000000000) : Calls Tryz.prog 80 #[.string s] w (Gives (.bool (wordB s)) w) := by
  by_cases h0 : s.size = 0
  · have H := Lib.hid (show wordB s = false by simp [wordB, h0])
    have hz : decide ((s.size : Int) < 1) = true := by simp [h0]
    clear h0
    go_enter Tryz.func80, Tryz.ntmps80
    go_wp2_with fail
    go_ret
    exact gives_bool (by rw [H.out])
  have hz : decide ((s.size : Int) < 1) = false := by simp; omega
  by_cases h1 : s.size ≤ 16
  · have hb0 := byteAt_lt (show 0 < s.size by omega)
    have hb1 := byteAt_lt (show s.size - 1 < s.size by omega)
    have hz2 : decide ((16 : Int) < s.size) = false := by simp; omega
    cases h2 : letterB (s[0]'(by omega)).toNat
    · have H := Lib.hid (show wordB s = false by simp [wordB, hb0, h2])
      have H2 := Lib.hid h2
      clear h2 hb0 hb1
      go_enter Tryz.func80, Tryz.ntmps80
      go_wp2_with fail
      refine (rletter_calls _ _).mono ?_
      rintro e w' ⟨rfl, rfl⟩
      rw [H2.out]
      go_wp2_with fail
      go_ret
      exact gives_bool (by rw [H.out])
    · have H2 := Lib.hid h2
      have HB0 := Lib.hid hb0
      have HB1 := Lib.hid hb1
      clear h2 hb0 hb1
      have e1 : ((s.size : Int) - 1).toNat = s.size - 1 := by omega
      cases h3 : ((s[s.size - 1]'(by omega)).toNat : Int) == 45
      · have HY := Lib.hid (show (∀ j (hj : j < s.size), inWordB (s[j].toNat : Int) = true) → wordB s = true from fun h => wordB_of h0 h1 (by rw [HB0.out]; exact H2.out) (by rw [HB1.out]; simpa using h3) h)
        go_enter Tryz.func80, Tryz.ntmps80
        go_wp2_with fail
        refine (rletter_calls _ _).mono ?_
        rintro e w' ⟨rfl, rfl⟩
        rw [H2.out]
        go_wp2_with fail
        go_loop [3] (fun i => ∃ k : Nat, i = .int .i64 k ∧ k ≤ s.size ∧ ∀ j (hj : j < s.size), j < k → inWordB (s[j].toNat : Int) = true) (fun i => s.size - (intOf i).toNat)
        case atStart => exact ⟨0, rfl, by omega, fun j _ h => by omega⟩
        case round =>
          obtain ⟨k, rfl, hk, hall⟩ := hrel
          have HA := Lib.hid hall
          clear hall
          by_cases hlt : k < s.size
          · have HN := Lib.hid (fun h => wordB_no (s := s) hlt h)
            cases h4 : letterB (s[k].toNat : Int)
            · cases h5 : digitB (s[k].toNat : Int)
              · cases h6 : ((s[k].toNat : Int) == 45)
                · have H := Lib.hid (HN.out (by simp [inWordB, h4, h5, h6]))
                  have h6' : ((s[k].toNat : Int) != 45) = true := by simpa using h6
                  have H4 := Lib.hid h4
                  have H5 := Lib.hid h5
                  clear h4 h5
                  go_wp2_with fail
                  refine (rletter_calls _ _).mono ?_
                  rintro e w' ⟨rfl, rfl⟩
                  rw [H4.out]
                  go_wp2_with fail
                  refine (rdigit_calls _ _).mono ?_
                  rintro e w' ⟨rfl, rfl⟩
                  rw [H5.out]
                  go_wp2_with fail
                  go_ret
                  exact gives_bool (by rw [H.out])
                · have H := Lib.hid (show inWordB (s[k].toNat : Int) = true by simp [inWordB, h4, h5, h6])
                  have h6' : ((s[k].toNat : Int) != 45) = false := by simpa using h6
                  have H4 := Lib.hid h4
                  have H5 := Lib.hid h5
                  clear h4 h5
                  go_wp2_with fail
                  refine (rletter_calls _ _).mono ?_
                  rintro e w' ⟨rfl, rfl⟩
                  rw [H4.out]
                  go_wp2_with fail
                  refine (rdigit_calls _ _).mono ?_
                  rintro e w' ⟨rfl, rfl⟩
                  rw [H5.out]
                  go_wp2_with fail
                  go_round
                  case rel => exact ⟨k + 1, by go_num, by omega, fun j hj hjk => by
                    by_cases e : j = k
                    · subst e; exact H.out
                    · exact HA.out j hj (by omega)⟩
                  case measure => simp [intOf]; omega
              · have H := Lib.hid (show inWordB (s[k].toNat : Int) = true by simp [inWordB, h4, h5])
                have H4 := Lib.hid h4
                have H5 := Lib.hid h5
                clear h4 h5
                go_wp2_with fail
                refine (rletter_calls _ _).mono ?_
                rintro e w' ⟨rfl, rfl⟩
                rw [H4.out]
                go_wp2_with fail
                refine (rdigit_calls _ _).mono ?_
                rintro e w' ⟨rfl, rfl⟩
                rw [H5.out]
                go_wp2_with fail
                go_round
                case rel => exact ⟨k + 1, by go_num, by omega, fun j hj hjk => by
                  by_cases e : j = k
                  · subst e; exact H.out
                  · exact HA.out j hj (by omega)⟩
                case measure => simp [intOf]; omega
            · have H := Lib.hid (show inWordB (s[k].toNat : Int) = true by simp [inWordB, h4])
              have H4 := Lib.hid h4
              clear h4
              go_wp2_with fail
              refine (rletter_calls _ _).mono ?_
              rintro e w' ⟨rfl, rfl⟩
              rw [H4.out]
              go_wp2_with fail
              go_round
              case rel => exact ⟨k + 1, by go_num, by omega, fun j hj hjk => by
                by_cases e : j = k
                · subst e; exact H.out
                · exact HA.out j hj (by omega)⟩
              case measure => simp [intOf]; omega
          · go_wp2_with fail
            go_ret
            exact gives_bool (by rw [HY.out (fun j hj => HA.out j hj (by omega))])
      · have H := Lib.hid (show wordB s = false by simp [wordB, HB0.out, HB1.out, H2.out, h1, h0]; intro h; simp at h3; omega)
        go_enter Tryz.func80, Tryz.ntmps80
        go_wp2_with fail
        refine (rletter_calls _ _).mono ?_
        rintro e w' ⟨rfl, rfl⟩
        rw [H2.out]
        go_wp2_with fail
        go_ret
        exact gives_bool (by rw [H.out])
  · have H := Lib.hid (show wordB s = false by simp [wordB]; omega)
    have hz2 : decide ((16 : Int) < s.size) = true := by simp; omega
    go_enter Tryz.func80, Tryz.ntmps80
    go_wp2_with fail
    go_ret
    exact gives_bool (by rw [H.out])
theorem rname_calls (s : ByteArray) (w : World) (hs : s.size ≤ 1000000000000000) : Calls Tryz.prog 54 #[.string s] w (Gives (.bool (nameB s)) w) := by
  go_enter Tryz.func54, Tryz.ntmps54
  go_wp2_with (first
    | (go_at_call 80; refine (rword_calls _ _ hs).mono ?_; rintro e w' ⟨rfl, rfl⟩)
    | (go_at_call 81; refine (rreserved_calls _ _).mono ?_; rintro e w' ⟨rfl, rfl⟩))
  all_goals (go_ret; exact gives_bool (by simp_all [nameB]))

set_option maxRecDepth 100000 in
theorem names_calls (l : List ByteArray) (a : Option Addr) (n c : Nat) (w : World) (hl : IsStrs w l a n c) (hn : n ≤ 1000000000000000) (hsz : ∀ x ∈ l, x.size ≤ 1000000000000000) :
    Calls Tryz.prog 82 #[.slice a n c] w (Gives (.bool (l.all nameB)) w) := by
  have HL := Lib.hid hl
  have HZ := Lib.hid hsz
  have hnl := Lib.hid hl.1
  clear hl hsz
  go_enter Tryz.func82, Tryz.ntmps82
  go_wp2_with fail
  go_loop [3] (fun t => ∃ k : Nat, t = .int .i64 k ∧ k ≤ n ∧ ∀ j (hj : j < l.length), j < k → nameB l[j] = true) (fun t => n - (intOf t).toNat)
  case atStart => exact ⟨0, rfl, by omega, fun j _ h => by omega⟩
  case round =>
    obtain ⟨k, rfl, hk, hlo⟩ := hrel
    have HO := Lib.hid hlo
    clear hlo
    by_cases hlt : k < n
    · have hlt' : k < l.length := by have := hnl.out; omega
      have hsk := HZ.out _ (List.getElem_mem hlt')
      obtain ⟨b, off, rfl, hcell⟩ := HL.out.2.2.2 k hlt'
      cases h3 : nameB l[k]
      · have H := Lib.hid (show l.all nameB = false by
          rw [List.all_eq_false]; exact ⟨l[k], List.getElem_mem hlt', by simp [h3]⟩)
        have H3 := Lib.hid h3
        clear h3
        go_wp2_with fail
        refine (rname_calls _ _ hsk).mono ?_
        rintro e w' ⟨rfl, rfl⟩
        rw [H3.out]
        go_wp2_with fail
        go_ret
        exact gives_bool (by rw [H.out])
      · have H3 := Lib.hid h3
        clear h3
        go_wp2_with fail
        refine (rname_calls _ _ hsk).mono ?_
        rintro e w' ⟨rfl, rfl⟩
        rw [H3.out]
        go_wp2_with fail
        go_round
        case rel => exact ⟨k + 1, by go_num, by omega, fun j hj hjk => by
          by_cases e : j = k
          · subst e; exact H3.out
          · exact HO.out j hj (by omega)⟩
        case measure => simp [intOf]; omega
    · go_wp2_with fail
      go_ret
      exact gives_bool (by
        symm
        rw [List.all_eq_true]
        intro x hx
        obtain ⟨j, hj, rfl⟩ := List.getElem_of_mem hx
        exact HO.out j hj (by have := hnl.out; omega))

theorem nodup_of {l : List ByteArray} {n : Nat} (hn : n = l.length) (h : ∀ i j (hi : i < l.length) (hj : j < l.length), i < n → j < i → l[i] ≠ l[j]) : l.Nodup := by
  rw [List.Nodup, List.pairwise_iff_getElem]
  intro i j hi hj hij e
  exact h j i hj hi (by omega) hij e.symm

/-- A value is handed back; memory is as it was. -/
def GivesD (v : Value) (w : World) (e : Ending) (w' : World) : Prop := e = .returned v ∧ ∃ n, w' = w.drewN n
theorem drewN_drewN (w : World) (a b : Nat) : (w.drewN a).drewN b = w.drewN (a + b) := by simp [World.drewN, Nat.add_assoc]
theorem givesD_bool {a b : Bool} {w w' : World} (h : a = b) (hx : ∃ n, w' = w.drewN n) : GivesD (.bool b) w (.returned (.bool a)) w' := by subst h; exact ⟨rfl, hx⟩
set_option maxRecDepth 100000 in
set_option maxHeartbeats 1000000 in
theorem distinct_calls (l : List ByteArray) (a : Option Addr) (n c : Nat) (w : World) (hl : IsStrs w l a n c) (hn : n ≤ 1000000000000000) :
    Calls Tryz.prog 83 #[.slice a n c] w (GivesD (.bool (decide l.Nodup)) w) := by
  have HL := Lib.hid hl
  have hnl := Lib.hid hl.1
  clear hl
  go_enter Tryz.func83, Tryz.ntmps83
  go_wp2_with fail
  go_loopw [3, 4] (fun t _ wr => ∃ k : Nat, t = .int .i64 k ∧ k ≤ n ∧ (∀ i j (hi : i < l.length) (hj : j < l.length), i < k → j < i → l[i] ≠ l[j]) ∧ ∃ q, wr = w.drewN q) (fun t _ _ => n - (intOf t).toNat)
  case atStart => exact ⟨0, rfl, by omega, fun i j _ _ h => by omega, 0, rfl⟩
  case round =>
    obtain ⟨k, rfl, hk, hlo, q, rfl⟩ := hrel
    have HO := Lib.hid hlo
    clear hlo
    by_cases hlt : k < n
    · have hlt' : k < l.length := by have := hnl.out; omega
      go_wp2_with fail
      go_loopw [4] (fun t wr2 => ∃ m : Nat, t = .int .i64 m ∧ m ≤ k ∧ (∀ j (hj : j < l.length), j < m → l[k] ≠ l[j]) ∧ ∃ q, wr2 = w.drewN q) (fun t _ => k - (intOf t).toNat)
      case atStart => exact ⟨0, rfl, by omega, fun j _ h => by omega, q, rfl⟩
      case round =>
        obtain ⟨m, rfl, hm, hne, q2, rfl⟩ := hrel
        have HE := Lib.hid hne
        clear hne
        by_cases hmk : m < k
        · have hmk' : m < l.length := by omega
          obtain ⟨b, off, rfl, hc1⟩ := HL.out.2.2.2 k hlt'
          obtain ⟨b', off', e, hc2⟩ := HL.out.2.2.2 m hmk'
          simp only [Option.some.injEq, Addr.mk.injEq, and_true] at e
          obtain ⟨rfl, rfl⟩ := e
          have ti0 : (0 : Int) ≤ (k : Int) := by omega
          have ti1 : (k : Int) < (n : Int) := by omega
          have tj0 : (0 : Int) ≤ (m : Int) := by omega
          have tj1 : (m : Int) < (n : Int) := by omega
          cases he : (l[k].toList == l[m].toList)
          · have HQ := Lib.hid he
            go_wp2_with fail
            go_quiet (fail)
            go_wp2_with fail
            go_roundw
            case rel =>
              refine ⟨m + 1, by go_num, by omega, fun j hj hjm => ?_, _, rfl⟩
              by_cases e : j = m
              · subst e; intro h; have := HQ.out; rw [h] at this; simp at this
              · exact HE.out j hj (by omega)
            case measure => simp [intOf]; omega
          · have H := Lib.hid (show decide l.Nodup = false by
              rw [decide_eq_false_iff_not]
              intro hnd
              have h1 := toList_inj (beq_iff_eq.1 he)
              rw [List.Nodup, List.pairwise_iff_getElem] at hnd
              exact hnd m k hmk' hlt' hmk h1.symm)
            go_wp2_with fail
            go_quiet (fail)
            go_wp2_with fail
            go_ret
            exact givesD_bool (by rw [H.out]) ⟨_, drewN_drewN _ _ _⟩
        · go_wp2_with fail
          go_roundw
          case rel =>
            refine ⟨k + 1, by go_num, by omega, fun i j hi hj hik hji => ?_, q2, rfl⟩
            by_cases e : i = k
            · subst e; exact HE.out j hj (by omega)
            · exact HO.out i j hi hj (by omega) hji
          case measure => simp [intOf]; omega
    · go_wp2_with fail
      go_ret
      exact givesD_bool (by
        symm
        rw [decide_eq_true_eq]
        exact nodup_of hnl.out (fun i j hi hj hin hji => HO.out i j hi hj (by omega) hji)) ⟨q, rfl⟩
end Go.Proofs.YtfjlglefodndjaaGreatDoor

namespace Go.Proofs.YtfjlglefodndjaaGreatDoor

/-! Expressions of any size, each with a bounded number of arguments. -/
mutual
def Ex.slim : Ex → Prop
  | .mk _ _ _ _ _ args => args.length ≤ 1000000000000000 ∧ slimAll args
def slimAll : List Ex → Prop
  | [] => True
  | e :: r => e.slim ∧ slimAll r
end
theorem slimAll_iff : (l : List Ex) → (slimAll l ↔ ∀ x ∈ l, x.slim)
  | [] => by simp [slimAll]
  | e :: r => by rw [slimAll, slimAll_iff r]; simp
theorem slim_parts {e : Ex} (h : e.slim) : e.args.length ≤ 1000000000000000 ∧ ∀ x ∈ e.args, x.slim := by
  cases e; unfold Ex.slim at h; exact ⟨h.1, (slimAll_iff _).1 h.2⟩
theorem slim_mk {op lo hi : Int} {name : ByteArray} {words : List ByteArray} {args : List Ex} (h1 : args.length ≤ 1000000000000000) (h2 : ∀ x ∈ args, x.slim) : (Ex.mk op name words lo hi args).slim := by
  unfold Ex.slim; exact ⟨h1, (slimAll_iff _).2 h2⟩
mutual
theorem slim_of_size : (e : Ex) → e.size ≤ 1000000000000000 → e.slim
  | .mk op name words lo hi args, h => by
    rw [Ex.size] at h
    have := length_le_sizes args
    unfold Ex.slim
    exact ⟨by omega, slimAll_of_size args (by omega)⟩
theorem slimAll_of_size : (l : List Ex) → sizes l ≤ 1000000000000000 → slimAll l
  | [], _ => by unfold slimAll; trivial
  | e :: r, h => by
    rw [sizes] at h
    unfold slimAll
    exact ⟨slim_of_size e (by omega), slimAll_of_size r (by omega)⟩
end
end Go.Proofs.YtfjlglefodndjaaGreatDoor

namespace Go.Proofs.YtfjlglefodndjaaGreatDoor
open Go.RowKit

theorem size_pos (e : Ex) : 1 ≤ e.size := by rw [e.size_eq]; omega

/-- Size of the reference: at most 301. -/
def refSize (e : Ex) : Nat := min e.size 301
def refSizes : List Ex → Nat
  | [] => 0
  | e :: r => refSize e + refSizes r
theorem refSizes_le (l : List Ex) : refSizes l ≤ sizes l ∧ l.length ≤ refSizes l ∧ min (1 + refSizes l) 301 = min (1 + sizes l) 301 := by
  induction l with
  | nil => simp [refSizes, sizes]
  | cons e r ih => have := size_pos e; simp only [refSizes, sizes, refSize, List.length_cons]; omega
theorem refSizes_take_succ (l : List Ex) (k : Nat) (hk : k < l.length) : refSizes (l.take (k + 1)) = refSizes (l.take k) + refSize l[k] := by
  induction l generalizing k with
  | nil => simp at hk
  | cons e r ih =>
    cases k with
    | zero => simp [refSizes]
    | succ k => have := ih k (by simpa using hk); simp only [List.take_succ_cons, refSizes, this, List.getElem_cons_succ]; omega
theorem refSize_of {e : Ex} {k : Nat} (hs : k = e.args.length ∨ 300 < 1 + refSizes (e.args.take k)) : min (1 + refSizes (e.args.take k)) 301 = refSize e := by
  have h1 := e.size_eq
  have h2 := refSizes_le (e.args.take k)
  have h3 := sizes_take_le e.args k
  have h4 := refSizes_le e.args
  unfold refSize
  rcases hs with hs | hs
  · rw [hs, List.take_length]; omega
  · omega

set_option maxRecDepth 100000 in
set_option maxHeartbeats 1000000 in
theorem rsize_calls (m : Nat) : ∀ (e : Ex) (v : Value) (w : World), e.size ≤ m → IsEx w e v → Calls Tryz.prog 5 #[v] w (GivesE (.int .i64 (refSize e)) w) := by
  induction m with
  | zero => intro e v w h; have := size_pos e; omega
  | succ m ih =>
    intro e v w hm he
    obtain ⟨aw, nw, cw, aa, na, ca, rfl, hw, hna, hca, ha, hx⟩ := he.parts
    have HX := Lib.hid hx
    have HN := Lib.hid hna
    have hS : e.size = 1 + sizes e.args := e.size_eq
    have hb2 : sizes e.args ≤ m := by omega
    have H : Hid (∀ (e : Ex) (v : Value) (w : World), e.size ≤ m → IsEx w e v → Calls Tryz.prog 5 #[v] w (GivesE (.int .i64 (refSize e)) w)) := ih
    clear ih hx hna hw hca ha he hS hm
    unfold exV
    go_enter Tryz.func5, Tryz.ntmps5
    go_wp2_with fail
    go_loopw [3, 4] (fun s i wr => ∃ k : Nat, k ≤ na ∧ i = .int .i64 k ∧ s = .int .i64 (1 + (refSizes (e.args.take k) : Int)) ∧ refSizes (e.args.take k) ≤ 601 ∧ wr.heap[w.heap.size]? = some (.cells #[.int .i64 e.op, .string e.name, .slice aw nw cw, .int .i64 e.lo, .int .i64 e.hi, .slice aa na ca] 29 (0, 0)) ∧ Ext w wr) (fun _ i _ => na - (intOf i).toNat)
    case atStart => exact ⟨0, by omega, rfl, by simp [refSizes], by simp [refSizes], alloc_new w _, (Ext.refl w).alloc _⟩
    case round =>
      obtain ⟨k, hk, rfl, rfl, hb6, hbx, hb⟩ := hrel
      have HBX := Lib.hid hbx
      have HB := Lib.hid hb
      have hlt0 := blk_lt hbx
      obtain ⟨b0, b1, b2, b3, b4, b5, bf⟩ := blk6 hbx
      have hkl : k ≤ refSizes (e.args.take k) := by have := (refSizes_le (e.args.take k)).2.1; have hl := HN.out; rw [List.length_take] at this; omega
      clear hbx hb
      by_cases hlt : k < na
      · have hlt' : k < e.args.length := by have := HN.out; omega
        by_cases hc : refSizes (e.args.take k) ≤ 299
        · have t1 : decide ((k : Int) < (na : Int)) = true := by simp; omega
          have t2 : decide (1 + (refSizes (e.args.take k) : Int) ≤ 300) = true := by simp; omega
          obtain ⟨b, off, rfl, aw1, nw1, cw1, aa1, na1, ca1, h0, h1, h2, h3, h4, h5, h6⟩ := ExsD.at e.args _ (ExsD.ext HB.out e.args _ HX.out) k hlt'
          have H6 := Lib.hid h6
          have hs1 := Lib.hid (refSizes_take_succ e.args k hlt')
          have hsz := sizes_take_succ e.args k hlt'
          have hsl := sizes_take_le e.args (k + 1)
          have hk1 : e.args[k].size ≤ m := by omega
          have hr : refSize e.args[k] ≤ 301 := by unfold refSize; omega
          clear h6 hsz hsl
          go_wp2_with fail
          refine (H.out e.args[k] _ _ hk1 H6.out).mono ?_
          rintro r w1 ⟨rfl, hb1⟩
          have HE1 := Lib.hid hb1
          clear b0 b1 b2 b3 b4 b5 bf hb1
          go_wp2_with fail
          go_roundw
          case rel => exact ⟨k + 1, by omega, by go_num, by rw [hs1.out]; go_num, by rw [hs1.out]; omega, HE1.out.blk HBX.out, HB.out.trans HE1.out⟩
          case measure => simp [intOf]; omega
        · have t1 : decide ((k : Int) < (na : Int)) = true := by simp; omega
          have t2 : decide (1 + (refSizes (e.args.take k) : Int) ≤ 300) = false := by simp; omega
          have H1 := Lib.hid (refSize_of (e := e) (k := k) (Or.inr (by omega)))
          go_wp2_with fail
          all_goals (go_ret; exact givesE_int (by rw [← H1.out]; omega) HB.out)
      · have t1 : decide ((k : Int) < (na : Int)) = false := by simp; omega
        have H1 := Lib.hid (refSize_of (e := e) (k := k) (Or.inl (by have := HN.out; omega)))
        go_wp2_with fail
        all_goals (go_ret; exact givesE_int (by rw [← H1.out]; omega) HB.out)
set_option maxRecDepth 100000 in
set_option maxHeartbeats 1000000 in
theorem deeper_slim (m : Nat) : ∀ (e : Ex) (v : Value) (w : World) (n : Nat), e.size ≤ m → e.slim → n ≤ 1000 → IsEx w e v → Calls Tryz.prog 56 #[v, .int .i64 n] w (GivesE (.bool (decide (n < e.depth))) w) := by
  induction m with
  | zero => intro e v w n h; have := size_pos e; omega
  | succ m ih =>
    intro e v w n hm hsl hn he
    obtain ⟨hsl1, hsl2⟩ := slim_parts hsl
    obtain ⟨aw, nw, cw, aa, na, ca, rfl, hw, hna, hca, ha, hx⟩ := he.parts
    have HX := Lib.hid hx
    have HN := Lib.hid hna
    have HD := Lib.hid e.depth_eq
    have hS : e.size = 1 + sizes e.args := e.size_eq
    have hb2 : sizes e.args ≤ m := by omega
    have hna2 : na ≤ 1000000000000000 := by omega
    have HSL := Lib.hid hsl2
    have H : Hid (∀ (e : Ex) (v : Value) (w : World) (n : Nat), e.size ≤ m → e.slim → n ≤ 1000 → IsEx w e v → Calls Tryz.prog 56 #[v, .int .i64 n] w (GivesE (.bool (decide (n < e.depth))) w)) := fun e v w n h1 h0 h2 h3 => ih e v w n h1 h0 h2 h3
    clear hsl hsl1 hsl2 ih hx hna hw hca ha he hS hm
    unfold exV
    by_cases hn0 : n = 0
    · have t1 : ((n : Int) == 0) = true := by simp [hn0]
      have H1 := Lib.hid (show decide (n < e.depth) = true by rw [decide_eq_true_eq, HD.out]; omega)
      generalize decide (n < e.depth) = B at *
      go_enter Tryz.func56, Tryz.ntmps56
      go_wp2_with fail
      go_ret
      exact givesE_bool (by rw [H1.out]) ((Ext.refl w).alloc _)
    · have hn1 : 1 ≤ n := by omega
      have t1 : ((n : Int) == 0) = false := by simp; omega
      obtain ⟨B, hB⟩ : ∃ B, B = decide (n < e.depth) := ⟨_, rfl⟩
      rw [← hB]
      have HBQ := Lib.hid hB
      clear hB
      go_enter Tryz.func56, Tryz.ntmps56
      go_wp2_with fail
      go_loopw [5] (fun i wr => ∃ k : Nat, k ≤ na ∧ i = .int .i64 k ∧ (∀ j (hj : j < e.args.length), j < k → ¬ n - 1 < e.args[j].depth) ∧ wr.heap[w.heap.size]? = some (.cells #[.int .i64 e.op, .string e.name, .slice aw nw cw, .int .i64 e.lo, .int .i64 e.hi, .slice aa na ca] 29 (0, 0)) ∧ Ext w wr) (fun i _ => na - (intOf i).toNat)
      case atStart => exact ⟨0, by omega, rfl, fun j _ h => by omega, alloc_new w _, (Ext.refl w).alloc _⟩
      case round =>
        obtain ⟨k, hk, rfl, hall, hbx, hb⟩ := hrel
        have HA := Lib.hid hall
        have HBX := Lib.hid hbx
        have HB := Lib.hid hb
        have hlt0 := blk_lt hbx
        obtain ⟨b0, b1, b2, b3, b4, b5, bf⟩ := blk6 hbx
        clear hbx hb hall
        by_cases hlt : k < na
        · have hlt' : k < e.args.length := by have := HN.out; omega
          obtain ⟨b, off, rfl, aw1, nw1, cw1, aa1, na1, ca1, h0, h1, h2, h3, h4, h5, h6⟩ := ExsD.at e.args _ (ExsD.ext HB.out e.args _ HX.out) k hlt'
          have H6 := Lib.hid h6
          have hsz := sizes_take_succ e.args k hlt'
          have hsl := sizes_take_le e.args (k + 1)
          have hk1 : e.args[k].size ≤ m := by omega
          have HM1 := Lib.hid (depths_mem (List.getElem_mem hlt'))
          clear h6 hsz hsl
          have HCA := Lib.hid (show (n : Int) - 1 = ((n - 1 : Nat) : Int) by omega)
          go_wp2_with fail
          rw [HCA.out]
          refine (H.out e.args[k] _ _ (n - 1) hk1 (HSL.out _ (List.getElem_mem hlt')) (by omega) H6.out).mono ?_
          rintro r w1 ⟨rfl, hb1⟩
          have HE1 := Lib.hid hb1
          clear b0 b1 b2 b3 b4 b5 bf hb1
          by_cases hdp : n - 1 < e.args[k].depth
          · rw [decide_eq_true hdp]
            have H1 := Lib.hid (show B = true by rw [HBQ.out, decide_eq_true_eq, HD.out]; have := HM1.out; omega)
            clear hdp
            go_wp2_with fail
            go_ret
            exact givesE_bool (by rw [H1.out]) (HB.out.trans HE1.out)
          · rw [decide_eq_false hdp]
            have HND := Lib.hid hdp
            clear hdp
            go_wp2_with fail
            go_roundw
            case rel =>
              refine ⟨k + 1, by omega, by go_num, fun j hj hjk => ?_, HE1.out.blk HBX.out, HB.out.trans HE1.out⟩
              by_cases ej : j = k
              · subst ej; exact HND.out
              · exact HA.out j hj (by omega)
            case measure => simp [intOf]; omega
        · have H1 := Lib.hid (show B = false by
            rw [HBQ.out, decide_eq_false_iff_not, HD.out]
            have : ∀ l : List Ex, (∀ x ∈ l, ¬ n - 1 < x.depth) → depths l ≤ n - 1 := by
              intro l
              induction l with
              | nil => intro _; simp [depths]
              | cons y r ih =>
                intro h
                have h1 := h y (by simp)
                have h2 := ih (fun x hx => h x (List.mem_cons_of_mem _ hx))
                simp only [depths]; omega
            have := this e.args (fun x hx => by
              obtain ⟨j, hj, rfl⟩ := List.getElem_of_mem hx
              exact HA.out j hj (by have := HN.out; omega))
            omega)
          go_wp2_with fail
          go_ret
          exact givesE_bool (by rw [H1.out]) HB.out

theorem deeper_calls (m : Nat) (e : Ex) (v : Value) (w : World) (n : Nat) (hm : e.size ≤ m) (hM : m ≤ 1000000000000000) (hn : n ≤ 1000) (he : IsEx w e v) : Calls Tryz.prog 56 #[v, .int .i64 n] w (GivesE (.bool (decide (n < e.depth))) w) := deeper_slim m e v w n hm (slim_of_size e (by omega)) hn he
end Go.Proofs.YtfjlglefodndjaaGreatDoor
